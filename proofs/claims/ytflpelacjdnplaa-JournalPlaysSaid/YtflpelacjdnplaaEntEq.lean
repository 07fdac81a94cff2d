/- entry: what '==' says of two entries. -/
import Derived.Test.YtflpelacjdnplaaEntIn
namespace Go.Proofs.Ytflpelacjdnplaa
open Go.RowKit

theorem ent_ne {x y : Ent} (h : ¬ (x.t = y.t ∧ x.arg = y.arg ∧ x.tenant = y.tenant ∧ x.person = y.person ∧ x.kind = y.kind ∧ x.code = y.code)) : x ≠ y := by
  rintro rfl
  exact h ⟨rfl, rfl, rfl, rfl, rfl, rfl⟩
theorem ent_eq {x y : Ent} (h : x.t = y.t ∧ x.arg = y.arg ∧ x.tenant = y.tenant ∧ x.person = y.person ∧ x.kind = y.kind ∧ x.code = y.code) : x = y := by
  obtain ⟨h1, h2, h3, h4, h5, h6⟩ := h
  cases x; cases y
  simp at h1 h2 h3 h4 h5 h6
  simp [h1, h2, h3, h4, h5, h6]
theorem eqE_run (x y : Ent) (w : World) : (Op.equalIn 10000 32 (.agg #[.int .i64 x.t, .int .i64 x.arg, .int .i64 x.tenant, .int .i64 x.person, .int .i64 x.kind, .int .i64 x.code]) (.agg #[.int .i64 y.t, .int .i64 y.arg, .int .i64 y.tenant, .int .i64 y.person, .int .i64 y.kind, .int .i64 y.code])).run Try.prog w = .ok (decide (x = y)) w := by
  have hS : Try.prog.underlying 32 = some (.struct (Try.prog.fieldsOf 32)) := by kernel_rfl
  rw [show (10000 : Nat) = 9999 + 1 from rfl, run_equalIn_agg w 9999 32 _ _ hS (by kernel_rfl)]
  simp only [Program.fieldsOf, Try.underlying32]
  go_simp
  by_cases h : x = y
  · subst h
    simp
  · rw [decide_eq_false h]
    (repeat' split) <;> first | rfl | (exfalso; exact h (ent_eq ⟨by assumption, by assumption, by assumption, by assumption, by assumption, by assumption⟩))
theorem eqR_run (x y : Ent) (w : World) : (Op.equalIn 10000 37 (.agg #[.int .i64 x.t, .int .i64 x.arg, .int .i64 x.tenant, .int .i64 x.person, .int .i64 x.kind, .int .i64 x.code]) (.agg #[.int .i64 y.t, .int .i64 y.arg, .int .i64 y.tenant, .int .i64 y.person, .int .i64 y.kind, .int .i64 y.code])).run Try.prog w = .ok (decide (x = y)) w := by
  have hS : Try.prog.underlying 37 = some (.struct (Try.prog.fieldsOf 37)) := by kernel_rfl
  rw [show (10000 : Nat) = 9999 + 1 from rfl, run_equalIn_agg w 9999 37 _ _ hS (by kernel_rfl)]
  simp only [Program.fieldsOf, Try.underlying37]
  go_simp
  by_cases h : x = y
  · subst h
    simp
  · rw [decide_eq_false h]
    (repeat' split) <;> first | rfl | (exfalso; exact h (ent_eq ⟨by assumption, by assumption, by assumption, by assumption, by assumption, by assumption⟩))
end Go.Proofs.Ytflpelacjdnplaa
