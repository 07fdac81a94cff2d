/- entry: how entries come in: one, and a row of them. No walk. -/
import Derived.Test.YtflpelacjdnplaaEntLaws
namespace Go.Proofs.Ytflpelacjdnplaa
open Go.RowKit

set_option maxRecDepth 100000 in
theorem rd_ent {W : World} {n : Nat} {cs : List Value} (h : Rd Try.prog W (n + 2) 32 cs) : ∃ x : Ent, cs = x.enc ∧ wfE x := by
  obtain ⟨hl, hf⟩ := rd_struct h Try.underlying32
  rw [show Try.prog.cellsOf 32 = 6 from by kernel_rfl] at hl
  match cs, hl with
  | [c0, c1, c2, c3, c4, c5], _ =>
    simp only [List.mem_cons, List.not_mem_nil, or_false, forall_eq_or_imp, forall_eq] at hf
    rw [show Try.prog.cellsOf 2 = 1 from by kernel_rfl, show Try.prog.cellsOf 3 = 1 from by kernel_rfl] at hf
    obtain ⟨m0, rfl, w0⟩ := rd_int (c := c0) hf.1 Try.underlying2
    obtain ⟨m1, rfl, w1⟩ := rd_int (c := c1) hf.2.1 Try.underlying2
    obtain ⟨m2, rfl, _⟩ := rd_int (c := c2) hf.2.2.1 Try.underlying3
    obtain ⟨m3, rfl, _⟩ := rd_int (c := c3) hf.2.2.2.1 Try.underlying3
    obtain ⟨m4, rfl, _⟩ := rd_int (c := c4) hf.2.2.2.2.1 Try.underlying3
    obtain ⟨m5, rfl, _⟩ := rd_int (c := c5) hf.2.2.2.2.2 Try.underlying3
    have b0 := bounds_i64 w0
    have b1 := bounds_i64 w1
    exact ⟨⟨m0, m1, m2, m3, m4, m5⟩, rfl, ⟨by simp only; omega, by simp only; omega⟩, by simp only; omega, by simp only; omega⟩
set_option maxRecDepth 100000 in
theorem rd_ents {W : World} {n : Nat} {v : Value} (h : Rd Try.prog W (n + 3) 45 [v]) : ∃ A cap, ∃ xs : List Ent, v = .slice A xs.length cap ∧ Rws W A 6 (xs.map Ent.enc) ∧ (∀ x ∈ xs, wfE x) ∧ xs.length * 48 ≤ 140737488351232 := by
  obtain ⟨A, cap, xs, rfl, hr, hw, hc, hl⟩ := slice_dec (N := n + 2) (sz := 6) (B := 48) Ent.enc wfE h Try.underlying45 (by kernel_rfl) (by kernel_rfl) (by omega) (fun r hr => rd_ent hr)
  exact ⟨A, cap, xs, rfl, hr, hw, hl⟩
theorem Rws.no {w w' : World} {A : Option Addr} {sz : Nat} {rows : List (List Value)} (h : Rws w A sz rows) (hc : Ch No w w') : Rws w' A sz rows := by
  intro pre r post e
  obtain ⟨h1, b, off, hA, h2⟩ := h pre r post e
  exact ⟨h1, b, off, hA, fun j v hj => hc.cell (h2 j v hj) (fun h => h)⟩
/-- the cells of an entry in a row of them -/
theorem Rws.ent {w : World} {A : Option Addr} {xs pre post : List Ent} {a : Ent} (h : Rws w A 6 (xs.map Ent.enc)) (e : xs = pre ++ a :: post) :
    ∃ b off, A = some ⟨b, off, none⟩ ∧ (w.cell? ⟨b, off + pre.length * 6, none⟩ = some (.int .i64 a.t) ∧ w.cell? ⟨b, off + pre.length * 6 + 1, none⟩ = some (.int .i64 a.arg) ∧ w.cell? ⟨b, off + pre.length * 6 + 2, none⟩ = some (.int .i64 a.tenant) ∧ w.cell? ⟨b, off + pre.length * 6 + 3, none⟩ = some (.int .i64 a.person) ∧ w.cell? ⟨b, off + pre.length * 6 + 4, none⟩ = some (.int .i64 a.kind) ∧ w.cell? ⟨b, off + pre.length * 6 + 5, none⟩ = some (.int .i64 a.code)) := by
  obtain ⟨_, b, off, hA, hc⟩ := h (pre.map Ent.enc) a.enc (post.map Ent.enc) (by rw [e]; simp)
  rw [List.length_map] at hc
  exact ⟨b, off, hA, hc 0 _ rfl, hc 1 _ rfl, hc 2 _ rfl, hc 3 _ rfl, hc 4 _ rfl, hc 5 _ rfl⟩
/-- a row of a call's own reads as its entries -/
theorem rowE_rws {e : TypeId} {w : World} {B : Nat} {A : Option Addr} {c n : Nat} {xs : List Ent} (h : w.ownsRow B e 6 (.slice A n c) n (flatE xs)) (hn : n = xs.length) : Rws w A 6 (xs.map Ent.enc) := by
  subst hn
  intro pre r post e
  obtain ⟨p, q, rfl, rfl, e2⟩ := List.map_eq_append_iff.1 e
  obtain ⟨a, q', rfl, rfl, rfl⟩ := List.map_eq_cons_iff.1 e2
  refine ⟨rfl, ?_⟩
  rcases h.2 with ⟨_, h0⟩ | ⟨g, cap, cur, hv, _⟩
  · simp at h0
  · have hA : A = some ⟨g, 0, none⟩ := (Value.slice.inj hv).1
    subst hA
    refine ⟨g, 0, rfl, ?_⟩
    intro j v hj
    have hj6 : j < 6 := by have := (List.getElem?_eq_some_iff.1 hj).1; simpa [Ent.enc] using this
    rw [List.length_map, Nat.zero_add]
    have h1 := h.cellAt (p.length * 6 + j) (by rw [List.length_append, List.length_cons]; omega)
    rw [flatE_at p q' a j hj6, hj] at h1
    exact h1
end Go.Proofs.Ytflpelacjdnplaa
