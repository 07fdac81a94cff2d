/- journal: how it lies in memory; New, Len, First, Next, Full, Add. -/
import Derived.Test.YtflpelacjdnplaaTail
import Derived.Test.YtflpelacjdnplaaEntAlive
import Derived.Deep.Cut
namespace Go.Proofs.Ytflpelacjdnplaa
open Go.RowKit

theorem beq_nat (n m : Nat) : ((n : Int) == (m : Int)) = decide (n = m) := by
  by_cases h : n = m
  · subst h; simp
  · have : ¬ (n : Int) = (m : Int) := by omega
    simp [h, this]
/-- a journal -/
structure Jr (w : World) (jb : Nat) (A : Option Addr) (n c gone cap : Nat) (xs : List Ent) : Prop where
  nn : xs.length = n
  row : Tl w (jb + 1) 6 A n c (flatE xs)
  c0 : w.cell? ⟨jb, 0, none⟩ = some (.slice A n c)
  c1 : w.cell? ⟨jb, 1, none⟩ = some (.int .i64 gone)
  c2 : w.cell? ⟨jb, 2, none⟩ = some (.int .i64 cap)
  fz : ∀ i, w.frozen? ⟨jb, i, none⟩ = false
  lt : jb < w.heap.size
/-- what a change of it may turn -/
def JS (jb : Nat) (A : Option Addr) : Nat → Prop := fun k => k = jb ∨ ∃ a, A = some a ∧ a.block = k
theorem Jr.chS {S : Nat → Prop} {w w' : World} {jb n c gone cap : Nat} {A : Option Addr} {xs : List Ent} (h : Jr w jb A n c gone cap xs) (hc : Ch S w w') (h1 : ¬ S jb) (h2 : ∀ a, A = some a → ¬ S a.block) : Jr w' jb A n c gone cap xs :=
  ⟨h.nn, h.row.chS hc h2, hc.cell h.c0 h1, hc.cell h.c1 h1, hc.cell h.c2 h1, fun i => hc.frozen (a := ⟨jb, i, none⟩) h.lt (h.fz i) h1, Nat.lt_of_lt_of_le h.lt hc.size⟩
theorem Jr.no {w w' : World} {jb n c gone cap : Nat} {A : Option Addr} {xs : List Ent} (h : Jr w jb A n c gone cap xs) (hc : Ch No w w') : Jr w' jb A n c gone cap xs := h.chS hc (fun h => h) (fun _ _ h => h)
theorem Jr.js {w : World} {jb n c gone cap : Nat} {A : Option Addr} {xs : List Ent} (h : Jr w jb A n c gone cap xs) : ∀ k, JS jb A k → jb ≤ k := by
  rintro k (rfl | ⟨a, ha, rfl⟩)
  · exact Nat.le_refl _
  · exact Nat.le_of_succ_le (h.row.blk a ha).1

theorem JNew_bad (cap : Int) (h : cap < 1 ∨ 4096 < cap) (w : World) : Calls Try.prog 13 #[.int .i64 cap] w fun e w' => e = .returned (.tuple #[.pointer none, .int .i64 1]) ∧ Ch No w w' := by
  by_cases h1 : cap < 1
  · go_enter Try.func13, Try.ntmps13
    go_wp2_with fail
    refine bodyPost_ret (v := .tuple #[.pointer none, .int .i64 1]) (by simp [results, Try.f13, go_sem]) rfl ?_
    exact ⟨rfl, Ch.refl _ _⟩
  · have h2 : 4096 < cap := by omega
    clear h
    go_enter Try.func13, Try.ntmps13
    go_wp2_with fail
    refine bodyPost_ret (v := .tuple #[.pointer none, .int .i64 1]) (by simp [results, Try.f13, go_sem]) rfl ?_
    exact ⟨rfl, Ch.refl _ _⟩
theorem jr_new (w : World) (cap : Nat) : Jr (w.alloc (.cells #[.slice none 0 0, .int .i64 0, .int .i64 cap] 78)) w.heap.size none 0 0 0 cap [] := by
  have hb : Blk (w.alloc (.cells #[.slice none 0 0, .int .i64 0, .int .i64 cap] 78)) w.heap.size 78 [.slice none 0 0, .int .i64 0, .int .i64 cap] := Blk.new w 78 _
  exact ⟨rfl, Tl.nil _ _ _, hb.cell 0, hb.cell 1, hb.cell 2, hb.frozen, by simp⟩
theorem JNew_ok (cap : Nat) (h1 : 1 ≤ cap) (h2 : cap ≤ 4096) (w : World) : Calls Try.prog 13 #[.int .i64 cap] w fun e w' => ∃ jb, e = .returned (.tuple #[.pointer (some ⟨jb, 0, none⟩), .int .i64 0]) ∧ w.heap.size ≤ jb ∧ Jr w' jb none 0 0 0 cap [] ∧ Ch No w w' := by
  have h3 : ¬ (cap : Int) < 1 := by omega
  have h4 : ¬ 4096 < (cap : Int) := by omega
  have hJ := Lib.hid (jr_new w cap)
  go_enter Try.func13, Try.ntmps13
  go_wp2_with fail
  refine bodyPost_ret (v := .tuple #[.pointer (some ⟨w.heap.size, 0, none⟩), .int .i64 0]) (by simp [results, Try.f13, go_sem]) rfl ?_
  exact ⟨_, rfl, Nat.le_refl _, hJ.out, (Ch.refl _ _).alloc _⟩

section
variable {w : World} {jb n c gone cap : Nat} {A : Option Addr} {xs : List Ent}
theorem JLen_any (h : Jr w jb A n c gone cap xs) : Calls Try.prog 18 #[.pointer (some ⟨jb, 0, none⟩)] w fun e w' => e = .returned (.int .i64 n) ∧ Ch No w w' := by
  have k0 := h.c0
  clear h
  go_enter Try.func18, Try.ntmps18
  go_wp2_with fail
  go_ret
  exact ⟨rfl, Ch.refl _ _⟩
theorem JFirst_any (h : Jr w jb A n c gone cap xs) (hg : gone ≤ 1000000000000) : Calls Try.prog 19 #[.pointer (some ⟨jb, 0, none⟩)] w fun e w' => e = .returned (.int .i64 ((gone : Int) + 1)) ∧ Ch No w w' := by
  have k1 := h.c1
  clear h
  go_enter Try.func19, Try.ntmps19
  go_wp2_with fail
  go_ret
  exact ⟨rfl, Ch.refl _ _⟩
theorem JNext_any (h : Jr w jb A n c gone cap xs) (hg : gone ≤ 1000000000000) (hn : n ≤ 1000000) : Calls Try.prog 20 #[.pointer (some ⟨jb, 0, none⟩)] w fun e w' => e = .returned (.int .i64 ((gone : Int) + n + 1)) ∧ Ch No w w' := by
  have k0 := in_cell h.c0
  have k1 := in_cell h.c1
  have e1 : IntKind.i64.wrap ((gone : Int) + n) = (gone : Int) + n := IntWalk.i64_in _ (by omega)
  have e2 : IntKind.i64.wrap ((gone : Int) + n + 1) = (gone : Int) + n + 1 := IntWalk.i64_in _ (by omega)
  clear h
  go_enter Try.func20, Try.ntmps20
  go_wp2_with fail
  (refine wp_region_in (Ch No _) (by kernel_rfl) (by kernel_rfl) (Ch.refl _ _) (fun _ h => ch_drawn h) ?_)
  repeat (go_big_quiet_step (fail))
  (refine wpQuiet_nil ?_; intro wq0 hw'; obtain ⟨pw, hw''⟩ := hw'; subst hw'')
  go_wp2_with fail
  go_ret
  exact ⟨rfl, pw.h⟩
theorem JFull_any (h : Jr w jb A n c gone cap xs) : Calls Try.prog 21 #[.pointer (some ⟨jb, 0, none⟩)] w fun e w' => e = .returned (.bool (decide (n = cap))) ∧ Ch No w w' := by
  have k0 := in_cell h.c0
  have k2 := in_cell h.c2
  clear h
  go_enter Try.func21, Try.ntmps21
  go_wp2_with fail
  (refine wp_region_in (Ch No _) (by kernel_rfl) (by kernel_rfl) (Ch.refl _ _) (fun _ h => ch_drawn h) ?_)
  repeat (go_big_quiet_step (fail))
  (refine wpQuiet_nil ?_; intro wq0 hw'; obtain ⟨pw, hw''⟩ := hw'; subst hw'')
  go_wp2_with fail
  go_ret
  refine ⟨?_, pw.h⟩
  rw [beq_nat]
  rfl
end
end Go.Proofs.Ytflpelacjdnplaa
