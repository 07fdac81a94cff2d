/- journal: Trim, Get. -/
import Derived.Test.YtflpelacjdnplaaJrnAdd
namespace Go.Proofs.Ytflpelacjdnplaa
open Go.RowKit

theorem run_min2 (ts : Array TypeId) (t : TypeId) (a b : Int) (w : World) : (Builtin.min_ ts t #[.int .i64 a, .int .i64 b]).run Try.prog w = .ok (.int .i64 (if b < a then b else a)) w := by
  simp [Builtin.min_, Builtin.min2]
theorem run_max2 (ts : Array TypeId) (t : TypeId) (a b : Int) (w : World) : (Builtin.max_ ts t #[.int .i64 a, .int .i64 b]).run Try.prog w = .ok (.int .i64 (if a < b then b else a)) w := by
  simp [Builtin.max_, Builtin.max2]
theorem in_chp {w : World} {P : Program} {f : FuncId} {args : Array Value} {p : In (Ch No w)} {v : Value} (h : ∀ w', Ch No w w' → Calls P f args w' fun e w'' => e = .returned v ∧ Ch No w' w'') :
    Calls P f args p.w fun e w'' => e = .returned v ∧ ∃ q : In (Ch No w), w'' = q.w := in_ch (h _ p.h)
/-- how many a trim lets go -/
def trimK (upto : Int) (gone n : Nat) : Nat := (min (max upto gone) ((gone : Int) + n) - gone).toNat
theorem trimK_le (upto : Int) (gone n : Nat) : trimK upto gone n ≤ n := by unfold trimK; omega
theorem jr_set2 {w : World} {jb n c gone' cap : Nat} {A : Option Addr} {ys : List Ent} {v0 v1 : Value} (h0 : w.cell? ⟨jb, 0, none⟩ = some v0) (h1 : w.cell? ⟨jb, 1, none⟩ = some v1) (h2 : w.cell? ⟨jb, 2, none⟩ = some (.int .i64 cap)) (hf : ∀ i, w.frozen? ⟨jb, i, none⟩ = false) (hl : jb < w.heap.size)
    (row : Tl w (jb + 1) 6 A n c (flatE ys)) (hn : ys.length = n) : Jr ((w.setCell ⟨jb, 0, none⟩ (.slice A n c)).setCell ⟨jb, 1, none⟩ (.int .i64 gone')) jb A n c gone' cap ys := by
  have hc : Ch (fun k => k = jb) w ((w.setCell ⟨jb, 0, none⟩ (.slice A n c)).setCell ⟨jb, 1, none⟩ (.int .i64 gone')) := ((Ch.refl (fun k => k = jb) w).setCell (p := ⟨jb, 0, none⟩) (fun _ => rfl) _).setCell (p := ⟨jb, 1, none⟩) (fun _ => rfl) _
  refine ⟨hn, row.chS hc (fun a ha e => by have := (row.blk a ha).1; omega), ?_, ?_, ?_, fun i => ?_, Nat.lt_of_lt_of_le hl hc.size⟩
  · rw [World.cell?_setCell_other _ _ _ _ (by simp)]; exact World.cell?_setCell_same _ _ _ h0
  · have h3 : (w.setCell ⟨jb, 0, none⟩ (.slice A n c)).cell? ⟨jb, 1, none⟩ = some v1 := by rw [World.cell?_setCell_other _ _ _ _ (by simp)]; exact h1
    exact World.cell?_setCell_same _ _ _ h3
  · rw [World.cell?_setCell_other _ _ _ _ (by simp), World.cell?_setCell_other _ _ _ _ (by simp)]; exact h2
  · rw [World.frozen?_setCell, World.frozen?_setCell]; exact hf i

theorem flatE_drop (xs : List Ent) (k : Nat) : (flatE xs).drop (k * 6) = flatE (xs.drop k) := by
  induction k generalizing xs with
  | zero => simp
  | succ k ih =>
    cases xs with
    | nil => simp [flatE]
    | cons a xs =>
      rw [flatE_cons, List.drop_succ_cons, ← ih xs, show (k + 1) * 6 = a.enc.length + k * 6 from by simp [Ent.enc]; omega, List.drop_append]
      simp

section
variable {w : World} {jb n c gone cap : Nat} {A : Option Addr} {xs : List Ent}
set_option maxHeartbeats 4000000 in
theorem JTrim_any (h : Jr w jb A n c gone cap xs) (upto : Int) (hg : gone ≤ 1000000000000) (hn : n ≤ 100000) : Calls Try.prog 17 #[.pointer (some ⟨jb, 0, none⟩), .int .i64 upto] w fun e w' => e = .returned (.int .i64 (trimK upto gone n)) ∧ ∃ A', Jr w' jb A' (n - trimK upto gone n) (c - trimK upto gone n) (gone + trimK upto gone n) cap (xs.drop (trimK upto gone n)) ∧ Ch (fun k => k = jb) w w' ∧ ∀ a, A' = some a → ∃ a0, A = some a0 ∧ a0.block = a.block := by
  have hkn := trimK_le upto gone n
  have hmx := fun ts t w => run_max2 ts t upto (gone : Int) w
  obtain ⟨mx, hmx0⟩ : ∃ mx, (if upto < (gone : Int) then (gone : Int) else upto) = mx := ⟨_, rfl⟩
  have hmn := fun ts t w => run_min2 ts t mx ((gone : Int) + n) w
  obtain ⟨mn, hmn0⟩ : ∃ mn, (if (gone : Int) + n < mx then (gone : Int) + n else mx) = mn := ⟨_, rfl⟩
  obtain ⟨k, hk⟩ : ∃ k, trimK upto gone n = k := ⟨_, rfl⟩
  rw [hmx0] at hmx
  rw [hmn0] at hmn
  have hkk : mn - (gone : Int) = k := by
    rw [← hk]
    unfold trimK
    split at hmx0 <;> split at hmn0 <;> omega
  rw [hk] at hkn ⊢
  have hwk : IntKind.i64.wrap (mn - (gone : Int)) = k := by rw [hkk]; exact IntWalk.i64_in _ (by omega)
  obtain ⟨nx, hnx⟩ : ∃ nx : Int, (gone : Int) + n + 1 = nx := ⟨_, rfl⟩
  have hw1 : IntKind.i64.wrap (nx - 1) = (gone : Int) + n := by rw [← hnx]; rw [show (gone : Int) + n + 1 - 1 = (gone : Int) + n from by omega]; exact IntWalk.i64_in _ (by omega)
  have hNX := Lib.hid (fun (w' : World) (h : Ch No w w') (hj : Jr w jb A n c gone cap xs) => by have := JNext_any (hj.no h) hg (by omega); rw [hnx] at this; exact this)
  have hNX2 : ∀ w', Ch No w w' → Calls Try.prog 20 #[.pointer (some ⟨jb, 0, none⟩)] w' fun e w'' => e = .returned (.int .i64 nx) ∧ Ch No w' w'' := fun w' hc => hNX.out w' hc h
  have HNX := Lib.hid hNX2
  have HJ := Lib.hid h
  have k1 := in_cell h.c1
  clear hk hmx0 hmn0 hkk hnx hNX hNX2 h
  go_enter Try.func17, Try.ntmps17
  go_wp2_with fail
  (refine wp_region_in (Ch No _) (by kernel_rfl) (by kernel_rfl) (Ch.refl _ _) (fun _ h => ch_drawn h) ?_)
  repeat (go_big_quiet_step (exact in_chp HNX.out))
  (refine wpQuiet_nil ?_; intro wq0 hw'; obtain ⟨pw, hw''⟩ := hw'; subst hw'')
  have HW := Lib.hid (And.intro pw.h (HJ.out.no pw.h))
  generalize pw.w = w1 at *
  clear pw k1 hw1 hwk hmx hmn HNX
  have q0 := HW.out.2.c0
  have q1 := HW.out.2.c1
  have f0 := HW.out.2.fz 0
  have f1 := HW.out.2.fz 1
  have hcn := HW.out.2.row.le
  have hcc := HW.out.2.row.cap
  have hwg : IntKind.i64.wrap ((gone : Int) + k) = (gone : Int) + k := IntWalk.i64_in _ (by omega)
  have HTL := Lib.hid (HW.out.2.row.drop k hkn)
  have HXL := Lib.hid HW.out.2.nn
  have hfd : (flatE xs).drop (k * 6) = flatE (xs.drop k) := flatE_drop xs k
  rw [hfd] at HTL
  clear hfd
  by_cases hkc : k = c
  · have hnk : n = k := by omega
    subst hkc
    subst hnk
    rcases HW.out.2.row.lies with ⟨rfl, rfl⟩ | ⟨g, o, rfl, _⟩
    · have HT1 : Hid (Tl w1 (jb + 1) 6 none (0 - 0) (0 - 0) (flatE (xs.drop 0))) := Lib.hid (by have := HTL.out; rwa [if_pos rfl] at this)
      clear HTL
      go_wp2_with fail
      go_region
      go_wp2_with fail
      go_ret
      exact ⟨rfl, none, (jr_set2 HW.out.2.c0 HW.out.2.c1 HW.out.2.c2 HW.out.2.fz HW.out.2.lt HT1.out (by rw [List.length_drop, HXL.out])).no (Ch.refl _ _).drew, (((jr_ch (S := fun k => k = jb) HW.out.1).setCell (p := ⟨jb, 0, none⟩) (fun _ => rfl) _).setCell (p := ⟨jb, 1, none⟩) (fun _ => rfl) _).drew, fun a ha => ⟨a, ha, rfl⟩⟩
    · have HT1 : Hid (Tl w1 (jb + 1) 6 (some ⟨g, o, none⟩) 0 0 (flatE (xs.drop n))) := Lib.hid (by have := HTL.out; rwa [if_pos rfl, Nat.sub_self] at this)
      clear HTL
      go_wp2_with fail
      go_region
      go_wp2_with fail
      go_ret
      exact ⟨rfl, some ⟨g, o, none⟩, by rw [Nat.sub_self]; exact (jr_set2 (gone' := gone + n) HW.out.2.c0 HW.out.2.c1 HW.out.2.c2 HW.out.2.fz HW.out.2.lt HT1.out (by rw [List.length_drop, HXL.out]; omega)).no (Ch.refl _ _).drew, (((jr_ch (S := fun k => k = jb) HW.out.1).setCell (p := ⟨jb, 0, none⟩) (fun _ => rfl) _).setCell (p := ⟨jb, 1, none⟩) (fun _ => rfl) _).drew, fun a ha => ⟨a, ha, rfl⟩⟩
  · obtain ⟨g, o, rfl⟩ : ∃ g o, A = some ⟨g, o, none⟩ := by
      rcases HW.out.2.row.lies with ⟨_, h0⟩ | ⟨g, o, hA, _⟩
      · omega
      · exact ⟨g, o, hA⟩
    have HT1 : Hid (Tl w1 (jb + 1) 6 (some ⟨g, o + k * 6, none⟩) (n - k) (c - k) (flatE (xs.drop k))) := Lib.hid (by have := HTL.out; rw [if_neg hkc] at this; simpa [addr_mid] using this)
    have hkc1 : ¬ c - k = 0 := by omega
    have hkc2 : 0 < c - k := by omega
    go_wp2_with fail
    go_region
    go_wp2_with fail
    go_ret
    exact ⟨rfl, some ⟨g, o + k * 6, none⟩, (jr_set2 HW.out.2.c0 HW.out.2.c1 HW.out.2.c2 HW.out.2.fz HW.out.2.lt HT1.out (by rw [List.length_drop, HXL.out])).no (Ch.refl _ _).drew, (((jr_ch (S := fun k => k = jb) HW.out.1).setCell (p := ⟨jb, 0, none⟩) (fun _ => rfl) _).setCell (p := ⟨jb, 1, none⟩) (fun _ => rfl) _).drew, fun a ha => by cases ha; exact ⟨_, rfl, rfl⟩⟩
end
end Go.Proofs.Ytflpelacjdnplaa
