/- LabelJoins: joins, and meets, go in any order, of two and of three: the walk. -/
import Derived.Test.YtjjeafedlnfhfaaLabBits
import Derived.Test.YtjjeafedlnfhfaaLexF
namespace Go.Proofs.Ytjjeafedlnfhfaa
open Go.RowKit

theorem or_comm' (c k : Nat) : orN c k = orN k c := Nat.or_comm c k
theorem an_comm' (c k : Nat) : anN c k = anN k c := Nat.and_comm c k
theorem mx_comm' (c k : Nat) : mxN c k = mxN k c := Nat.max_comm c k
theorem mn_comm' (c k : Nat) : mnN c k = mnN k c := Nat.min_comm c k
theorem or_or (a b c : Nat) : orN a (orN b c) = orN (orN a b) c := (Nat.or_assoc a b c).symm
theorem an_an (a b c : Nat) : anN a (anN b c) = anN (anN a b) c := (Nat.and_assoc a b c).symm
theorem mx_mx (a b c : Nat) : mxN a (mxN b c) = mxN (mxN a b) c := (Nat.max_assoc a b c).symm
theorem mn_mn (a b c : Nat) : mnN a (mnN b c) = mnN (mnN a b) c := (Nat.min_assoc a b c).symm
theorem or_self' (a : Nat) : orN a a = a := Nat.or_self a
theorem an_self' (a : Nat) : anN a a = a := Nat.and_self a
theorem mx_self' (a : Nat) : mxN a a = a := Nat.max_self a
theorem mn_self' (a : Nat) : mnN a a = a := Nat.min_self a
theorem an_or (a b c : Nat) : anN a (orN b c) = orN (anN a b) (anN a c) := Nat.and_or_distrib_left a b c
theorem mn_mx (a b c : Nat) : mnN a (mxN b c) = mxN (mnN a b) (mnN a c) := by unfold mnN mxN; omega
theorem dom_jm (l c m k n q : Nat) : domB (mxN l m) (orN c k) (mnN m n) (anN k q) = true := by
  unfold domB mxN mnN orN anN
  simp
  refine ⟨by omega, ?_⟩
  apply Nat.eq_of_testBit_eq; intro i
  simp only [Nat.testBit_or, Nat.testBit_and]
  cases c.testBit i <;> cases k.testBit i <;> cases q.testBit i <;> rfl

def okE (l : Nat) : Int := if 15 < l then 23 else 0
theorem ok_mx (l m : Nat) : (okE (mxN l m) == 0) = ((okE l == 0) && (okE m == 0)) := by
  unfold okE mxN
  rw [Bool.eq_iff_iff]
  simp
  omega

set_option maxHeartbeats 4000000 in
set_option maxRecDepth 100000 in
theorem labelJoins_core (W : World) (l c m k n q : Nat) (hl : l < 256) (hc : c < 65536) (hm : m < 256) (hk : k < 65536) (hq : q < 65536) :
    Calls Try.prog 11 #[.agg #[.int .u8 l, .int .u16 c], .agg #[.int .u8 m, .int .u16 k], .agg #[.int .u8 n, .int .u16 q]] W fun e w' => e = .returned (.bool true) ∧ Ch No W w' := by
  have he := eqlLab
  have hK : ∀ l c w, l < 256 → Calls Try.prog 30 #[.agg #[.int .u8 (l : Nat), .int .u16 (c : Nat)]] w fun e w' => e = .returned (.int .i64 (okE l)) ∧ Ch No w w' := fun l c w h => LCheck_any l c w h
  obtain ⟨x, hx⟩ : ∃ x, (okE l == 0) = x := ⟨_, rfl⟩
  obtain ⟨y, hy⟩ : ∃ y, (okE m == 0) = y := ⟨_, rfl⟩
  have e1 : (okE (mxN l m) == 0) = (x && y) := by rw [ok_mx, hx, hy]
  have q1 : (((mxN l m : Nat) : Int) == ((mxN m l : Nat) : Int) && ((orN c k : Nat) : Int) == ((orN k c : Nat) : Int)) = true := by rw [mx_comm' l m, or_comm' c k]; simp
  have q2 : (((mnN l m : Nat) : Int) == ((mnN m l : Nat) : Int) && ((anN c k : Nat) : Int) == ((anN k c : Nat) : Int)) = true := by rw [mn_comm' l m, an_comm' c k]; simp
  have q3 : (((mxN l (mxN m n) : Nat) : Int) == ((mxN (mxN l m) n : Nat) : Int) && ((orN c (orN k q) : Nat) : Int) == ((orN (orN c k) q : Nat) : Int)) = true := by rw [mx_mx, or_or]; simp
  have q4 : (((mnN l (mnN m n) : Nat) : Int) == ((mnN (mnN l m) n : Nat) : Int) && ((anN c (anN k q) : Nat) : Int) == ((anN (anN c k) q : Nat) : Int)) = true := by rw [mn_mn, an_an]; simp
  have q5 : (((mxN l l : Nat) : Int) == (l : Int) && ((orN c c : Nat) : Int) == (c : Int)) = true := by rw [mx_self', or_self']; simp
  have q6 : (((mnN l l : Nat) : Int) == (l : Int) && ((anN c c : Nat) : Int) == (c : Int)) = true := by rw [mn_self', an_self']; simp
  have q7 : (((mnN l (mxN m n) : Nat) : Int) == ((mxN (mnN l m) (mnN l n) : Nat) : Int) && ((anN c (orN k q) : Nat) : Int) == ((orN (anN c k) (anN c q) : Nat) : Int)) = true := by rw [mn_mx, an_or]; simp
  have o1 := orN_lt hc hk
  have o2 := orN_lt hk hq
  have a1 := anN_lt k hc
  have a2 := anN_lt q hk
  have a3 := anN_lt q hc
  have J := LJoin_any (w := W)
  have hD : ∀ w, Calls Try.prog 24 #[.agg #[.int .u8 (mxN l m : Nat), .int .u16 (orN c k : Nat)], .agg #[.int .u8 (mnN m n : Nat), .int .u16 (anN k q : Nat)]] w fun e w' => e = .returned (.bool true) ∧ Ch No w w' := fun w => by rw [← dom_jm l c m k n q]; exact LDominates_any _ _ _ _ w o1 a2
  have hK1 := fun w => hK (mxN l m) (orN c k) w (mxN_lt hl hm)
  have hK2 := fun w => hK l c w hl
  have hK3 := fun w => hK m k w hm
  clear J hK
  go_enter Try.func11, Try.ntmps11
  go_wp2_with fail
  refine (labAlive_any _).mono ?_
  rintro e w1 ⟨rfl, hw1⟩
  have C2 : Ch No W w1 := Ch.trans ((((Ch.refl No W).alloc _).alloc _).alloc _) hw1
  have g0 := in_cell (w := w1) (a := ⟨W.heap.size, 0, none⟩) (v := .int .u8 l) (hw1.cell (by (repeat (first | (simp; done) | assumption | (refine cell_nw ?_ ?_; focus (simp; done)) | apply cell_al))) (fun h => h))
  have g1 := in_cell (w := w1) (a := ⟨W.heap.size, 1, none⟩) (v := .int .u16 c) (hw1.cell (by (repeat (first | (simp; done) | assumption | (refine cell_nw ?_ ?_; focus (simp; done)) | apply cell_al))) (fun h => h))
  have g2 := in_cell (w := w1) (a := ⟨W.heap.size + 1, 0, none⟩) (v := .int .u8 m) (hw1.cell (by (repeat (first | (simp; done) | assumption | (refine cell_nw ?_ ?_; focus (simp; done)) | apply cell_al))) (fun h => h))
  have g3 := in_cell (w := w1) (a := ⟨W.heap.size + 1, 1, none⟩) (v := .int .u16 k) (hw1.cell (by (repeat (first | (simp; done) | assumption | (refine cell_nw ?_ ?_; focus (simp; done)) | apply cell_al))) (fun h => h))
  have g4 := in_cell (w := w1) (a := ⟨W.heap.size + 1 + 1, 0, none⟩) (v := .int .u8 n) (hw1.cell (by (repeat (first | (simp; done) | assumption | (refine cell_nw ?_ ?_; focus (simp; done)) | apply cell_al))) (fun h => h))
  have g5 := in_cell (w := w1) (a := ⟨W.heap.size + 1 + 1, 1, none⟩) (v := .int .u16 q) (hw1.cell (by (repeat (first | (simp; done) | assumption | (refine cell_nw ?_ ?_; focus (simp; done)) | apply cell_al))) (fun h => h))
  clear hw1
  go_wp2_with fail
  (simp only [List.append_eq, List.cons_append, List.nil_append]; refine wp_region_inF (Ch No _) (by kernel_rfl) (by kernel_rfl) (by kernel_rfl) (Ch.refl _ _) (fun _ h => ch_drawn h) ?_)
  as_aux_lemma =>
    iterate 37 go_big_quiet_step (exact in_ch (by with_reducible first | exact LJoin_any _ _ _ _ _ (by assumption) (by assumption) | exact LMeet_any _ _ _ _ _ (by assumption) (by assumption) | exact hD _ | exact hK1 _ | exact hK2 _ | exact hK3 _))
    as_aux_lemma =>
      iterate 37 go_big_quiet_step (exact in_ch (by with_reducible first | exact LJoin_any _ _ _ _ _ (by assumption) (by assumption) | exact LMeet_any _ _ _ _ _ (by assumption) (by assumption) | exact hD _ | exact hK1 _ | exact hK2 _ | exact hK3 _))
      as_aux_lemma =>
        repeat (go_big_quiet_step (exact in_ch (by with_reducible first | exact LJoin_any _ _ _ _ _ (by assumption) (by assumption) | exact LMeet_any _ _ _ _ _ (by assumption) (by assumption) | exact hD _ | exact hK1 _ | exact hK2 _ | exact hK3 _)))
        cases x
        all_goals
          repeat (go_big_quiet_step (exact in_ch (by with_reducible first | exact LJoin_any _ _ _ _ _ (by assumption) (by assumption) | exact LMeet_any _ _ _ _ _ (by assumption) (by assumption) | exact hD _ | exact hK1 _ | exact hK2 _ | exact hK3 _)))
          (refine wpQuiet_nil ?_; intro wq0 hw'; obtain ⟨pw, hw''⟩ := hw'; subst hw'')
          go_wp2
          go_ret
          exact ⟨rfl, Ch.trans C2 pw.h⟩

theorem labelJoins_walk (W : World) (cs0 cs1 cs2 : Array Value) (r0 : Rd Try.prog W 8 38 cs0.toList) (r1 : Rd Try.prog W 8 38 cs1.toList) (r2 : Rd Try.prog W 8 38 cs2.toList) :
    Calls Try.prog 11 #[.agg cs0, .agg cs1, .agg cs2] W fun e w' => e = .returned (.bool true) ∧ Below W.heap.size W w' := by
  obtain ⟨l, c, rfl, hl, hc⟩ := label_arg r0
  obtain ⟨m, d, rfl, hm, hd⟩ := label_arg r1
  obtain ⟨n, q, rfl, _, hq⟩ := label_arg r2
  exact (labelJoins_core W l c m d n q hl hc hm hd hq).mono fun e w' ⟨h1, h2⟩ => ⟨h1, h2.same⟩
end Go.Proofs.Ytjjeafedlnfhfaa
