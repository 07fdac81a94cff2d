/- lattice: Index and Below; the document's Index, Check, Below. -/
import Derived.Test.YtpjcfelknkddfaaDoorLatObj
namespace Go.Proofs.YtpjcfelknkddfaaDoor
open Go.RowKit

section
variable {w w' : World} {pb N : Nat} {A : Option Addr} {c mb : Nat} {D : Option Addr} {cd : Nat} {Ls : List (Nat × Nat)}
set_option maxHeartbeats 1000000 in
theorem LtIndex_any (h : Lat w pb N A c mb D cd Ls) (l k : Nat) : Calls Tryd.prog 11 #[.pointer (some ⟨pb, 0, none⟩), .agg #[.int .u8 l, .int .u16 k]] w fun e w' => e = .returned (.tuple #[.int .i64 (((whr (l, k) Ls 0).getD 0 : Nat) : Int), .int .i64 (if (whr (l, k) Ls 0).isSome = true then 0 else 30)]) ∧ Ch No w w' := by
  have h1 := h.no ((Ch.refl No w).alloc (.cells #[.int .u8 l, .int .u16 k] 25))
  have k1 := in_cell h1.three.2.1
  have hb := Blk.new w 25 [.int .u8 l, .int .u16 k]
  have x0 := hb.cell 0
  have x1 := hb.cell 1
  simp only [List.getElem?_cons_zero, List.getElem?_cons_succ] at x0 x1
  replace x0 := in_cell x0
  replace x1 := in_cell x1
  have hl := fun p : In (Ch No (w.alloc (.cells #[.int .u8 l, .int .u16 k] 25))) => run_look (x := (l, k)) (h1.no p.h).map
  unfold labV at hl
  clear h1 h hb
  cases hw : whr (l, k) Ls 0 with
  | none =>
    rw [hw] at hl
    simp only [Option.getD_none, Option.isSome_none, Bool.false_eq_true, if_false] at hl ⊢
    clear hw
    go_enter Tryd.func11, Tryd.ntmps11
    go_upto_region 1 with fail
    (refine wp_region_in (Ch No _) (by kernel_rfl) (by kernel_rfl) (Ch.refl _ _) (fun _ h => ch_drawn h) ?_)
    repeat (go_big_quiet_step (fail))
    (refine wpQuiet_nil ?_; intro wq0 hw'; obtain ⟨pw, hw''⟩ := hw'; subst hw'')
    go_wp2_with fail
    refine bodyPost_ret (v := .tuple #[.int .i64 0, .int .i64 30]) (by simp [results, Tryd.f11, go_sem]) rfl ?_
    exact ⟨rfl, ((Ch.refl No w).alloc _).trans pw.h⟩
  | some i =>
    rw [hw] at hl
    simp only [Option.getD_some, Option.isSome_some, if_true] at hl ⊢
    clear hw
    go_enter Tryd.func11, Tryd.ntmps11
    go_upto_region 1 with fail
    (refine wp_region_in (Ch No _) (by kernel_rfl) (by kernel_rfl) (Ch.refl _ _) (fun _ h => ch_drawn h) ?_)
    repeat (go_big_quiet_step (fail))
    (refine wpQuiet_nil ?_; intro wq0 hw'; obtain ⟨pw, hw''⟩ := hw'; subst hw'')
    go_wp2_with fail
    refine bodyPost_ret (v := .tuple #[.int .i64 i, .int .i64 0]) (by simp [results, Tryd.f11, go_sem]) rfl ?_
    exact ⟨rfl, ((Ch.refl No w).alloc _).trans pw.h⟩
theorem sh_or (m j : Nat) (hm : m < 4294967296) (hj : j < 32) : bits .or .u32 (m : Int) ((2 : Int) ^ j % 4294967296) = ((m ||| 2 ^ j : Nat) : Int) := by
  have h1 : 2 ^ j < 2 ^ 32 := Nat.pow_lt_pow_right (by omega) hj
  have e1 : (2 : Int) ^ j = ((2 ^ j : Nat) : Int) := by simp
  have e : (2 : Int) ^ j % 4294967296 = ((2 ^ j : Nat) : Int) := by
    rw [e1]
    generalize 2 ^ j = p at *
    omega
  rw [e, u32_or_nat _ _ hm h1]
/-- the mask of the first j labels -/
def belT (Ls : List (Nat × Nat)) (x : Nat × Nat) (j : Nat) : Nat := msk ((Ls.take j).map (dmB x))
theorem belT_lt {Ls : List (Nat × Nat)} {x : Nat × Nat} {j : Nat} (hj : j ≤ 16) : belT Ls x j < 65536 := by
  have h1 := msk_lt ((Ls.take j).map (dmB x))
  have h2 : 2 ^ ((Ls.take j).map (dmB x)).length ≤ 2 ^ 16 := Nat.pow_le_pow_right (by omega) (by simp; omega)
  unfold belT
  omega
theorem belT_all {Ls : List (Nat × Nat)} {x : Nat × Nat} {j : Nat} (h : Ls.length ≤ j) : belT Ls x j = bel Ls x := by unfold belT bel; rw [List.take_of_length_le h]
theorem belT_step {Ls pre post : List (Nat × Nat)} {x y : Nat × Nat} {j : Nat} (e : Ls = pre ++ y :: post) (hp : pre.length = j) : belT Ls x (j + 1) = msk ((Ls.take j).map (dmB x) ++ [dmB x y]) ∧ ((Ls.take j).map (dmB x)).length = j := by
  subst e
  subst hp
  unfold belT
  have e1 : (pre ++ y :: post).take (pre.length + 1) = pre ++ [y] := by
    rw [show pre ++ y :: post = (pre ++ [y]) ++ post from by simp, List.take_left' (by simp)]
  have e2 : (pre ++ y :: post).take pre.length = pre := List.take_left' rfl
  rw [e1, e2]
  simp
theorem belT_no {Ls pre post : List (Nat × Nat)} {x y : Nat × Nat} {j : Nat} (e : Ls = pre ++ y :: post) (hp : pre.length = j) (h : dmB x y = false) : belT Ls x (j + 1) = belT Ls x j := by
  rw [(belT_step e hp).1, h, msk_false]
  rfl
theorem belT_or {Ls pre post : List (Nat × Nat)} {x y : Nat × Nat} {j : Nat} (e : Ls = pre ++ y :: post) (hp : pre.length = j) (h : dmB x y = true) : belT Ls x (j + 1) = belT Ls x j ||| 2 ^ j := by
  have h1 := belT_step (x := x) e hp
  rw [h1.1, h, ← msk_or, h1.2]
  rfl
theorem belT_add {Ls pre post : List (Nat × Nat)} {x y : Nat × Nat} {j : Nat} (e : Ls = pre ++ y :: post) (hp : pre.length = j) (h : dmB x y = true) : belT Ls x (j + 1) = belT Ls x j + 2 ^ j := by
  have h1 := belT_step (x := x) e hp
  rw [h1.1, h, msk_true, h1.2]
  rfl

set_option maxHeartbeats 2000000 in
theorem LBelow_lab (hp : w.cell? ⟨pb, 0, none⟩ = some (.slice A N c)) (hL : Rws w A 2 (Ls.map labR)) (hlen : Ls.length = N) (hN : N ≤ 16) (ok : okL Ls) (l k : Nat) (hk : k < 65536) :
    Calls Tryd.prog 18 #[.pointer (some ⟨pb, 0, none⟩), .agg #[.int .u8 l, .int .u16 k]] w fun e w' => e = .returned (.int .u32 ((bel Ls (l, k) : Nat) : Int)) ∧ Ch No w w' := by
  have hpl : pb < w.heap.size := World.block_lt_of_cell? _ _ hp
  have HL := Lib.hid (And.intro hL (And.intro hlen (And.intro ok hk)))
  clear hL hlen ok hk
  have X0 : Hid (Ch No w (w.alloc (.cells #[.int .u8 l, .int .u16 k] 25)) ∧ Blk (w.alloc (.cells #[.int .u8 l, .int .u16 k] 25)) w.heap.size 25 [.int .u8 l, .int .u16 k]) := Lib.hid ⟨(Ch.refl No w).alloc _, Blk.new w 25 [.int .u8 l, .int .u16 k]⟩
  go_enter Tryd.func18, Tryd.ntmps18
  go_wp2_with fail
  generalize w.alloc (.cells #[.int .u8 l, .int .u16 k] 25) = w1 at *
  generalize w.heap.size = xb at *
  clear hp hpl
  go_loopw [5, 6, 7, 13] (fun mk _ _ ix wr => ∃ (j m : Nat), j ≤ N ∧ m < 65536 ∧ mk = .int .u32 m ∧ ix = .int .i64 j ∧ Hid (m = belT Ls (l, k) j) ∧ Hid (Ch No w1 wr)) (fun _ _ _ ix _ => N - (intOf ix).toNat)
  case atStart => exact ⟨0, 0, by omega, by omega, rfl, rfl, Lib.hid rfl, Lib.hid (Ch.refl _ _)⟩
  case round =>
    obtain ⟨j, m, hj, hm, rfl, rfl, hq, hw⟩ := hrel
    by_cases hlt : j < N
    · obtain ⟨pre, y, post, e, hp, _⟩ := split_at (xs := Ls) (i := j) (by rw [HL.out.2.1]; exact hlt)
      have E := Lib.hid (And.intro e (And.intro hp (HL.out.2.2.1 y (by rw [e]; simp))))
      obtain ⟨b, off, hA, c0, c1⟩ := (HL.out.1.no (X0.out.1.trans hw.out)).lab e
      rw [hp] at c0 c1
      clear e hp
      subst hA
      have lb : b < wr.heap.size := World.block_lt_of_cell? _ _ c0
      have hB := X0.out.2.ch hw.out (fun h => h)
      have x0 := hB.cell 0
      have x1 := hB.cell 1
      have lx := hB.lt
      simp only [List.getElem?_cons_zero, List.getElem?_cons_succ] at x0 x1
      clear hB
      have HD := Lib.hid (fun w => LDominates_any l k y.1 y.2 w HL.out.2.2.2 E.out.2.2.2)
      cases hd : dmB (l, k) y with
      | true =>
        rw [show domB l k y.1 y.2 = true from hd] at HD
        have HR := Lib.hid (belT_or E.out.1 E.out.2.1 hd)
        clear hd
        go_wp2_with fail
        refine (HD.out _).mono ?_
        rintro e w5 ⟨rfl, h5⟩
        have H5 := Lib.hid (hw.out.trans (((Ch.refl No wr).alloc _).trans h5))
        clear h5 x0 x1 lx c0 c1 lb HD
        go_wp2_with fail
        go_roundw
        case rel => exact ⟨j + 1, belT Ls (l, k) (j + 1), by omega, belT_lt (by omega), by rw [sh_or m j (by omega) (by omega), HR.out, hq.out], by simp, Lib.hid rfl, H5⟩
        case measure => simp [intOf]; omega
      | false =>
        rw [show domB l k y.1 y.2 = false from hd] at HD
        have HR := Lib.hid (belT_no E.out.1 E.out.2.1 hd)
        clear hd
        go_wp2_with fail
        refine (HD.out _).mono ?_
        rintro e w5 ⟨rfl, h5⟩
        have H5 := Lib.hid (hw.out.trans (((Ch.refl No wr).alloc _).trans h5))
        clear h5 x0 x1 lx c0 c1 lb HD
        go_wp2_with fail
        go_roundw
        case rel => exact ⟨j + 1, m, by omega, hm, rfl, by simp, Lib.hid (by rw [HR.out]; exact hq.out), H5⟩
        case measure => simp [intOf]; omega
    · have hf : m = bel Ls (l, k) := by rw [hq.out]; exact belT_all (by rw [HL.out.2.1]; omega)
      have HF := Lib.hid (X0.out.1.trans hw.out)
      clear hq hw X0
      subst hf
      go_wp2_with fail
      go_ret
      exact ⟨rfl, HF.out⟩
theorem LtBelow_any (h : Lat w pb N A c mb D cd Ls) (l k : Nat) (hk : k < 65536) :
    Calls Tryd.prog 18 #[.pointer (some ⟨pb, 0, none⟩), .agg #[.int .u8 l, .int .u16 k]] w fun e w' => e = .returned (.int .u32 ((bel Ls (l, k) : Nat) : Int)) ∧ Ch No w w' :=
  LBelow_lab h.three.1 h.lab h.len h.le h.ok l k hk
end
end Go.Proofs.YtpjcfelknkddfaaDoor
