/- LatticeUnions: closing goes over unions; what is closed of one label is its down-set; what is not declared is closed to nothing: the walk. -/
import Derived.Test.YtpjcfelknkddfaaDoorLatticeLists
import Derived.Test.YtpjcfelknkddfaaDoorLatLaw
namespace Go.Proofs.YtpjcfelknkddfaaDoor
open Go.RowKit

theorem sh1 {i : Nat} (hi : i < 32) : (2 : Int) ^ i % 4294967296 = ((2 ^ i : Nat) : Int) := by
  have h1 : 2 ^ i < 2 ^ 32 := Nat.pow_lt_pow_right (by omega) hi
  have e1 : (2 : Int) ^ i = ((2 ^ i : Nat) : Int) := by simp
  rw [e1]
  generalize 2 ^ i = p at *
  omega
theorem sh2 {N : Nat} (hN : N ≤ 16) : (4294967295 * (2 : Int) ^ N) % 4294967296 = ((nonN N : Nat) : Int) := by
  have h1 : 2 ^ N ≤ 2 ^ 16 := Nat.pow_le_pow_right (by omega) hN
  have h2 := Nat.two_pow_pos N
  have e1 : (2 : Int) ^ N = ((2 ^ N : Nat) : Int) := by simp
  rw [e1]
  unfold nonN
  generalize 2 ^ N = p at *
  omega
set_option maxHeartbeats 8000000 in
set_option maxRecDepth 100000 in
theorem latticeUnions_core (W : World) (A0 : Option Addr) (c0 : Nat) (Ls : List (Nat × Nat)) (x y : Nat) (hx : Rws W A0 2 (Ls.map labR)) (ok : okL Ls) (hn : Ls.length ≤ 140737488351232) (hxm : x < 4294967296) (hym : y < 4294967296) (hT : TabAt 0 Lib.deBruijn64tab W) :
    Calls Tryd.prog 6 #[.slice A0 Ls.length c0, .int .u32 x, .int .u32 y] W fun e w' => e = .returned (.bool true) ∧ Ch No W w' := by
  obtain ⟨N, hN⟩ : ∃ N, Ls.length = N := ⟨_, rfl⟩
  have HX := Lib.hid (And.intro hN (And.intro hx (And.intro ok (And.intro hT (And.intro hxm hym)))))
  rw [hN] at hn ⊢
  clear hN hx ok hT hxm hym
  go_enter Tryd.func6, Tryd.ntmps6
  go_wp2_with fail
  refine (latAlive_any _ HX.out.2.2.2.1).mono ?_
  rintro e w1 ⟨rfl, h1⟩
  have X1 := Lib.hid h1
  clear h1
  by_cases h16 : 16 < N
  · go_wp2_with fail
    go_ret
    exact ⟨rfl, X1.out⟩
  have HN := Lib.hid (LNew_any (c := c0) (HX.out.2.1.no X1.out) HX.out.1 HX.out.2.2.1 (by omega))
  go_wp2_with fail
  refine HN.out.mono ?_
  rintro e w2 (⟨h0, pb, A, c, mb, D, cd, rfl, hl, h2⟩ | ⟨h0, rfl, h2⟩)
  rotate_left
  · have X2 := Lib.hid (X1.out.trans h2)
    generalize chkL Ls = f at *
    have hf : (f == 0) = false := by simpa using h0
    clear h2 X1 HN
    go_wp2_with fail
    go_ret
    exact ⟨rfl, X2.out⟩
  have X2 := Lib.hid (And.intro (X1.out.trans h2) hl)
  have hN16 : N ≤ 16 := by omega
  clear h2 hl X1 HN h0 h16 hn
  go_wp2_with fail
  go_loopw [9, 27] (fun _ ix wr => ∃ j : Nat, j ≤ N ∧ ix = .int .i64 j ∧ Hid (Ch No w2 wr)) (fun _ ix _ => N - (intOf ix).toNat)
  case atStart => exact ⟨0, by omega, rfl, Lib.hid (Ch.refl _ _)⟩
  case round =>
    obtain ⟨j, hj, rfl, hw⟩ := hrel
    by_cases hlt : j < N
    · obtain ⟨pre, z, post, e, hp, hz⟩ := split_at (xs := Ls) (i := j) (by rw [HX.out.1]; exact hlt)
      have hj32 : j < 32 := by omega
      have hp2 : 2 ^ j < 4294967296 := Nat.lt_of_lt_of_le (Nat.pow_lt_pow_right (by omega) hj32) (by decide)
      have hcl := cl_one hz
      have hdw : (if (j : Int) < 0 then 0 else dwn Ls j) = bel Ls z := by rw [if_neg (by omega)]; unfold dwn; rw [Int.toNat_natCast, hz]; rfl
      have FC : Hid (∀ w', Ch No w2 w' → Calls Tryd.prog 19 #[.pointer (some ⟨pb, 0, none⟩), .int .u32 ((2 : Int) ^ j % 4294967296)] w' fun e w'' => e = .returned (.int .u32 ((bel Ls z : Nat) : Int)) ∧ Ch No w' w'') := Lib.hid (fun w' h => by
        have q := LtClose_any (X2.out.2.no h) (2 ^ j) hp2 (tab_ch HX.out.2.2.2.1 (X2.out.1.trans h))
        rw [hcl] at q
        rw [sh1 hj32]
        exact q)
      have FD := Lib.hid (fun w' (h : Ch No w2 w') => by have q := LtDown_any (X2.out.2.no h) (j : Int); rw [hdw] at q; exact q)
      clear e hp hz hcl hdw hp2 hj32
      generalize bel Ls z = d at *
      go_wp2_with fail
      refine (FC.out _ hw.out).mono ?_
      rintro e w3 ⟨rfl, h3⟩
      have H3 := Lib.hid (hw.out.trans h3)
      clear h3
      go_wp2_with fail
      refine (FD.out _ H3.out).mono ?_
      rintro e w4 ⟨rfl, h4⟩
      have H4 := Lib.hid (H3.out.trans h4)
      clear h4 H3 FC FD
      go_wp2_with fail
      go_roundw
      case rel => exact ⟨j + 1, by omega, by simp, H4⟩
      case measure => simp [intOf]; omega
    · obtain ⟨z, hz⟩ : ∃ z, nonN N = z := ⟨_, rfl⟩
      have hzl := nonN_lt hN16
      have hzb : cl Ls z = 0 := cl_none (fun k hk => by rw [← hz]; exact nonN_bit hN16 (by rw [HX.out.1] at hk; exact hk))
      have hsh := sh2 hN16
      rw [hz] at hzl hsh
      have hxy : bits .or .u32 (x : Int) (y : Int) = ((x ||| y : Nat) : Int) := u32_or_nat _ _ HX.out.2.2.2.2.1 HX.out.2.2.2.2.2
      have hxz : bits .or .u32 (x : Int) (z : Int) = ((x ||| z : Nat) : Int) := u32_or_nat _ _ HX.out.2.2.2.2.1 hzl.1
      have hlx := cl_lt Ls x
      have hly := cl_lt Ls y
      have h216 : 2 ^ Ls.length ≤ 2 ^ 16 := Nat.pow_le_pow_right (by omega) (by rw [HX.out.1]; exact hN16)
      have hcc : bits .or .u32 ((cl Ls x : Nat) : Int) ((cl Ls y : Nat) : Int) = ((cl Ls x ||| cl Ls y : Nat) : Int) := u32_or_nat _ _ (by omega) (by omega)
      have e1 := cl_or Ls x y
      have e2 : cl Ls (x ||| z) = cl Ls x := by rw [cl_or, hzb, Nat.or_zero]
      have e3 := cl_zero Ls
      have hb1 : x ||| y < 4294967296 := Nat.or_lt_two_pow (n := 32) HX.out.2.2.2.2.1 HX.out.2.2.2.2.2
      have hb2 : x ||| z < 4294967296 := Nat.or_lt_two_pow (n := 32) HX.out.2.2.2.2.1 hzl.1
      have T := fun w' (h : Ch No w2 w') => tab_ch HX.out.2.2.2.1 (X2.out.1.trans h)
      have G1 := Lib.hid (fun w' (h : Ch No w2 w') => by have q := LtClose_any (X2.out.2.no h) (x ||| y) hb1 (T w' h); rw [e1] at q; exact q)
      have G2 := Lib.hid (fun w' (h : Ch No w2 w') => LtClose_any (X2.out.2.no h) x HX.out.2.2.2.2.1 (T w' h))
      have G3 := Lib.hid (fun w' (h : Ch No w2 w') => LtClose_any (X2.out.2.no h) y HX.out.2.2.2.2.2 (T w' h))
      have G4 := Lib.hid (fun w' (h : Ch No w2 w') => by have q := LtClose_any (X2.out.2.no h) z hzl.1 (T w' h); rw [hzb] at q; exact q)
      have G5 : Hid (∀ w', Ch No w2 w' → Calls Tryd.prog 19 #[.pointer (some ⟨pb, 0, none⟩), .int .u32 0] w' fun e w'' => e = .returned (.int .u32 0) ∧ Ch No w' w'') := Lib.hid (fun w' h => by have q := LtClose_any (X2.out.2.no h) 0 (by omega) (T w' h); rw [e3] at q; exact q)
      have G6 : Hid (∀ w', Ch No w2 w' → Calls Tryd.prog 20 #[.pointer (some ⟨pb, 0, none⟩), .int .u32 0] w' fun e w'' => e = .returned (.bool true) ∧ Ch No w' w'') := Lib.hid (fun w' h => LtClosed_any (X2.out.2.no h) 0 (by omega) (T w' h) true (by rw [e3]; rfl))
      have G7 := Lib.hid (fun w' (h : Ch No w2 w') => LtClosed_any (X2.out.2.no h) z hzl.1 (T w' h) false (by rw [hzb]; exact decide_eq_false (by omega)))
      have G8 := Lib.hid (fun w' (h : Ch No w2 w') => by have q := LtClose_any (X2.out.2.no h) (x ||| z) hb2 (T w' h); rw [e2] at q; exact q)
      clear hzl hzb hlx hly h216 e1 e2 e3 hb1 hb2 T hz
      have HS := Lib.hid hsh
      clear hsh
      generalize cl Ls x = cx at *
      generalize cl Ls y = cy at *
      go_upto_region 15 with fail
      try rw [HS.out]
      go_wp2_with fail
      refine (G1.out _ hw.out).mono ?_
      rintro e v0 ⟨rfl, h⟩
      have C0 := Lib.hid ((hw.out).trans h)
      clear h
      go_wp2_with fail
      refine (G2.out _ C0.out).mono ?_
      rintro e v1 ⟨rfl, h⟩
      have C1 := Lib.hid ((C0.out).trans h)
      clear h
      go_wp2_with fail
      refine (G3.out _ C1.out).mono ?_
      rintro e v2 ⟨rfl, h⟩
      have C2 := Lib.hid ((C1.out).trans h)
      clear h
      go_wp2_with fail
      refine (G4.out _ C2.out).mono ?_
      rintro e v3 ⟨rfl, h⟩
      have C3 := Lib.hid ((C2.out).trans h)
      clear h
      go_wp2_with fail
      refine (G5.out _ C3.out).mono ?_
      rintro e v4 ⟨rfl, h⟩
      have C4 := Lib.hid ((C3.out).trans h)
      clear h
      go_wp2_with fail
      refine (G6.out _ C4.out).mono ?_
      rintro e v5 ⟨rfl, h⟩
      have C5 := Lib.hid ((C4.out).trans h)
      clear h
      go_wp2_with fail
      refine (G7.out _ C5.out).mono ?_
      rintro e v6 ⟨rfl, h⟩
      have C6 := Lib.hid ((C5.out).trans h)
      clear h
      go_wp2_with fail
      refine (G8.out _ C6.out).mono ?_
      rintro e v7 ⟨rfl, h⟩
      have C7 := Lib.hid ((C6.out).trans h)
      clear h
      go_wp2_with fail
      refine (G2.out _ C7.out).mono ?_
      rintro e v8 ⟨rfl, h⟩
      have C8 := Lib.hid ((C7.out).trans h)
      clear h
      go_wp2_with fail
      go_ret
      exact ⟨rfl, X2.out.1.trans C8.out⟩

theorem latticeUnions_walk (W : World) (A0 : Option Addr) (n0 c0 : Nat) (a1 a2 : Int) (R0 : Rd Tryd.prog W 8 22 [.slice A0 n0 c0]) (w1 : (Lit.int .u32 a1).wf = true) (w2 : (Lit.int .u32 a2).wf = true) (hT : TabAt 0 Lib.deBruijn64tab W) :
    Calls Tryd.prog 6 #[.slice A0 n0 c0, .int .u32 a1, .int .u32 a2] W fun e w' => e = .returned (.bool true) ∧ Below W.heap.size W w' := by
  obtain ⟨A, c, xs, hv, hx, ok, hl⟩ := rd_labs R0
  obtain ⟨rfl, rfl, rfl⟩ := Value.slice.inj hv
  obtain ⟨x, rfl, hxm⟩ := wf_u32 w1
  obtain ⟨y, rfl, hym⟩ := wf_u32 w2
  exact (latticeUnions_core W _ _ xs x y hx ok (by omega) hxm hym hT).mono fun _ _ ⟨h1, h2⟩ => ⟨h1, h2.same⟩
end Go.Proofs.YtpjcfelknkddfaaDoor
