/- LatticeErrors: labels that come twice, or too many, are told; any of them left out they are still a lattice: the walk. -/
import Derived.Test.YtpjcfelknkddfaaDoorLatticeUnions
import Derived.Test.YtpjcfelknkddfaaDoorLatLaw2
namespace Go.Proofs.YtpjcfelknkddfaaDoor
open Go.RowKit

/-- append of several cells' elements onto a row -/
theorem appLn {P : Program} {ops : Array Oper} {Q : Exit → Act → World → Prop} {a : Act} {w : World} {rest : List Oper} {o : Oper} (hgd : o.guard = none) (s x : Operand) (t e : TypeId)
    (ho : o.op = .call { callee := .builtin .append, args := #[s, x], argTypes := #[t, t] }) (z : Value) (sz bytes : Nat)
    (ht : P.underlying t = some (.slice e)) (hinfo : (P.info? e).map (fun i => (i.zero, i.size, i.bytes)) = some (some z, sz, bytes)) (hz : z.cells.size = sz) (hsz : 0 < sz)
    (B : Nat) (v : Value) (n : Nat) (vs : List Value) (hs : a.eval s = v) (hown : w.ownsRow B e sz v n vs) (A : Option Addr) (m c : Nat) (us : List Value) (hx : a.eval x = .slice A m c) (hul : us.length = m * sz)
    (hsrc : ∀ j u, us[j]? = some u → ∃ ad, A = some ad ∧ w.cell? (ad.add j) = some u) (hA : A = none → us = []) (h1 : ∀ u ∈ us, u.oneCell' = true)
    (hn : n + m ≤ maxLen) (hb : (n + m) * bytes ≤ 140737488355328) (hB : B ≤ w.heap.size)
    (h : ∀ A' c' w', w'.ownsRow B e sz (.slice A' (n + m) c') (n + m) (vs ++ us) → Ch (fun k => v.ownBlock = some k) w w' → wpList P ops Q rest (a.put o.dst (.slice A' (n + m) c')) w') :
    wpList P ops Q (o :: rest) a w := by
  refine wpList_plain hgd fun K' hK' => ?_
  have q := step_appL (ops := ops) (K := K') (Q := Q) (E := False) hgd s x t e ho z sz bytes ht hinfo hz hsz B v n vs hs hown A m c us hx hul hsrc hA h1 hn hb hB (fun A' c' w' q1 q2 _ => hK' _ _ (h A' c' w' q1 (Ch.grown (Ch.refl _ _) q2 (fun k hk _ => hk))))
  rwa [if_pos (by simp [Region.wanted, hgd])] at q
theorem own_empty (w : World) (B : Nat) (hB : B ≤ w.heap.size) : (w.alloc (.cells #[] 25)).ownsRow B 25 2 (.slice (some ⟨w.heap.size, 0, none⟩) 0 0) 0 [] := by
  have := World.ownsRow_lit (base := B) (e := 25) (size := 2) w #[] 0 hB (by simp) rfl
  simpa using this
theorem own_no {w w' : World} {B n : Nat} {v : Value} {vs : List Value} (h : w.ownsRow B 25 2 v n vs) (hc : Ch No w w') : w'.ownsRow B 25 2 v n vs := rowN_ch h hc (fun _ _ h => h)
theorem blk_srcE {w : World} {g : Nat} {t : TypeId} {us : List Value} (h : Blk w g t us) : ∀ j u, us[j]? = some u → ∃ ad, (some ⟨g, 0, none⟩ : Option Addr) = some ad ∧ w.cell? (ad.add j) = some u := by
  intro j u hj
  refine ⟨_, rfl, ?_⟩
  have h1 := h.cell j
  unfold Addr.add
  split
  · rename_i hz
    subst hz
    rw [h1, hj]
  · rw [Nat.zero_add, h1, hj]
/-- behind the second append -/
theorem errN {w2 w8 w9 : World} {A8 A9 : Option Addr} {c8 c9 N : Nat} {Ls : List (Nat × Nat)} {z : Nat × Nat} (hC : Ch No w2 w8) (o8 : w8.ownsRow w2.drew.heap.size 25 2 (.slice A8 N c8) N (flatL Ls)) (hN : Ls.length = N)
    (o9 : w9.ownsRow w2.drew.heap.size 25 2 (.slice A9 (N + 1) c9) (N + 1) (flatL Ls ++ labR z)) (h9 : w8.grownBy w9 (Value.slice A8 N c8).ownBlock) : Ch No w2 w9 ∧ Rws w9 A9 2 ((Ls ++ [z]).map labR) := by
  refine ⟨hC.grown h9 (fun k hk hlt => ?_), rowL_rws (by rw [flatL_app]; simpa [flatL] using o9) (by rw [List.length_append, hN]; rfl)⟩
  have := (o8.lt k hk).1
  have e : w2.drew.heap.size = w2.heap.size := rfl
  omega
theorem rws_take {w : World} {A : Option Addr} {Ls : List (Nat × Nat)} (p : Nat) (h : Rws w A 2 (Ls.map labR)) : Rws w A 2 ((Ls.take p).map labR) := by
  intro pre r post e
  refine h pre r (post ++ (Ls.drop p).map labR) ?_
  rw [← List.cons_append, ← List.append_assoc, ← e, ← List.map_append, List.take_append_drop]
theorem rws_drop {w : World} {b off : Nat} {Ls : List (Nat × Nat)} (p : Nat) (h : Rws w (some ⟨b, off, none⟩) 2 (Ls.map labR)) (hp : p ≤ Ls.length) : Rws w (some ⟨b, off + p * 2, none⟩) 2 ((Ls.drop p).map labR) := by
  intro pre r post e
  obtain ⟨h1, b', off', hA, hc⟩ := h ((Ls.take p).map labR ++ pre) r post (by rw [List.append_assoc, ← e, ← List.map_append, List.take_append_drop])
  cases hA
  refine ⟨h1, b, off + p * 2, rfl, fun j v hj => ?_⟩
  have := hc j v hj
  rw [List.length_append, List.length_map, List.length_take, Nat.min_eq_left hp, Nat.add_mul, ← Nat.add_assoc] at this
  exact this
/-- behind the second append of the list without one -/
theorem errL {w2 w6 w8 w9 : World} {A8 A9 : Option Addr} {c8 c9 m p : Nat} {Ls less : List (Nat × Nat)} (h6 : Ch No w2 w6) (hC : Ch No w2 w8) (o8 : w8.ownsRow w6.drew.heap.size 25 2 (.slice A8 p c8) p (flatL (Ls.take p))) (ht : (Ls.take p).length = p) (hd : (Ls.drop (p + 1)).length = m) (hl : Ls.take p ++ Ls.drop (p + 1) = less)
    (o9 : w9.ownsRow w6.drew.heap.size 25 2 (.slice A9 (p + m) c9) (p + m) (flatL (Ls.take p) ++ flatL (Ls.drop (p + 1)))) (h9 : w8.grownBy w9 (Value.slice A8 p c8).ownBlock) : Ch No w2 w9 ∧ Rws w9 A9 2 (less.map labR) := by
  refine ⟨hC.grown h9 (fun k hk hlt => ?_), ?_⟩
  · have := (o8.lt k hk).1
    have e : w6.drew.heap.size = w6.heap.size := rfl
    have := h6.size
    omega
  · rw [← hl]
    exact rowL_rws (by rw [flatL_app]; exact o9) (by rw [List.length_append, ht, hd])
theorem rd_labsC {W : World} {n : Nat} {v : Value} (h : Rd Tryd.prog W (n + 3) 22 [v]) : ∃ A cap, ∃ xs : List (Nat × Nat), v = .slice A xs.length cap ∧ Rws W A 2 (xs.map labR) ∧ okL xs ∧ xs.length * 4 ≤ 140737488351232 ∧ xs.length ≤ cap := by
  obtain ⟨A, cap, xs, rfl, hr, hw, hc, hl⟩ := slice_dec (N := n + 2) (sz := 2) (B := 4) labR (fun x => x.1 < 256 ∧ x.2 < 65536) h Tryd.underlying22 (by kernel_rfl) (by kernel_rfl) (by omega) (fun r hr => by
    obtain ⟨x, h1, h2, h3⟩ := label_dec hr
    exact ⟨x, h1, h2, h3⟩)
  exact ⟨A, cap, xs, rfl, hr, hw, hl, hc⟩
theorem errF {p bq a : Nat} (hp : p ≤ 16) (hb : bq < 65536) (h : bits .or .u32 (bits .and .u32 (bq : Int) ((2 ^ p - 1 : Nat) : Int)) (((bq / 2 ^ (p + 1) * 2 ^ p : Nat) : Int)) = (a : Int)) :
    bits .or .u32 (bits .and .u32 (bq : Int) (((2 : Int) ^ p - 1) % 4294967296)) ((bq : Int) / (2 : Int) ^ (p + 1) * (2 : Int) ^ p % 4294967296) = (a : Int) := by
  have h1 : 2 ^ p ≤ 2 ^ 16 := Nat.pow_le_pow_right (by omega) hp
  have h2 := Nat.two_pow_pos p
  have e0 : (2 : Int) ^ p = ((2 ^ p : Nat) : Int) := by simp
  have e1 : ((2 : Int) ^ p - 1) % 4294967296 = ((2 ^ p - 1 : Nat) : Int) := by
    rw [e0]
    generalize 2 ^ p = q at *
    omega
  have h3 : bq / 2 ^ (p + 1) * 2 ^ p ≤ bq := by
    calc bq / 2 ^ (p + 1) * 2 ^ p ≤ bq / 2 ^ (p + 1) * 2 ^ (p + 1) := Nat.mul_le_mul_left _ (Nat.pow_le_pow_right (by omega) (by omega))
      _ ≤ bq := Nat.div_mul_le_self _ _
  have e2 : (bq : Int) / (2 : Int) ^ (p + 1) * (2 : Int) ^ p % 4294967296 = ((bq / 2 ^ (p + 1) * 2 ^ p : Nat) : Int) := by
    have e3 : (bq : Int) / (2 : Int) ^ (p + 1) * (2 : Int) ^ p = ((bq / 2 ^ (p + 1) * 2 ^ p : Nat) : Int) := by simp
    rw [e3]
    omega
  rw [e1, e2]
  exact h
set_option maxHeartbeats 16000000 in
set_option maxRecDepth 100000 in
theorem latticeErrors_core (W : World) (A0 : Option Addr) (c0 : Nat) (Ls : List (Nat × Nat)) (i : Int) (hx : Rws W A0 2 (Ls.map labR)) (ok : okL Ls) (hn : Ls.length ≤ 140737488351232) (hc : Ls.length ≤ c0) (hT : TabAt 0 Lib.deBruijn64tab W) :
    Calls Tryd.prog 5 #[.slice A0 Ls.length c0, .int .i64 i] W fun e w' => e = .returned (.bool true) ∧ Ch No W w' := by
  obtain ⟨N, hN⟩ : ∃ N, Ls.length = N := ⟨_, rfl⟩
  have HX := Lib.hid (And.intro hN (And.intro hx (And.intro ok hT)))
  rw [hN] at hn hc ⊢
  clear hN hx ok hT
  go_enter Tryd.func5, Tryd.ntmps5
  go_wp2_with fail
  refine (latAlive_any _ HX.out.2.2.2).mono ?_
  rintro e w1 ⟨rfl, h1⟩
  have X1 := Lib.hid h1
  clear h1
  by_cases hN0 : N = 0
  · subst hN0
    go_wp2_with fail
    go_ret
    exact ⟨rfl, X1.out⟩
  have hN1 : 1 ≤ N := by omega
  have hNb : ((N : Int) == 0) = false := by simp; omega
  by_cases h15 : 15 < N
  · go_wp2_with fail
    go_ret
    exact ⟨rfl, X1.out⟩
  have hN15 : N ≤ 15 := by omega
  have HN := Lib.hid (LNew_any (c := c0) (HX.out.2.1.no X1.out) HX.out.1 HX.out.2.2.1 (by omega))
  go_wp2_with fail
  refine HN.out.mono ?_
  rintro e w2 (⟨h0, pb, A, c, mb, D, cd, rfl, hl, h2⟩ | ⟨h0, rfl, h2⟩)
  rotate_left
  · have X2 := Lib.hid (X1.out.trans h2)
    generalize chkL Ls = f at *
    have hf : (f == 0) = false := by simpa using h0
    clear h2 X1 HN
    go_wp2_with fail
    go_ret
    exact ⟨rfl, X2.out⟩
  have X2 := Lib.hid (And.intro (X1.out.trans h2) (And.intro hl h0))
  clear h2 hl X1 HN h0 h15 hn hN0
  have h256 : bits .and .i64 i 255 = i % 256 := i64_mask i 8 (by omega)
  obtain ⟨r, hr⟩ : ∃ r : Nat, i % 256 = (r : Int) := ⟨(i % 256).toNat, by omega⟩
  rw [hr] at h256
  go_upto_region 9 with fail
  obtain ⟨p, hp⟩ : ∃ p, r % N = p := ⟨_, rfl⟩
  have hpN : p < N := by rw [← hp]; exact Nat.mod_lt _ (by omega)
  have hpe : (r : Int) % (N : Int) = (p : Int) := by rw [← hp]; simp
  rw [hpe]
  clear hpe hp hr h256
  obtain ⟨pre, z, post, e, hpl, hz⟩ := split_at (xs := Ls) (i := p) (by rw [HX.out.1]; exact hpN)
  obtain ⟨b, off, hA, l0, l1⟩ := (HX.out.2.1.no X2.out.1).lab e
  rw [hpl] at l0 l1
  subst hA
  have hzm : z ∈ Ls := by rw [e]; simp
  have HZ := Lib.hid (And.intro hzm (And.intro (HX.out.2.2.1 z hzm) hz))
  clear e hpl hz hzm
  have lb : b < w2.heap.size := World.block_lt_of_cell? _ _ l0
  have hm1 : N ≤ maxLen := by simp [maxLen]; omega
  have hm2 : N * 4 ≤ 140737488355328 := by omega
  have hm3 : N + 1 ≤ maxLen := by simp [maxLen]; omega
  have hm4 : (N + 1) * 4 ≤ 140737488355328 := by omega
  have hul : (flatL Ls).length = N * 2 := by rw [flatL_len, HX.out.1]
  have HUL := Lib.hid hul
  clear hul
  go_cut [8] from 22 (fun s8 wc => s8 = .int .i64 5 ∧ Hid (Ch No w2 wc))
  case first =>
    have HW1 : Hid (∀ w9 A9 c9, Ch No w2 w9 → Rws w9 A9 2 ((Ls ++ [z]).map labR) → Calls Tryd.prog 9 #[.slice A9 (N + 1) c9] w9 fun e w' => e = .returned (.tuple #[.pointer none, .int .i64 5]) ∧ Ch No w9 w') := Lib.hid (fun w9 A9 c9 h9 hr9 => by
      have hch := chkL_more X2.out.2.2 (by rw [HX.out.1]; exact hN15) HZ.out.1
      refine (LNew_any (c := c9) (N := N + 1) hr9 (by rw [List.length_append, HX.out.1]; rfl) (fun y hy => by
        rcases List.mem_append.1 hy with hy | hy
        · exact HX.out.2.2.1 y hy
        · rw [show y = z from by simpa using hy]
          exact HZ.out.2.1) (by omega)).mono ?_
      rintro e w' (⟨h0, _⟩ | ⟨_, rfl, h⟩)
      · rw [hch] at h0
        cases h0
      · rw [hch]
        exact ⟨rfl, h⟩)
    have C1 : Hid (Ch No w2 (w2.drew.alloc (.cells #[] 25))) := Lib.hid ((Ch.refl No w2).drew.alloc _)
    have O1 : Hid ((w2.drew.alloc (.cells #[] 25)).ownsRow w2.drew.heap.size 25 2 (.slice (some ⟨w2.drew.heap.size, 0, none⟩) 0 0) 0 []) := Lib.hid (own_empty w2.drew _ (Nat.le_refl _))
    have S1 := Lib.hid (rwsL_src (HX.out.2.1.no (X2.out.1.trans C1.out)))
    have B1 : w2.drew.heap.size ≤ (w2.drew.alloc (.cells #[] 25)).heap.size := by simp
    have e1 : (w2.drew.alloc (.cells #[] 25)).heap.size = w2.drew.heap.size + 1 := by simp
    have C2 : Hid (Ch No w2 ((w2.drew.alloc (.cells #[] 25)).alloc (.cells #[.int .u8 z.1, .int .u16 z.2] 25))) := Lib.hid (C1.out.alloc _)
    have O2 : Hid (((w2.drew.alloc (.cells #[] 25)).alloc (.cells #[.int .u8 z.1, .int .u16 z.2] 25)).ownsRow w2.drew.heap.size 25 2 (.slice (some ⟨w2.drew.heap.size, 0, none⟩) 0 0) 0 []) := Lib.hid (own_no O1.out ((Ch.refl No _).alloc _))
    have S2 := Lib.hid (rwsL_src (HX.out.2.1.no (X2.out.1.trans C2.out)))
    have B2 : w2.drew.heap.size ≤ ((w2.drew.alloc (.cells #[] 25)).alloc (.cells #[.int .u8 z.1, .int .u16 z.2] 25)).heap.size := by simp; omega
    have L2 : Hid (Blk ((w2.drew.alloc (.cells #[] 25)).alloc (.cells #[.int .u8 z.1, .int .u16 z.2] 25)) (w2.drew.heap.size + 1) 25 (labR z)) := Lib.hid (by have q := Blk.new (w2.drew.alloc (.cells #[] 25)) 25 (labR z); rw [e1] at q; exact q)
    have e3 : (w2.drew.alloc (.cells #[.int .u8 z.1, .int .u16 z.2] 25)).heap.size = w2.drew.heap.size + 1 := by simp
    have C3 : Hid (Ch No w2 ((w2.drew.alloc (.cells #[.int .u8 z.1, .int .u16 z.2] 25)).alloc (.cells #[] 25))) := Lib.hid (((Ch.refl No w2).drew.alloc _).alloc _)
    have O3 : Hid (((w2.drew.alloc (.cells #[.int .u8 z.1, .int .u16 z.2] 25)).alloc (.cells #[] 25)).ownsRow w2.drew.heap.size 25 2 (.slice (some ⟨w2.drew.heap.size + 1, 0, none⟩) 0 0) 0 []) := Lib.hid (by have q := own_empty (w2.drew.alloc (.cells #[.int .u8 z.1, .int .u16 z.2] 25)) w2.drew.heap.size (by simp); rw [e3] at q; exact q)
    have S3 := Lib.hid (rwsL_src (HX.out.2.1.no (X2.out.1.trans C3.out)))
    have B3 : w2.drew.heap.size ≤ ((w2.drew.alloc (.cells #[.int .u8 z.1, .int .u16 z.2] 25)).alloc (.cells #[] 25)).heap.size := by simp; omega
    have L3 : Hid (Blk ((w2.drew.alloc (.cells #[.int .u8 z.1, .int .u16 z.2] 25)).alloc (.cells #[] 25)) w2.drew.heap.size 25 (labR z)) := Lib.hid ((Blk.new w2.drew 25 (labR z)).alloc _)
    have HM := Lib.hid (And.intro hm1 (And.intro hm2 (And.intro hm3 (And.intro hm4 (And.intro B1 (And.intro B2 B3))))))
    clear hm1 hm2 hm3 hm4 B1 B2 B3 e1 e3 hN15 hN1
    go_region_law (first
      | (refine step_appL0 (by rfl) (.tmp 47) (.tmp 48) 22 25 (by rfl) (.agg #[.int .u8 0, .int .u16 0]) 2 4 Tryd.underlying22 infoLab (by rfl) (by decide) w2.drew.heap.size (some ⟨w2.drew.heap.size, 0, none⟩) 0 (by rfl) O1.out (some ⟨b, off, none⟩) N c0 (flatL Ls) (by rfl) HUL.out S1.out.1 S1.out.2 (flatL_one Ls) HM.out.1 HM.out.2.1 HM.out.2.2.2.2.1 ?_; intro A8 c8 w8 o8 h8 n8; have C8 := Lib.hid (C1.out.trans' h8 (fun k hk he => absurd hk (by have q := (O1.out.lt k he).1; exact Nat.not_lt.2 q))); have l0 := C8.out.cell l0 (fun h => h); have l1 := C8.out.cell l1 (fun h => h); have lb := Nat.lt_of_lt_of_le lb C8.out.size; have H8 := Lib.hid o8; have BL := Lib.hid (Blk.new w8 25 (labR z)); clear o8 h8 n8)
      | (refine step_appL0 (by rfl) (.tmp 47) (.tmp 48) 22 25 (by rfl) (.agg #[.int .u8 0, .int .u16 0]) 2 4 Tryd.underlying22 infoLab (by rfl) (by decide) w2.drew.heap.size (some ⟨w2.drew.heap.size, 0, none⟩) 0 (by rfl) O2.out (some ⟨b, off, none⟩) N c0 (flatL Ls) (by rfl) HUL.out S2.out.1 S2.out.2 (flatL_one Ls) HM.out.1 HM.out.2.1 HM.out.2.2.2.2.2.1 ?_; intro A8 c8 w8 o8 h8 n8; have C8 := Lib.hid (C2.out.trans' h8 (fun k hk he => absurd hk (by have q := (O2.out.lt k he).1; exact Nat.not_lt.2 q))); have BL := Lib.hid (L2.out.ch h8 (fun he => by simp [Value.ownBlock] at he)); have H8 := Lib.hid o8; clear o8 h8 n8)
      | (refine step_appL0 (by rfl) (.tmp 47) (.tmp 48) 22 25 (by rfl) (.agg #[.int .u8 0, .int .u16 0]) 2 4 Tryd.underlying22 infoLab (by rfl) (by decide) w2.drew.heap.size (some ⟨w2.drew.heap.size + 1, 0, none⟩) 0 (by rfl) O3.out (some ⟨b, off, none⟩) N c0 (flatL Ls) (by rfl) HUL.out S3.out.1 S3.out.2 (flatL_one Ls) HM.out.1 HM.out.2.1 HM.out.2.2.2.2.2.2 ?_; intro A8 c8 w8 o8 h8 n8; have C8 := Lib.hid (C3.out.trans' h8 (fun k hk he => absurd hk (by have q := (O3.out.lt k he).1; exact Nat.not_lt.2 q))); have BL := Lib.hid (L3.out.ch h8 (fun he => by simp [Value.ownBlock] at he)); have H8 := Lib.hid o8; clear o8 h8 n8)
      | (refine step_appL (by rfl) (.tmp 49) (.tmp 54) 22 25 (by rfl) (.agg #[.int .u8 0, .int .u16 0]) 2 4 Tryd.underlying22 infoLab (by rfl) (by decide) w2.drew.heap.size (.slice A8 N c8) N (flatL Ls) (by rfl) (own_no H8.out ((Ch.refl No w8).alloc (.cells #[.int .u8 z.1, .int .u16 z.2] 25))) (some ⟨w8.heap.size, 0, none⟩) 1 1 (labR z) (by rfl) (by rfl) (blk_srcE BL.out) (fun h => nomatch h) (labR_one z) HM.out.2.2.1 HM.out.2.2.2.1 (Nat.le_trans C8.out.size (by simp)) ?_; intro A9 c9 w9 o9 h9 n9; have H9 := Lib.hid (errN (C8.out.alloc (.cells #[.int .u8 z.1, .int .u16 z.2] 25)) (own_no H8.out ((Ch.refl No w8).alloc (.cells #[.int .u8 z.1, .int .u16 z.2] 25))) HX.out.1 o9 h9); clear o9 h9 n9)
      | (refine step_appL (by rfl) (.tmp 49) (.tmp 54) 22 25 (by rfl) (.agg #[.int .u8 0, .int .u16 0]) 2 4 Tryd.underlying22 infoLab (by rfl) (by decide) w2.drew.heap.size (.slice A8 N c8) N (flatL Ls) (by rfl) H8.out (some ⟨w2.drew.heap.size + 1, 0, none⟩) 1 1 (labR z) (by rfl) (by rfl) (blk_srcE BL.out) (fun h => nomatch h) (labR_one z) HM.out.2.2.1 HM.out.2.2.2.1 C8.out.size ?_; intro A9 c9 w9 o9 h9 n9; have H9 := Lib.hid (errN C8.out H8.out HX.out.1 o9 h9); clear o9 h9 n9)
      | (refine step_appL (by rfl) (.tmp 49) (.tmp 54) 22 25 (by rfl) (.agg #[.int .u8 0, .int .u16 0]) 2 4 Tryd.underlying22 infoLab (by rfl) (by decide) w2.drew.heap.size (.slice A8 N c8) N (flatL Ls) (by rfl) H8.out (some ⟨w2.drew.heap.size, 0, none⟩) 1 1 (labR z) (by rfl) (by rfl) (blk_srcE BL.out) (fun h => nomatch h) (labR_one z) HM.out.2.2.1 HM.out.2.2.2.1 C8.out.size ?_; intro A9 c9 w9 o9 h9 n9; have H9 := Lib.hid (errN C8.out H8.out HX.out.1 o9 h9); clear o9 h9 n9)
      | (go_simp; go_at_call 9; refine (HW1.out _ _ _ H9.out.1 H9.out.2).mono ?_; rintro e wA ⟨rfl, hA⟩; have CA := Lib.hid (H9.out.1.trans hA); clear hA))
    all_goals
      clear C1 O1 S1 C2 O2 S2 L2 C3 O3 S3 L3 HW1 l0 l1 lb HM
      go_wp2_with fail
      go_meet
      case rel => exact ⟨rfl, CA⟩
  case rest =>
    obtain ⟨rfl, hwc⟩ := hcut
    obtain ⟨w3, ew⟩ : ∃ w3, w3 = wc := ⟨_, rfl⟩
    subst ew
    have O1 : Hid ((w3.alloc (.cells #[.int .u8 16, .int .u16 0] 25)).ownsRow w3.heap.size 25 2 (.slice (some ⟨w3.heap.size, 0, none⟩) 1 1) 1 (flatL [(16, 0)])) := Lib.hid (by
      have := World.ownsRow_lit (base := w3.heap.size) (e := 25) (size := 2) w3 #[.int .u8 16, .int .u16 0] 1 (Nat.le_refl _) (by simp [maxLen]) rfl
      simpa [flatL, labR] using this)
    have S1 := Lib.hid (rwsL_src (HX.out.2.1.no ((X2.out.1.trans hwc.out).alloc (.cells #[.int .u8 16, .int .u16 0] 25))))
    have B1 : w3.heap.size ≤ (w3.alloc (.cells #[.int .u8 16, .int .u16 0] 25)).heap.size := by simp
    have hm5 : 1 + N ≤ maxLen := by omega
    have hm6 : (1 + N) * 4 ≤ 140737488355328 := by omega
    go_wp2_with (at_builtin; refine appLn rfl _ _ 22 25 rfl (.agg #[.int .u8 0, .int .u16 0]) 2 4 Tryd.underlying22 infoLab rfl (by decide) w3.heap.size (.slice (some ⟨w3.heap.size, 0, none⟩) 1 1) 1 (flatL [(16, 0)]) rfl O1.out (some ⟨b, off, none⟩) N c0 (flatL Ls) rfl HUL.out S1.out.1 S1.out.2 (flatL_one Ls) hm5 hm6 B1 ?_; intro A4 c4 w4 o4 h4)
    have X4 : Hid (Ch No w2 w4 ∧ Rws w4 A4 2 (((16, 0) :: Ls).map labR)) := Lib.hid ⟨(hwc.out.alloc (.cells #[.int .u8 16, .int .u16 0] 25)).trans' h4 (fun k hk he => by have q1 := (O1.out.lt k he).1; have q2 := hwc.out.size; omega), rowL_rws (xs := (16, 0) :: Ls) (by have q := o4; rw [← flatL_app] at q; exact q) (by rw [List.length_cons, HX.out.1]; omega)⟩
    have HW2 : Hid (∀ w' A' c', Rws w' A' 2 (((16, 0) :: Ls).map labR) → Calls Tryd.prog 9 #[.slice A' (1 + N) c'] w' fun e w'' => e = .returned (.tuple #[.pointer none, .int .i64 23]) ∧ Ch No w' w'') := Lib.hid (fun w' A' c' hr => by
      have hch := chkL_high (Ls := Ls) (by rw [HX.out.1]; exact hN15)
      refine (LNew_any (c := c') (N := 1 + N) hr (by rw [List.length_cons, HX.out.1]; omega) (fun y hy => by
        rcases List.mem_cons.1 hy with rfl | hy
        · exact ⟨by decide, by decide⟩
        · exact HX.out.2.2.1 y hy) (by omega)).mono ?_
      rintro e w'' (⟨h0, _⟩ | ⟨_, rfl, h⟩)
      · rw [hch] at h0
        cases h0
      · rw [hch]
        exact ⟨rfl, h⟩)
    have HW3 : Hid (∀ w' : World, Calls Tryd.prog 9 #[.slice none 0 0] w' fun e w'' => e = .returned (.tuple #[.pointer none, .int .i64 3]) ∧ Ch No w' w'') := Lib.hid (fun w' => by
      refine (LNew_any (A := none) (c := 0) (N := 0) (Ls := []) (fun pre r post e => by simp at e) rfl (fun y hy => by simp at hy) (by omega)).mono ?_
      rintro e w'' (⟨h0, _⟩ | ⟨_, rfl, h⟩)
      · exact absurd h0 (by decide)
      · exact ⟨rfl, h⟩)
    clear o4 h4 O1 S1 B1 hm5 hm6 hwc
    go_wp2_with fail
    refine (HW2.out _ _ _ X4.out.2).mono ?_
    rintro e w5 ⟨rfl, h5⟩
    have X5 := Lib.hid (X4.out.1.trans h5)
    clear h5 X4 HW2
    go_wp2_with fail
    refine (HW3.out _).mono ?_
    rintro e w6 ⟨rfl, h6⟩
    have X6 := Lib.hid (X5.out.trans h6)
    clear h6 X5 HW3
    go_upto_region 14 with fail
    obtain ⟨M, hM⟩ : ∃ M, N - 1 = M := ⟨_, rfl⟩
    obtain ⟨less, hless⟩ : ∃ less, Ls.take p ++ Ls.drop (p + 1) = less := ⟨_, rfl⟩
    go_cut [13] from 22 (fun s13 wc => ∃ (A7 : Option Addr) (c7 : Nat), s13 = .slice A7 M c7 ∧ Hid (Ch No w2 wc ∧ Rws wc A7 2 (less.map labR)))
    case first =>
      have hlt : (Ls.take p).length = p := by rw [List.length_take, HX.out.1]; omega
      have hld : (Ls.drop (p + 1)).length = N - (p + 1) := by rw [List.length_drop, HX.out.1]
      have C1 : Hid (Ch No w2 (w6.drew.alloc (.cells #[] 25))) := Lib.hid (X6.out.drew.alloc _)
      have O1 : Hid ((w6.drew.alloc (.cells #[] 25)).ownsRow w6.drew.heap.size 25 2 (.slice (some ⟨w6.drew.heap.size, 0, none⟩) 0 0) 0 []) := Lib.hid (own_empty w6.drew _ (Nat.le_refl _))
      have SA := Lib.hid (rwsL_src (rws_take p (HX.out.2.1.no (X2.out.1.trans C1.out))))
      have B1 : w6.drew.heap.size ≤ (w6.drew.alloc (.cells #[] 25)).heap.size := by simp
      have t1 : (flatL (Ls.take p)).length = p * 2 := by rw [flatL_len, hlt]
      have t2 : (flatL (Ls.drop (p + 1))).length = (N - (p + 1)) * 2 := by rw [flatL_len, hld]
      have m1 : p ≤ maxLen := by omega
      have m2 : p * 4 ≤ 140737488355328 := by omega
      have m3 : p + (N - (p + 1)) ≤ maxLen := by omega
      have m4 : (p + (N - (p + 1))) * 4 ≤ 140737488355328 := by omega
      have HM := Lib.hid (And.intro m1 (And.intro m2 (And.intro m3 (And.intro m4 (And.intro B1 (And.intro t1 t2))))))
      have hpM : p + (N - (p + 1)) = M := by omega
      have HPM := Lib.hid hpM
      have HLS := Lib.hid (And.intro hlt (And.intro hld hless))
      have hpc : p ≤ c0 := by omega
      have hpc2 : p + 1 ≤ c0 := by omega
      have hpN2 : p + 1 ≤ N := by omega
      have hw1 : IntKind.i64.wrap ((p : Int) + 1) = (p : Int) + 1 := IntWalk.i64_in _ (by omega)
      have hw2 : 0 ≤ (p : Int) + 1 := by omega
      have hw3 : ((p : Int) + 1).toNat = p + 1 := by omega
      have hw4 : (p : Int) + 1 ≤ (N : Int) := by omega
      have hw5 : (p : Int) ≤ (p : Int) + 1 := by omega
      clear hlt hld B1 t1 t2 m1 m2 m3 m4 hpM hM hless hm1 hm2 hm3 hm4
      by_cases hcp : c0 = p + 1
      · subst hcp
        have hd0 : (Ls.drop (p + 1)).length = 0 := by rw [HLS.out.2.1]; omega
        have HM0 := Lib.hid (And.intro (show p + 0 ≤ maxLen from HM.out.1) (And.intro (show (p + 0) * 4 ≤ 140737488355328 from HM.out.2.1) (And.intro (show (flatL (Ls.drop (p + 1))).length = 0 * 2 by rw [flatL_len, hd0]) (And.intro hd0 (show p + 0 = M by have := HPM.out; omega)))))
        clear hd0
        have hdr : Hid (Ls.drop (p + 1) = []) := Lib.hid (List.drop_eq_nil_of_le (by rw [HX.out.1]; exact hc))
        have SB : Hid (∀ w' : World, (∀ j u, (flatL (Ls.drop (p + 1)))[j]? = some u → ∃ ad, (some ⟨b, off, none⟩ : Option Addr) = some ad ∧ w'.cell? (ad.add j) = some u) ∧ ((some ⟨b, off, none⟩ : Option Addr) = none → flatL (Ls.drop (p + 1)) = [])) := Lib.hid (fun w' => by rw [hdr.out]; exact ⟨fun j u h => by simp [flatL] at h, fun h => nomatch h⟩)
        go_region_law (first
          | (refine step_appL0 (by rfl) (.tmp 81) (.tmp 84) 22 25 (by rfl) (.agg #[.int .u8 0, .int .u16 0]) 2 4 Tryd.underlying22 infoLab (by rfl) (by decide) w6.drew.heap.size (some ⟨w6.drew.heap.size, 0, none⟩) 0 (by rfl) O1.out (some ⟨b, off, none⟩) p (p + 1) (flatL (Ls.take p)) (by rfl) HM.out.2.2.2.2.2.1 SA.out.1 SA.out.2 (flatL_one _) HM.out.1 HM.out.2.1 HM.out.2.2.2.2.1 ?_; intro A8 c8 w8 o8 h8 n8; have C8 := Lib.hid (C1.out.trans' h8 (fun k hk he => absurd hk (by have q := (O1.out.lt k he).1; exact Nat.not_lt.2 (Nat.le_trans X6.out.size q)))); have BS := Lib.hid (Nat.le_trans HM.out.2.2.2.2.1 h8.size); have H8 := Lib.hid o8; clear o8 h8 n8)
          | (refine step_appL (by rfl) (.tmp 85) (.tmp 89) 22 25 (by rfl) (.agg #[.int .u8 0, .int .u16 0]) 2 4 Tryd.underlying22 infoLab (by rfl) (by decide) w6.drew.heap.size (.slice A8 p c8) p (flatL (Ls.take p)) (by rfl) H8.out (some ⟨b, off, none⟩) 0 0 (flatL (Ls.drop (p + 1))) (by rfl) HM0.out.2.2.1 (SB.out w8).1 (SB.out w8).2 (flatL_one _) HM0.out.1 HM0.out.2.1 BS.out ?_; intro A9 c9 w9 o9 h9 n9; have H9 := Lib.hid (errL X6.out C8.out H8.out HLS.out.1 HM0.out.2.2.2.1 HLS.out.2.2 o9 h9); clear o9 h9 n9))
        all_goals
          clear C1 O1 SA HM l0 l1 lb SB
          go_wp2_with fail
          go_meet
          case rel => exact ⟨A9, c9, by rw [show p = M from HM0.out.2.2.2.2], H9⟩
      · have SB : Hid (∀ w', Ch No w2 w' → (∀ j u, (flatL (Ls.drop (p + 1)))[j]? = some u → ∃ ad, (some ⟨b, off + (p + 1) * 2, none⟩ : Option Addr) = some ad ∧ w'.cell? (ad.add j) = some u) ∧ ((some ⟨b, off + (p + 1) * 2, none⟩ : Option Addr) = none → flatL (Ls.drop (p + 1)) = [])) := Lib.hid (fun w' h => rwsL_src (rws_drop (p + 1) (HX.out.2.1.no (X2.out.1.trans h)) (by rw [HX.out.1]; exact hpN2)))
        go_region_law (first
          | (refine step_appL0 (by rfl) (.tmp 81) (.tmp 84) 22 25 (by rfl) (.agg #[.int .u8 0, .int .u16 0]) 2 4 Tryd.underlying22 infoLab (by rfl) (by decide) w6.drew.heap.size (some ⟨w6.drew.heap.size, 0, none⟩) 0 (by rfl) O1.out (some ⟨b, off, none⟩) p c0 (flatL (Ls.take p)) (by rfl) HM.out.2.2.2.2.2.1 SA.out.1 SA.out.2 (flatL_one _) HM.out.1 HM.out.2.1 HM.out.2.2.2.2.1 ?_; intro A8 c8 w8 o8 h8 n8; have C8 := Lib.hid (C1.out.trans' h8 (fun k hk he => absurd hk (by have q := (O1.out.lt k he).1; exact Nat.not_lt.2 (Nat.le_trans X6.out.size q)))); have BS := Lib.hid (Nat.le_trans HM.out.2.2.2.2.1 h8.size); have H8 := Lib.hid o8; clear o8 h8 n8)
          | (refine step_appL (by rfl) (.tmp 85) (.tmp 89) 22 25 (by rfl) (.agg #[.int .u8 0, .int .u16 0]) 2 4 Tryd.underlying22 infoLab (by rfl) (by decide) w6.drew.heap.size (.slice A8 p c8) p (flatL (Ls.take p)) (by rfl) H8.out (some ⟨b, off + (p + 1) * 2, none⟩) (N - (p + 1)) (c0 - (p + 1)) (flatL (Ls.drop (p + 1))) (by rfl) HM.out.2.2.2.2.2.2 (SB.out _ C8.out).1 (SB.out _ C8.out).2 (flatL_one _) HM.out.2.2.1 HM.out.2.2.2.1 BS.out ?_; intro A9 c9 w9 o9 h9 n9; have H9 := Lib.hid (errL X6.out C8.out H8.out HLS.out.1 HLS.out.2.1 HLS.out.2.2 o9 h9); clear o9 h9 n9))
        all_goals
          clear C1 O1 SA HM l0 l1 lb SB
          go_wp2_with fail
          go_meet
          case rel => exact ⟨A9, c9, by rw [HPM.out], H9⟩
    case rest =>
      obtain ⟨A7, c7, rfl, hwc⟩ := hcut
      obtain ⟨w7, ew⟩ : ∃ w7, w7 = wc := ⟨_, rfl⟩
      subst ew
      have hll : less.length = M := by rw [← hless, List.length_append, List.length_take, List.length_drop, HX.out.1]; omega
      have hlok : okL less := by
        intro y hy
        rw [← hless] at hy
        rcases List.mem_append.1 hy with hy | hy
        · exact HX.out.2.2.1 y (List.mem_of_mem_take hy)
        · exact HX.out.2.2.1 y (List.mem_of_mem_drop hy)
      have hlc : chkL less = if N = 1 then 3 else 0 := by rw [← hless, chkL_less X2.out.2.2 (by rw [HX.out.1]; exact hpN), HX.out.1]
      have HL := Lib.hid (And.intro hll (And.intro hlok hless))
      have HN := Lib.hid (LNew_any (c := c7) hwc.out.2 hll hlok (by omega))
      clear hll hlok
      by_cases hone : N = 1
      · rw [if_pos hone] at hlc
        obtain rfl : M = 0 := by omega
        go_wp2_with fail
        refine HN.out.mono ?_
        rintro e w8 (⟨h0, _⟩ | ⟨_, rfl, h8⟩)
        · rw [hlc] at h0
          cases h0
        rw [hlc]
        have X8 := Lib.hid (hwc.out.1.trans h8)
        clear h8 HN hwc hlc hless
        go_wp2_with fail
        go_ret
        exact ⟨rfl, X2.out.1.trans X8.out⟩
      rw [if_neg hone] at hlc
      have hM1 : ((M : Int) == 0) = false := by simp; omega
      go_wp2_with fail
      refine HN.out.mono ?_
      rintro e w8 (⟨_, pm, A8, c8, mb8, D8, cd8, rfl, hl8, h8⟩ | ⟨h0, _⟩)
      rotate_left
      · exact absurd hlc h0
      have X8 := Lib.hid (And.intro (hwc.out.1.trans h8) (And.intro hl8 (hwc.out.2.no h8)))
      have hM16 : M ≤ 16 := by omega
      clear h8 hl8 HN hwc hlc hless hone
      go_wp2_with fail
      clear hM1
      go_loopw [16, 17, 18, 19, 20, 21, 109] (fun _ _ _ _ _ _ ix wr => ∃ j : Nat, j ≤ M ∧ ix = .int .i64 j ∧ Hid (Ch No w8 wr)) (fun _ _ _ _ _ _ ix _ => M - (intOf ix).toNat)
      case atStart => exact ⟨0, by omega, rfl, Lib.hid (Ch.refl _ _)⟩
      case round =>
        obtain ⟨j, hj, rfl, hw⟩ := hrel
        by_cases hjt : j < M
        · obtain ⟨pre, y, post, e, hpl, hy⟩ := split_at (xs := less) (i := j) (by rw [HL.out.1]; exact hjt)
          have HY := Lib.hid (HL.out.2.1 y (by rw [e]; simp))
          obtain ⟨b7, off7, hA, k0, k1⟩ := (X8.out.2.2.no hw.out).lab e
          rw [hpl] at k0 k1
          have lb7 : b7 < wr.heap.size := World.block_lt_of_cell? _ _ k0
          have hat : (if j < p then Ls[j]? else Ls[j + 1]?) = some y := by rw [← less_at (by rw [HX.out.1]; exact hpN), HL.out.2.2]; exact hy
          have hdm : (if (j : Int) < 0 then 0 else dwn less j) = bel less y := by rw [if_neg (by omega)]; unfold dwn; rw [Int.toNat_natCast, hy]; rfl
          have FM := Lib.hid (fun w' (h : Ch No w8 w') => by have q := LtDown_any (X8.out.2.1.no h) (j : Int); rw [hdm] at q; exact q)
          have FB := Lib.hid (fun w' (h : Ch No w8 w') => LtBelow_any (X8.out.2.1.no h) y.1 y.2 HY.out.2)
          have hbl := bel_less (Ls := Ls) (i := p) (by rw [HX.out.1]; exact hpN) (by rw [HX.out.1]; omega) y
          rw [HL.out.2.2] at hbl
          have hbx : bel Ls y < 65536 := Nat.lt_of_lt_of_le (bel_lt Ls y) (Nat.pow_le_pow_right (n := 2) (j := 16) (by omega) (by rw [HX.out.1]; omega))
          have FL : Hid (∀ (at_ : Nat), (at_ = if j < p then j else j + 1) → ∀ w', Ch No w8 w' → Calls Tryd.prog 17 #[.pointer (some ⟨pb, 0, none⟩), .int .i64 (at_ : Int)] w' fun e w'' => e = .returned (.int .u32 ((bel Ls y : Nat) : Int)) ∧ Ch No w' w'') := Lib.hid (fun at_ ha w' h => by
            have hyt : Ls[at_]? = some y := by
              rw [ha]
              split
              · next h1 => rw [if_pos h1] at hat; exact hat
              · next h1 => rw [if_neg h1] at hat; exact hat
            have hd : (if (at_ : Int) < 0 then 0 else dwn Ls at_) = bel Ls y := by rw [if_neg (by omega)]; unfold dwn; rw [Int.toNat_natCast, hyt]; rfl
            have q := LtDown_any (X2.out.2.1.no (X8.out.1.trans h)) (at_ : Int)
            rw [hd] at q
            exact q)
          rw [show bel less (y.1, y.2) = bel less y from rfl] at FB
          have hF := errF (by omega) hbx hbl
          clear e hpl hy hat hdm hbl hbx
          subst hA
          generalize bel less y = a at *
          generalize bel Ls y = bq at *
          have HX3 : Hid (Ch No wr (wr.alloc (.cells #[.int .u8 y.1, .int .u16 y.2] 25)) ∧ Blk (wr.alloc (.cells #[.int .u8 y.1, .int .u16 y.2] 25)) wr.heap.size 25 [.int .u8 y.1, .int .u16 y.2]) := Lib.hid ⟨(Ch.refl No wr).alloc _, Blk.new wr 25 [.int .u8 y.1, .int .u16 y.2]⟩
          by_cases hjp : j < p
          · have FA := Lib.hid (FL.out j (by rw [if_pos hjp]))
            clear FL
            go_upto_region 23 with fail
            generalize wr.alloc (.cells #[.int .u8 y.1, .int .u16 y.2] 25) = w9 at *
            generalize wr.heap.size = xb at *
            have H9 := Lib.hid (hw.out.trans HX3.out.1)
            clear k0 k1 lb7
            go_wp2_with fail
            refine (FM.out _ H9.out).mono ?_
            rintro e u1 ⟨rfl, h⟩
            have D1 := Lib.hid (H9.out.trans h)
            have E1 := Lib.hid (HX3.out.2.ch h (fun h => h))
            clear h H9 HX3
            go_wp2_with fail
            refine (FA.out _ D1.out).mono ?_
            rintro e u2 ⟨rfl, h⟩
            have D2 := Lib.hid (D1.out.trans h)
            have E2 := Lib.hid (E1.out.ch h (fun h => h))
            clear h E1 D1
            have x0 := E2.out.cell 0
            have x1 := E2.out.cell 1
            simp only [List.getElem?_cons_zero, List.getElem?_cons_succ] at x0 x1
            go_wp2_with fail
            refine (FB.out _ D2.out).mono ?_
            rintro e u3 ⟨rfl, h⟩
            have D3 := Lib.hid (D2.out.trans h)
            clear h x0 x1 E2 D2
            go_wp2_with fail
            go_roundw
            case rel => exact ⟨j + 1, by omega, by simp, D3⟩
            case measure => simp [intOf]; omega
          · have FA : Hid (∀ w', Ch No w8 w' → Calls Tryd.prog 17 #[.pointer (some ⟨pb, 0, none⟩), .int .i64 ((j : Int) + 1)] w' fun e w'' => e = .returned (.int .u32 (bq : Int)) ∧ Ch No w' w'') := Lib.hid (fun w' h => by have q := FL.out (j + 1) (by rw [if_neg hjp]) w' h; exact q)
            clear FL
            go_upto_region 23 with fail
            generalize wr.alloc (.cells #[.int .u8 y.1, .int .u16 y.2] 25) = w9 at *
            generalize wr.heap.size = xb at *
            have H9 := Lib.hid (hw.out.trans HX3.out.1)
            clear k0 k1 lb7
            go_wp2_with fail
            refine (FM.out _ H9.out).mono ?_
            rintro e u1 ⟨rfl, h⟩
            have D1 := Lib.hid (H9.out.trans h)
            have E1 := Lib.hid (HX3.out.2.ch h (fun h => h))
            clear h H9 HX3
            go_wp2_with fail
            refine (FA.out _ D1.out).mono ?_
            rintro e u2 ⟨rfl, h⟩
            have D2 := Lib.hid (D1.out.trans h)
            have E2 := Lib.hid (E1.out.ch h (fun h => h))
            clear h E1 D1
            have x0 := E2.out.cell 0
            have x1 := E2.out.cell 1
            simp only [List.getElem?_cons_zero, List.getElem?_cons_succ] at x0 x1
            go_wp2_with fail
            refine (FB.out _ D2.out).mono ?_
            rintro e u3 ⟨rfl, h⟩
            have D3 := Lib.hid (D2.out.trans h)
            clear h x0 x1 E2 D2
            go_wp2_with fail
            go_roundw
            case rel => exact ⟨j + 1, by omega, by simp, D3⟩
            case measure => simp [intOf]; omega
        · go_wp2_with fail
          go_ret
          exact ⟨rfl, (X2.out.1.trans X8.out.1).trans hw.out⟩

theorem latticeErrors_walk (W : World) (A0 : Option Addr) (n0 c0 : Nat) (a1 : Int) (R0 : Rd Tryd.prog W 8 22 [.slice A0 n0 c0]) (_w1 : (Lit.int .i64 a1).wf = true) (hT : TabAt 0 Lib.deBruijn64tab W) :
    Calls Tryd.prog 5 #[.slice A0 n0 c0, .int .i64 a1] W fun e w' => e = .returned (.bool true) ∧ Below W.heap.size W w' := by
  obtain ⟨A, c, xs, hv, hx, ok, hl, hc⟩ := rd_labsC R0
  obtain ⟨rfl, rfl, rfl⟩ := Value.slice.inj hv
  exact (latticeErrors_core W _ _ xs a1 hx ok (by omega) hc hT).mono fun _ _ ⟨h1, h2⟩ => ⟨h1, h2.same⟩
end Go.Proofs.YtpjcfelknkddfaaDoor
