/- lattice.Close: the iterator over a mask's bits, which are told to be bits. -/
import Derived.Test.YtpjcfelknkddfaaDoorLatNew2
import Derived.Test.YtpjcfelknkddfaaDoorRng
import Derived.Test.YtpjcfelknkddfaaDoorFitBits
namespace Go.Proofs.YtpjcfelknkddfaaDoor
open Go.RowKit Go.Shelf

attribute [local go_sem] Oper.semAt_some

set_option maxRecDepth 100000 in
set_option maxHeartbeats 2000000 in
theorem Bits1_inR (n : Nat) (hn : 1 ≤ n) (l Bn n₀ nn D : Nat) (hnn : nn < 18446744073709551616) (hg : 0 < n₀) (J Jx : List Int → World → Prop)
    (hY : ∀ pre x W, J pre W → x ∈ plc nn → pre.length < (plc nn).length → YieldAt Fence.wide (n - 1) Tryd.prog l #[.int .i64 x] W fun e W' =>
      (e = .returned (.bool true) ∧ J (pre ++ [x]) W' ∧ KpB n₀ Bn W W' ∧ KeepsFrom D W W') ∨ (e = .returned (.bool false) ∧ Jx (pre ++ [x]) W' ∧ KeepsFrom D W W'))
    (W : World) (_hW : n₀ ≤ W.heap.size) (hBn : W.cell? ⟨Bn, 0, none⟩ = some (.int .u64 nn)) (hT : TabAt 0 Lib.deBruijn64tab W) (h0 : J [] W) :
    CallsIn Fence.wide n Tryd.prog 34 #[.func (.yield l) #[] #[], .pointer (some ⟨Bn, 0, none⟩)] W fun e W' => (∃ v, e = .returned v) ∧
      ((∃ ys, ys = plc nn ∧ J ys W') ∨ (∃ pre, pre <+: plc nn ∧ Jx pre W')) := by
  refine callsIn_of_wp Tryd.func34 rfl trivial ?_ rfl
  simp only [Tryd.ntmps34, List.size_toArray, List.length_cons, List.length_nil, Nat.reduceAdd, Nat.reduceSub, Array.replicate_succ, Array.replicate_zero, List.push_toArray, List.append_toArray, List.nil_append, List.cons_append]
  have HT := Lib.hid hT
  clear hT
  gi_wp2
  gi_loopw [3] (fun v wr => ∃ (pre : List Int) (z : Nat), v = .int .u64 z ∧ z < 18446744073709551616 ∧ Hid (pre ++ plc z = plc nn) ∧ J pre wr ∧ KpB n₀ Bn W wr) (fun v _ => (intOf v).toNat)
  case atStart => exact ⟨[], nn, rfl, hnn, Lib.hid rfl, h0, Below.refl _ _, rfl⟩
  case round =>
    obtain ⟨pre, z, rfl, hz, hpz, hJ, hb⟩ := hrel
    by_cases hz0 : z = 0
    · subst hz0
      gi_wp2
      go_end0
      have e : pre = plc nn := by rw [← hpz.out, plc_zero, List.append_nil]
      exact ⟨⟨_, rfl⟩, .inl ⟨_, e, hJ⟩⟩
    · have hT1 : TabAt 0 Lib.deBruijn64tab wr := fun j hj => (World.cell?_of_block (hb.1.block _ hg)).trans (HT.out j hj)
      have htz := TZ_any z hz hz0 wr hT1
      have hst := plc_step z hz0 hz
      have hlt := and_pred_lt z hz0
      have hzb : ((z : Int) == 0) = false := by simp; omega
      have hBl := hb.2
      have hpl : pre.length < (plc nn).length := by rw [← hpz.out, hst]; simp
      have hpm : (Lib.ctz 64 z : Int) ∈ plc nn := by rw [← hpz.out, hst]; simp
      have hpz2 : Hid ((pre ++ [(Lib.ctz 64 z : Int)]) ++ plc (z &&& (z - 1)) = plc nn) := Lib.hid (by rw [← hpz.out, hst]; simp)
      have hand : bits BinOp.and IntKind.u64 (z : Int) ((z : Int) - 1) = ((z &&& (z - 1) : Nat) : Int) := by
        have e1 : (z : Int) - 1 = ((z - 1 : Nat) : Int) := by omega
        rw [e1, bits_and_u64_nat z _ hz (by omega)]
      generalize Lib.ctz 64 z = t at *
      generalize z &&& (z - 1) = z2 at *
      clear hst hT1
      gi_wp2
      refine ⟨trivial, ?_⟩
      refine (callsIn_wide.2 htz).mono ?_
      rintro e w1 ⟨rfl, rfl⟩
      obtain ⟨fn, tmps, assign, body, hy, hR⟩ := hY _ (t : Int) _ hJ hpm hpl
      gi_wp2
      refine hR.mono ?_
      rintro e W3 (⟨rfl, hJ3, hk3, _⟩ | ⟨rfl, hJx3, _⟩)
      · gi_wp2
        go_roundw
        case rel => exact ⟨pre ++ [(t : Int)], z2, by simp, by omega, hpz2, hJ3, hb.trans hk3⟩
        case measure => simp [intOf]; omega
      · gi_wp2
        refine bodyPost_ret (results_none rfl _ _ _) rfl ?_
        refine ⟨⟨_, rfl⟩, .inr ⟨_, ?_, hJx3⟩⟩
        rw [← hpz2.out]
        exact List.prefix_append _ _
theorem Bits_seqR (n : Nat) (hn : 1 ≤ n) (Bn n₀ nn : Nat) (hnn : nn < 18446744073709551616) (hg : 0 < n₀) (w : World) (hn₀ : n₀ ≤ w.heap.size) (hBn : w.cell? ⟨Bn, 0, none⟩ = some (.int .u64 nn)) (hT : TabAt 0 Lib.deBruijn64tab w) :
    SeqR Fence.wide n Tryd.prog 34 #[.pointer (some ⟨Bn, 0, none⟩)] (fun x : Int => #[.int .i64 x]) (fun _ => KpB n₀ Bn) (fun _ x _ => x ∈ plc nn) (fun ys => ys = plc nn) (fun pre => pre <+: plc nn) (plc nn).length w :=
  fun l J Jx W hW _ _ hY h0 => Bits1_inR n hn l Bn n₀ nn W.heap.size hnn hg J Jx hY W (Nat.le_trans hn₀ hW.size) ((hW.cell (p := ⟨Bn, 0, none⟩) (World.block_lt_of_cell? _ _ hBn)).trans hBn)
    (fun j hj => (hW.cell (World.block_lt_of_cell? _ _ (hT j hj))).trans (hT j hj)) h0
theorem mem_plc {n : Nat} {x : Int} (h : x ∈ plc n) : ∃ k : Nat, x = k ∧ n.testBit k = true := by
  unfold plc at h
  obtain ⟨k, hk, rfl⟩ := List.mem_map.1 h
  exact ⟨k, rfl, (List.mem_filter.1 hk).2⟩
theorem plc_mem {n k : Nat} (hk : k < 64) (h : n.testBit k = true) : (k : Int) ∈ plc n := by
  unfold plc
  exact List.mem_map.2 ⟨k, List.mem_filter.2 ⟨List.mem_range.2 hk, h⟩, rfl⟩
/-- what the program puts together is what the mask closes to -/
theorem orA_cl {Ls : List (Nat × Nat)} (hN : Ls.length ≤ 16) (m : Nat) : orA (dwn Ls) (plc (m &&& (2 ^ Ls.length - 1))) = cl Ls m := by
  apply Nat.eq_of_testBit_eq
  intro j
  rw [orA_bit, Bool.eq_iff_iff, cl_bit, List.any_eq_true]
  constructor
  · rintro ⟨x, hx, hj⟩
    obtain ⟨k, rfl, hk⟩ := mem_plc hx
    rw [Nat.testBit_and, Nat.testBit_two_pow_sub_one, Bool.and_eq_true, decide_eq_true_iff] at hk
    unfold dwn at hj
    rw [Int.toNat_natCast, List.getElem?_eq_getElem hk.2, Option.map_some, Option.getD_some, bel_bit] at hj
    obtain ⟨y, h1, h2⟩ := hj
    exact ⟨k, Ls[k], y, h1, List.getElem?_eq_getElem hk.2, hk.1, h2⟩
  · rintro ⟨k, x, y, hj, hk, hm, hd⟩
    have hkl := (List.getElem?_eq_some_iff.1 hk).1
    refine ⟨(k : Int), plc_mem (by omega) ?_, ?_⟩
    · rw [Nat.testBit_and, Nat.testBit_two_pow_sub_one, hm]
      simpa using hkl
    · unfold dwn
      rw [Int.toNat_natCast, hk, Option.map_some, Option.getD_some, bel_bit]
      exact ⟨y, hj, hd⟩

section
variable {w : World} {pb N : Nat} {A : Option Addr} {c mb : Nat} {D : Option Addr} {cd : Nat} {Ls : List (Nat × Nat)}
set_option maxRecDepth 100000 in
set_option maxHeartbeats 8000000 in
theorem LtClose_any (h : Lat w pb N A c mb D cd Ls) (m : Nat) (hm : m < 4294967296) (hT : TabAt 0 Lib.deBruijn64tab w) :
    Calls Tryd.prog 19 #[.pointer (some ⟨pb, 0, none⟩), .int .u32 m] w fun e w' => e = .returned (.int .u32 ((cl Ls m : Nat) : Int)) ∧ Ch No w w' := by
  refine callsIn_wide (n := 3) |>.1 ?_
  refine callsIn_of_wp_marks Tryd.func19 rfl trivial ?_ rfl
  simp only [Tryd.ntmps19, List.size_toArray, List.length_cons, List.length_nil, Nat.reduceAdd, Nat.reduceSub, Array.replicate_succ, Array.replicate_zero, List.push_toArray, List.append_toArray, List.nil_append, List.cons_append]
  have hg : 0 < w.heap.size := World.block_lt_of_cell? _ _ (hT 0 (by decide))
  have hN := h.le
  have hp2 : 2 ^ N ≤ 2 ^ 16 := Nat.pow_le_pow_right (by omega) hN
  obtain ⟨M, hM⟩ : ∃ M, 2 ^ N - 1 = M := ⟨_, rfl⟩
  have hML : M < 65536 := by omega
  obtain ⟨nn, hnn⟩ : ∃ nn, m &&& M = nn := ⟨_, rfl⟩
  have hnl : nn < 65536 := by rw [← hnn]; exact Nat.lt_of_le_of_lt Nat.and_le_right hML
  have hand : bits .and .u32 (m : Int) (M : Int) = (nn : Int) := by rw [u32_and_nat _ _ hm (by omega), hnn]
  have HH := Lib.hid (And.intro h (And.intro hT (And.intro hM hnn)))
  have HAll := Lib.hid (fun w' (h' : Lat w' pb N A c mb D cd Ls) => by have := LtAll_any h'; rw [hM] at this; exact this)
  clear h hT hM hnn hp2
  have C2 : Ch No w ((w.alloc (.cells #[.pointer (some ⟨pb, 0, none⟩)] 28)).alloc (.cells #[.int .u32 0] 26)) := ((Ch.refl No w).alloc _).alloc _
  have b2 : Boxed ((w.alloc (.cells #[.pointer (some ⟨pb, 0, none⟩)] 28)).alloc (.cells #[.int .u32 0] 26)) w.heap.size 28 (.pointer (some ⟨pb, 0, none⟩)) := (Boxed.new w 28 (.pointer (some ⟨pb, 0, none⟩))).alloc (.cells #[.int .u32 0] 26)
  have b5 : Boxed ((w.alloc (.cells #[.pointer (some ⟨pb, 0, none⟩)] 28)).alloc (.cells #[.int .u32 0] 26)) (w.heap.size + 1) 26 (.int .u32 0) := by
    have := Boxed.new (w.alloc (.cells #[.pointer (some ⟨pb, 0, none⟩)] 28)) 26 (.int .u32 0)
    simpa using this
  have z2 : ((w.alloc (.cells #[.pointer (some ⟨pb, 0, none⟩)] 28)).alloc (.cells #[.int .u32 0] 26)).heap.size = w.heap.size + 2 := by simp
  gi_wp2
  refine ⟨trivial, ?_⟩
  refine (callsIn_wide.2 (HAll.out _ (HH.out.1.no C2))).mono ?_
  rintro e w1 ⟨rfl, h1⟩
  have X1 : Hid (Ch No w w1 ∧ Boxed w1 w.heap.size 28 (.pointer (some ⟨pb, 0, none⟩)) ∧ Boxed w1 (w.heap.size + 1) 26 (.int .u32 0) ∧ w.heap.size + 2 ≤ w1.heap.size) := Lib.hid ⟨C2.trans h1, h1.at b2 (fun h => h), h1.at b5 (fun h => h), by have := h1.size; omega⟩
  clear h1 C2 b2 b5 z2 HAll
  gi_wp2
  refine ⟨trivial, ?_⟩
  refine (callsIn_wide.2 (Bits_any _ _)).mono ?_
  rintro e w3 ⟨rfl, rfl⟩
  gi_wp2
  have X5 : Hid (Ch No w (w1.alloc (.cells #[.int .u64 nn] 61)) ∧ Boxed (w1.alloc (.cells #[.int .u64 nn] 61)) w.heap.size 28 (.pointer (some ⟨pb, 0, none⟩)) ∧ Boxed (w1.alloc (.cells #[.int .u64 nn] 61)) (w.heap.size + 1) 26 (.int .u32 0) ∧ Boxed (w1.alloc (.cells #[.int .u64 nn] 61)) w1.heap.size 61 (.int .u64 nn)) := Lib.hid ⟨X1.out.1.alloc _, X1.out.2.1.alloc _, X1.out.2.2.1.alloc _, Boxed.new w1 61 (.int .u64 nn)⟩
  have z5 : (w1.alloc (.cells #[.int .u64 nn] 61)).heap.size = w1.heap.size + 1 := by simp
  have z1 := X1.out.2.2.2
  clear X1
  generalize w1.alloc (.cells #[.int .u64 nn] 61) = w5 at *
  generalize w1.heap.size = nb at *
  have HL5 := Lib.hid (HH.out.1.no X5.out.1)
  have HT5 := Lib.hid (tab_ch HH.out.2.1 X5.out.1)
  obtain ⟨s, hs⟩ : ∃ s, w.heap.size = s := ⟨_, rfl⟩
  have hpb : pb < s := by rw [← hs]; exact HH.out.1.blk.lt
  have hDb : ∀ k x, Ls[k]? = some x → ∃ b off, D = some ⟨b, off, none⟩ ∧ b < s ∧ w5.cell? ⟨b, off + k, none⟩ = some (.int .u32 ((bel Ls x : Nat) : Int)) := fun k x hk => by
    have hkl := (List.getElem?_eq_some_iff.1 hk).1
    obtain ⟨b, off, hD, hc⟩ := HH.out.1.dwn.get k (by simpa using hkl)
    have e : Ls[k] = x := (List.getElem?_eq_some_iff.1 hk).2
    simp only [List.getElem_map, e] at hc
    exact ⟨b, off, hD, by rw [← hs]; exact World.block_lt_of_cell? _ _ hc, X5.out.1.cell hc (fun h => h)⟩
  have HDb := Lib.hid hDb
  have HC5 : Hid (Below s w w5) := Lib.hid (by rw [← hs]; exact X5.out.1.same)
  have H0 : Hid (w.heap.size = s) := Lib.hid hs
  rw [hs] at X5 z1 hg ⊢
  clear hDb hs
  refine range_R (w0 := w5) rfl (by omega) (gf := 34) (lb := #[.pointer (some ⟨nb, 0, none⟩)]) rfl trivial (enters_of Tryd.func34 (by kernel_rfl) rfl)
    (Bits_seqR 2 (by omega) nb s nn (by omega) hg w5 (by omega) X5.out.2.2.2.cell HT5.out) KpB.trans (fun W o o' ho h1 h2 => KpB.bk (w := w5) (by omega) (by omega) W _ o o' (by omega) ho h1 h2) (Below.refl _ _) (fun _ => rfl)
    (fun (pre : List Int) W => Boxed W (s + 1) 26 (.int .u32 ((orA (dwn Ls) pre : Nat) : Int)) ∧ Ch (Only (s + 1)) w5 W)
    (fun _ (_ : List Int) _ => False)
    (OwnFrom.and (Own.from (boxed_own _ _ (fun pre : List Int => Value.int .u32 ((orA (dwn Ls) pre : Nat) : Int))) _) (fun _ _ _ row hs hg hr => hs.grown hg (fun k e hk => by have := (hr k e).1; omega)))
    (fun _ _ _ _ _ hs _ _ => hs) (fun x => ownFrom_pure _ (fun _ : Unit => x ∈ plc nn))
    ⟨by simpa [orA] using X5.out.2.2.1, Ch.refl _ _⟩
    (fun x => { tmps := #[.pointer (some ⟨pb, 0, none⟩), .int .u32 m, .pointer (some ⟨s, 0, none⟩), undef, .int .u32 0, .pointer (some ⟨s + 1, 0, none⟩), .int .i64 x, .int .u32 m, .pointer (some ⟨pb, 0, none⟩), .int .u32 M, .int .u32 nn, .int .u64 nn, .func (.func 34) #[] #[.pointer (some ⟨nb, 0, none⟩)], .int .i64 x, undef, undef, undef, undef, undef, undef, undef, undef, undef, undef], defers := [] }) ?assign ?body ?done ?stop
  case assign =>
    intro l x W K hK
    gi_wp2
    exact hK
  case stop =>
    rintro D c pre W hD hpre hF hK
    exact hF.elim
  case body =>
    rintro l pre x W ⟨hv, hC⟩ hx hlen
    obtain ⟨k, rfl, hk⟩ := mem_plc hx
    have hkN : k < N := by
      rw [← HH.out.2.2.2, ← HH.out.2.2.1, Nat.testBit_and, Nat.testBit_two_pow_sub_one, Bool.and_eq_true, decide_eq_true_iff] at hk
      exact hk.2
    obtain ⟨y, hy⟩ : ∃ y, Ls[k]? = some y := ⟨_, List.getElem?_eq_getElem (by rw [HH.out.1.len]; exact hkN)⟩
    obtain ⟨b, off, hD, hbs, hdc⟩ := HDb.out k y hy
    have c2 := (show Boxed W s 28 (.pointer (some ⟨pb, 0, none⟩)) from hC.at X5.out.2.1 (fun h => by have e : s = s + 1 := h; omega)).cell
    have pbc := hC.cell HL5.out.three.2.2 (fun h => by have e : pb = s + 1 := h; omega)
    have dc := hC.cell hdc (fun h => by have e : b = s + 1 := h; omega)
    have HO := Lib.hid (orA_snoc (dwn Ls) pre (k : Int))
    have hdw : dwn Ls (k : Int) = bel Ls y := by unfold dwn; rw [Int.toNat_natCast, hy]; rfl
    rw [hdw] at HO
    have h16 : ∀ i, dwn Ls i < 2 ^ 16 := fun i => Nat.lt_of_lt_of_le (dwn_lt Ls i) (by rw [HH.out.1.len]; exact Nat.pow_le_pow_right (by omega) hN)
    have ho : orA (dwn Ls) pre < 65536 := orA_lt (dwn Ls) 16 pre (fun i _ => h16 i)
    have hd : bel Ls y < 65536 := by rw [← hdw]; exact h16 _
    have HV := Lib.hid (And.intro hv hC)
    have c5 := hv.cell
    have f5 := hv.frozen
    clear hk hx hlen hy hdc hdw h16 hv hC
    subst hD
    generalize orA (dwn Ls) pre = o at *
    generalize bel Ls y = d at *
    have hor : bits .or .u32 (o : Int) (d : Int) = ((o ||| d : Nat) : Int) := u32_or_nat _ _ (by omega) (by omega)
    have HE : Hid (KeepsFrom w5.heap.size W (W.setCell ⟨s + 1, 0, none⟩ (.int .u32 ((o ||| d : Nat) : Int))).drew ∧ KpB s nb W (W.setCell ⟨s + 1, 0, none⟩ (.int .u32 ((o ||| d : Nat) : Int))).drew ∧ Boxed (W.setCell ⟨s + 1, 0, none⟩ (.int .u32 ((o ||| d : Nat) : Int))).drew (s + 1) 26 (.int .u32 ((orA (dwn Ls) (pre ++ [(k : Int)]) : Nat) : Int)) ∧ Ch (Only (s + 1)) w5 (W.setCell ⟨s + 1, 0, none⟩ (.int .u32 ((o ||| d : Nat) : Int))).drew) := by
      have q1 : KeepsFrom w5.heap.size W (W.setCell ⟨s + 1, 0, none⟩ (.int .u32 ((o ||| d : Nat) : Int))) := (KeepsOthers.setCell _ _ _).from _
      have q2 := (Below.refl s W).setCell (p := ⟨s + 1, 0, none⟩) (Nat.le_succ s) (.int .u32 ((o ||| d : Nat) : Int))
      have q3 : (W.setCell ⟨s + 1, 0, none⟩ (.int .u32 ((o ||| d : Nat) : Int))).heap[nb]? = W.heap[nb]? := Below.heap_setCell _ _ _ _ (show nb ≠ s + 1 by omega)
      have q4 := HV.out.1.set (.int .u32 ((o ||| d : Nat) : Int))
      have q5 := (HV.out.2.setCell (p := ⟨s + 1, 0, none⟩) (fun _ => rfl) (.int .u32 ((o ||| d : Nat) : Int))).drew
      rw [HO.out]
      exact Lib.hid ⟨⟨q1.size, q1.same⟩, ⟨⟨q2.os, q2.tape, q2.output, q2.size, q2.block⟩, q3⟩, q4, q5⟩
    gi_wp2
    gi_region_with (fail)
    all_goals
      clear c2 f5 pbc c5 dc hor
      gi_wp2
      exact HE.out
  case done =>
    rintro D ys W hD rfl ⟨hv, hC⟩ hK
    have hcl := orA_cl (Ls := Ls) (by rw [HH.out.1.len]; exact hN) m
    rw [HH.out.1.len, HH.out.2.2.1, HH.out.2.2.2] at hcl
    rw [hcl] at hv
    have c5 := hv.cell
    have HF : Hid (Ch No w (W.putObj D (.deferred none))) := Lib.hid (Ch.of_below (by
      rw [H0.out]
      have h1 : Below s w W := Ch.to_below HC5.out hC (by omega) (fun i hi => by have e : i = s + 1 := hi; omega)
      exact h1.trans (belowK_b (w := w5) (by omega) W D _ _ hD hK rfl rfl)))
    gi_wp2
    refine ⟨by simp, .inl ⟨_, _, rfl, run_takeDeferred hK, ?_⟩⟩
    exact ⟨.int .u32 ((cl Ls m : Nat) : Int), by simp [results, Tryd.f19, go_sem], rfl, HF.out⟩
end
end Go.Proofs.YtpjcfelknkddfaaDoor
