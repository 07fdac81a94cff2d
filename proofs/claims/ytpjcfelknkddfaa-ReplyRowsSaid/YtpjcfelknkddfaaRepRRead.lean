/- reply: the reference's Read: what it comes to. -/
import Derived.Test.YtpjcfelknkddfaaRepRead
import Derived.Test.YtpjcfelknkddfaaRefRead3
import Derived.Deep.Cut
namespace Go.Proofs.Ytpjcfelknkddfaa
open Go.RowKit

/-- numbers under way in the reference: the reader's box, the reply's box and its row -/
structure QL (w wr : World) (A0 : Option Addr) (n0 : Int) (n : Nat) (A2 : Option Addr) (c2 : Nat) (cur : List Int) (A : Option Addr) (c : Nat) (vs : List Int) : Prop where
  bt : Blk wr w.heap.size 32 [.int .i64 0, .slice none 0 0]
  bo : Blk wr (w.heap.size + 1) 32 [.int .i64 n0, .slice A vs.length c]
  br : Blk wr (w.heap.size + 1 + 1) 65 [.slice A2 n c2, .bool false]
  cls : Cls wr A2 (ints .u8 cur)
  bk : Bk A0 A2
  le : n ≤ c2
  ow : OwnS wr (w.heap.size + 3) 2 (.slice A vs.length c) (ints .i64 vs)
  ch : Ch No w wr
theorem QL.no {w wr w' : World} {A0 : Option Addr} {n0 : Int} {n : Nat} {A2 : Option Addr} {c2 : Nat} {cur : List Int} {A : Option Addr} {c : Nat} {vs : List Int} (h : QL w wr A0 n0 n A2 c2 cur A c vs) (hc : Ch No wr w') : QL w w' A0 n0 n A2 c2 cur A c vs :=
  ⟨h.bt.ch hc (fun h => h), h.bo.ch hc (fun h => h), h.br.ch hc (fun h => h), h.cls.ch hc (fun _ _ h => h), h.bk, h.le, h.ow.ch hc (fun _ _ h => h), h.ch.trans hc⟩
theorem QL.read {w wr w' : World} {A0 : Option Addr} {n0 : Int} {n n' : Nat} {A2 A3 : Option Addr} {c2 c3 : Nat} {cur cur' : List Int} {A : Option Addr} {c : Nat} {vs : List Int} (h : QL w wr A0 n0 n A2 c2 cur A c vs) (hA : ∀ a, A0 = some a → a.block < w.heap.size) (hc : Ch No wr w') (s3 : Cls w' A3 (ints .u8 cur')) (l3 : n' ≤ c3) (b3 : Bk A2 A3) :
    QL w ((w'.setCell ⟨w.heap.size + 1 + 1, 0, none⟩ (.slice A3 n' c3)).setCell ⟨w.heap.size + 1 + 1, 1, none⟩ (.bool false)) A0 n0 n' A3 c3 cur' A c vs := by
  have h' := h.no hc
  have ho : Ch (Only (w.heap.size + 1 + 1)) w' ((w'.setCell ⟨w.heap.size + 1 + 1, 0, none⟩ (.slice A3 n' c3)).setCell ⟨w.heap.size + 1 + 1, 1, none⟩ (.bool false)) := ((Ch.refl (Only (w.heap.size + 1 + 1)) w').setCell (p := ⟨w.heap.size + 1 + 1, 0, none⟩) (fun _ => rfl) _).setCell (p := ⟨w.heap.size + 1 + 1, 1, none⟩) (fun _ => rfl) _
  refine ⟨h'.bt.ch ho (fun e => by have e' : w.heap.size = w.heap.size + 1 + 1 := e; omega), h'.bo.ch ho (fun e => by have e' : w.heap.size + 1 = w.heap.size + 1 + 1 := e; omega), ?_, s3.ch ho (fun a ha e => ?_), h.bk.trans b3, l3, h'.ow.ch ho (fun k hk e => by have e' : k = w.heap.size + 1 + 1 := e; have := (h'.ow.ge k hk).1; omega), h'.ch.trans' ho (fun i hi e => by have e' : i = w.heap.size + 1 + 1 := e; omega)⟩
  · simpa using (h'.br.set 0 (.slice A3 n' c3)).set 1 (.bool false)
  · have e' : a.block = w.heap.size + 1 + 1 := e
    obtain ⟨a0, h0, h1⟩ := h.bk.trans b3 a ha
    have := hA a0 h0
    omega
theorem QL.app {w wr wa w5 : World} {A0 : Option Addr} {n0 x : Int} {n m : Nat} {A2 : Option Addr} {c2 : Nat} {cur : List Int} {A A5 : Option Addr} {c c5 : Nat} {vs : List Int} (h : QL w wr A0 n0 n A2 c2 cur A c vs) (hA : ∀ a, A0 = some a → a.block < w.heap.size) (hm : vs.length = m) (ha : Ch No wr wa) (o5 : OwnS w5 (w.heap.size + 3) 2 (.slice A5 (m + 1) c5) (ints .i64 (vs ++ [x]))) (h5 : Ch (fun k => (Value.slice A m c).ownBlock = some k) wa w5) :
    QL w (w5.setCell ⟨w.heap.size + 1, 1, none⟩ (.slice A5 (m + 1) c5)) A0 n0 n A2 c2 cur A5 c5 (vs ++ [x]) := by
  subst hm
  have ha' := h.no ha
  have hk : ∀ k, (Value.slice A vs.length c).ownBlock = some k → w.heap.size + 3 ≤ k := fun k hk => (h.ow.ge k hk).1
  have hbk : ∀ a, A2 = some a → a.block < w.heap.size := fun a e => by
    obtain ⟨a0, h0, h1⟩ := h.bk a e
    have := hA a0 h0
    omega
  have b5 := ha'.bo.ch h5 (fun e => by have := hk _ e; omega)
  have t5 := ha'.bt.ch h5 (fun e => by have := hk _ e; omega)
  have r5 := ha'.br.ch h5 (fun e => by have := hk _ e; omega)
  have s5 := ha'.cls.ch h5 (fun a e he => by have := hk _ he; have := hbk a e; omega)
  have c6 : Ch (Only (w.heap.size + 1)) w5 (w5.setCell ⟨w.heap.size + 1, 1, none⟩ (.slice A5 (vs.length + 1) c5)) := (Ch.refl (Only (w.heap.size + 1)) w5).setCell (p := ⟨w.heap.size + 1, 1, none⟩) (fun _ => rfl) _
  refine ⟨t5.ch c6 (fun e => by have e' : w.heap.size = w.heap.size + 1 := e; omega), ?_, r5.ch c6 (fun e => by have e' : w.heap.size + 1 + 1 = w.heap.size + 1 := e; omega), s5.ch c6 (fun a e he => by have e' : a.block = w.heap.size + 1 := he; have := hbk a e; omega), h.bk, h.le, ?_, (ha'.ch.trans' h5 (fun i hi e => by have := hk _ e; omega)).trans' c6 (fun i hi e => by have e' : i = w.heap.size + 1 := e; omega)⟩
  · simpa using b5.set 1 (.slice A5 (vs.length + 1) c5)
  · have q := o5.ch c6 (fun k hk e => by have e' : k = w.heap.size + 1 := e; have := (o5.ge k hk).1; omega)
    simpa using q

set_option maxHeartbeats 8000000 in
set_option maxRecDepth 100000 in
theorem RRepR_any (w : World) (A : Option Addr) (c : Nat) (b : List Int) (hx : Cls w A (ints .u8 b)) (hb : ∀ x ∈ b, isB x) (hbc : b.length ≤ c) (hl : b.length ≤ 1000000) :
    Calls Try.prog 11 #[.slice A b.length c] w (ReadP w b) := by
  by_cases h2 : b.length < 2
  · have HE : Hid (rErr b = 20) := Lib.hid (by unfold rErr; rw [if_pos h2])
    obtain ⟨N, hN⟩ : ∃ N, b.length = N := ⟨_, rfl⟩
    rw [hN] at h2 ⊢
    clear hx hN hbc hl
    go_enter Try.func11, Try.ntmps11
    go_wp2_with fail
    exact bodyPost_ret (v := .tuple #[.agg #[.int .i64 0, .slice none 0 0], .int .i64 20]) (by simp [results, Try.results11, go_sem]) rfl (ReadP.bad HE.out (by decide) (by ((repeat' (refine And.intro ?_ ?_)) <;> (first | assumption | (simp [*]; done) | ((repeat (first | assumption | exact Ch.refl _ _ | apply Ch.drew | apply Ch.alloc | (refine Ch.trans ?_ (by assumption)))); done) | ((repeat (first | assumption | (simp [*]; done) | apply cell_al | (refine Ch.cell (by assumption) ?_ (fun h => h)))); done)))))
  obtain ⟨n1, hn1⟩ : ∃ n : Nat, b[1]'(by omega) = n := ⟨(b[1]'(by omega)).toNat, by have := hb (b[1]'(by omega)) (List.getElem_mem _); unfold isB at this; omega⟩
  have hn256 : n1 < 256 := by have := hb (b[1]'(by omega)) (List.getElem_mem _); unfold isB at this; omega
  have hg1 : (b[1]?.getD 0 : Int) = n1 := by rw [List.getElem?_eq_getElem (by omega), Option.getD_some, hn1]
  obtain ⟨n0, hn0⟩ : ∃ n : Nat, b[0]'(by omega) = n := ⟨(b[0]'(by omega)).toNat, by have := hb (b[0]'(by omega)) (List.getElem_mem _); unfold isB at this; omega⟩
  have hn0b : n0 < 256 := by have := hb (b[0]'(by omega)) (List.getElem_mem _); unfold isB at this; omega
  have hg0 : (b[0]?.getD 0 : Int) = n0 := by rw [List.getElem?_eq_getElem (by omega), Option.getD_some, hn0]
  obtain ⟨blk, off, hA, hc1⟩ := hx.get 1 (by omega)
  obtain ⟨blk', off', hA', hc0⟩ := hx.get 0 (by omega)
  rw [hA] at hA'
  obtain ⟨rfl, rfl⟩ : blk = blk' ∧ off = off' := by simpa using hA'
  subst hA
  rw [hn1] at hc1
  rw [hn0, Nat.add_zero] at hc0
  have hblk := World.block_lt_of_cell? _ _ hc0
  simp only at hblk
  have HX := Lib.hid (And.intro hx (And.intro hb (And.intro hg1 hg0)))
  obtain ⟨N, hN⟩ : ∃ N, b.length = N := ⟨_, rfl⟩
  have HN := Lib.hid hN
  rw [hN] at h2 hbc hl ⊢
  by_cases h120 : 120 < n1
  · have HE : Hid (rErr b = 3) := Lib.hid (by unfold rErr; rw [hg1, hN, if_neg h2, if_pos (by omega)])
    clear hx hb hg0 hg1 hn0 hn1 hA' hN
    go_enter Try.func11, Try.ntmps11
    go_wp2_with fail
    exact bodyPost_ret (v := .tuple #[.agg #[.int .i64 0, .slice none 0 0], .int .i64 3]) (by simp [results, Try.results11, go_sem]) rfl (ReadP.bad HE.out (by decide) (by ((repeat' (refine And.intro ?_ ?_)) <;> (first | assumption | (simp [*]; done) | ((repeat (first | assumption | exact Ch.refl _ _ | apply Ch.drew | apply Ch.alloc | (refine Ch.trans ?_ (by assumption)))); done) | ((repeat (first | assumption | (simp [*]; done) | apply cell_al | (refine Ch.cell (by assumption) ?_ (fun h => h)))); done)))))
  by_cases h3 : N < 2 + 8 * n1
  · have HE : Hid (rErr b = 20) := Lib.hid (by unfold rErr; rw [hg1, hN, if_neg h2, if_neg (by omega), if_pos (by omega)])
    clear hx hb hg0 hg1 hn0 hn1 hA' hN
    go_enter Try.func11, Try.ntmps11
    go_wp2_with fail
    exact bodyPost_ret (v := .tuple #[.agg #[.int .i64 0, .slice none 0 0], .int .i64 20]) (by simp [results, Try.results11, go_sem]) rfl (ReadP.bad HE.out (by decide) (by ((repeat' (refine And.intro ?_ ?_)) <;> (first | assumption | (simp [*]; done) | ((repeat (first | assumption | exact Ch.refl _ _ | apply Ch.drew | apply Ch.alloc | (refine Ch.trans ?_ (by assumption)))); done) | ((repeat (first | assumption | (simp [*]; done) | apply cell_al | (refine Ch.cell (by assumption) ?_ (fun h => h)))); done)))))
  by_cases h4 : 2 + 8 * n1 < N
  · have HE : Hid (rErr b = 22) := Lib.hid (by unfold rErr; rw [hg1, hN, if_neg h2, if_neg (by omega), if_neg (by omega), if_pos (by omega)])
    clear hx hb hg0 hg1 hn0 hn1 hA' hN
    go_enter Try.func11, Try.ntmps11
    go_wp2_with fail
    exact bodyPost_ret (v := .tuple #[.agg #[.int .i64 0, .slice none 0 0], .int .i64 22]) (by simp [results, Try.results11, go_sem]) rfl (ReadP.bad HE.out (by decide) (by ((repeat' (refine And.intro ?_ ?_)) <;> (first | assumption | (simp [*]; done) | ((repeat (first | assumption | exact Ch.refl _ _ | apply Ch.drew | apply Ch.alloc | (refine Ch.trans ?_ (by assumption)))); done) | ((repeat (first | assumption | (simp [*]; done) | apply cell_al | (refine Ch.cell (by assumption) ?_ (fun h => h)))); done)))))
  have hNn : N = 2 + 8 * n1 := by omega
  subst hNn
  have HE : Hid (rErr b = 0 ∧ rCode b = n0 ∧ rNums b = nums n1 (b.drop 2)) := Lib.hid (by
    have he : rErr b = 0 := by unfold rErr; rw [hg1, hN, if_neg (by omega), if_neg (by omega), if_neg (by omega), if_neg (by omega)]
    refine ⟨he, ?_, ?_⟩
    · unfold rCode; rw [if_pos he, hg0]
    · unfold rNums; rw [if_pos he, hg1, Int.toNat_natCast])
  have hA0 : ∀ a, (some ⟨blk, off, none⟩ : Option Addr) = some a → a.block < w.heap.size := fun a ha => by
    obtain rfl : (⟨blk, off, none⟩ : Addr) = a := by simpa using ha
    exact hblk
  have HA0 := Lib.hid hA0
  clear hx hb hg0 hg1 hn0 hn1 hA' hN hA0 h2 h3 h4
  go_enter Try.func11, Try.ntmps11
  go_upto_region 12 with fail
  obtain ⟨A2, hA2⟩ : ∃ A2, (if c = 2 then some (⟨blk, off, none⟩ : Addr) else some ⟨blk, off + 2, none⟩) = A2 := ⟨_, rfl⟩
  rw [hA2]
  have HQ : Hid (QL w (((w.alloc (.cells #[.int .i64 0, .slice none 0 0] 32)).alloc (.cells #[.int .i64 n0, .slice none 0 0] 32)).alloc (.cells #[.slice A2 (8 * n1) (c - 2), .bool false] 65)) (some ⟨blk, off, none⟩) n0 (8 * n1) A2 (c - 2) (b.drop (2 + 8 * 0)) none 0 []) := by
    have hC : Ch No w (((w.alloc (.cells #[.int .i64 0, .slice none 0 0] 32)).alloc (.cells #[.int .i64 n0, .slice none 0 0] 32)).alloc (.cells #[.slice A2 (8 * n1) (c - 2), .bool false] 65)) := (((Ch.refl No w).alloc _).alloc _).alloc _
    have hcl : Cls w A2 (ints .u8 (b.drop 2)) ∧ Bk (some ⟨blk, off, none⟩) A2 := by
      rw [← hA2]
      by_cases hc2 : c = 2
      · rw [if_pos hc2, List.drop_eq_nil_of_le (by rw [HN.out]; omega)]
        exact ⟨Cls.nil _ _, Bk.refl _⟩
      · rw [if_neg hc2, ints_drop]
        refine ⟨by have := HX.out.1.dropI 2; simpa [addr_add] using this, ?_⟩
        have := Bk.add (some ⟨blk, off, none⟩) 2
        simpa [addr_add] using this
    refine Lib.hid ⟨((Blk.new w _ [.int .i64 0, .slice none 0 0]).alloc _).alloc _, ?_, ?_, hcl.1.ch hC (fun _ _ h => h), hcl.2, by omega, OwnS.nil _ _ _, hC⟩
    · have q := (Blk.new (w.alloc (.cells #[.int .i64 0, .slice none 0 0] 32)) 32 [.int .i64 n0, .slice none 0 0]).alloc (.cells #[.slice A2 (8 * n1) (c - 2), .bool false] 65)
      simpa using q
    · have q := Blk.new ((w.alloc (.cells #[.int .i64 0, .slice none 0 0] 32)).alloc (.cells #[.int .i64 n0, .slice none 0 0] 32)) 65 [.slice A2 (8 * n1) (c - 2), .bool false]
      simpa using q
  generalize (((w.alloc (.cells #[.int .i64 0, .slice none 0 0] 32)).alloc (.cells #[.int .i64 n0, .slice none 0 0] 32)).alloc (.cells #[.slice A2 (8 * n1) (c - 2), .bool false] 65)) = w3 at *
  generalize c - 2 = c2 at *
  clear hA2 hc0 hc1
  go_wp2_with fail
  generalize decide (2 + 8 * (n1 : Int) < 2) = d1 at *
  generalize decide (120 < (n1 : Int)) = d2 at *
  go_loopw [7, 8, 9] (fun i _ _ wr => ∃ (k : Nat) (A3 : Option Addr) (c3 : Nat) (A4 : Option Addr) (c4 : Nat) (vs : List Int), vs.length + k = n1 ∧ i = .int .i64 vs.length ∧ Hid (QL w wr (some ⟨blk, off, none⟩) n0 (8 * k) A3 c3 (b.drop (2 + 8 * vs.length)) A4 c4 vs ∧ vs = nums vs.length (b.drop 2))) (fun i _ _ _ => n1 - (intOf i).toNat)
  case atStart => exact ⟨n1, A2, c2, none, 0, [], by simp, rfl, Lib.hid ⟨HQ.out, rfl⟩⟩
  case round =>
    clear HQ
    obtain ⟨k, A3, c3, A4, c4, vs, hk, rfl, hst⟩ := hrel
    have hvl : vs.length ≤ 120 := by omega
    cases k with
    | zero =>
      have hn : n1 = vs.length := by omega
      have z0 := hst.out.1.bo.cell 0
      have z1 := hst.out.1.bo.cell 1
      have t0 := hst.out.1.bt.cell 0
      have t1 := hst.out.1.bt.cell 1
      have f0 := hst.out.1.bt.frozen 0
      have f1 := hst.out.1.bt.frozen 1
      simp only [List.getElem?_cons_zero, List.getElem?_cons_succ] at t0 t1 z0 z1
      have HF : Hid (ReadP w b (.returned (.tuple #[.agg #[.int .i64 n0, .slice A4 vs.length c4], .int .i64 0])) ((wr.setCell ⟨w.heap.size, 0, none⟩ (.int .i64 n0)).setCell ⟨w.heap.size, 1, none⟩ (.slice A4 vs.length c4))) := Lib.hid (by
        obtain ⟨e1, e2, e3⟩ := HE.out
        rw [hn, ← hst.out.2] at e3
        have hC : Ch (Only w.heap.size) wr ((wr.setCell ⟨w.heap.size, 0, none⟩ (.int .i64 n0)).setCell ⟨w.heap.size, 1, none⟩ (.slice A4 vs.length c4)) := ((Ch.refl (Only w.heap.size) wr).setCell (p := ⟨w.heap.size, 0, none⟩) (fun _ => rfl) _).setCell (p := ⟨w.heap.size, 1, none⟩) (fun _ => rfl) _
        have hcl2 := (hst.out.1.ow.ch hC (fun k hk e => by have e' : k = w.heap.size := e; have := (hst.out.1.ow.ge k hk).1; omega)).cls
        exact ⟨A4, c4, by rw [e1, e2, e3], by rw [e3]; exact hcl2.1, by rw [e3]; simpa using hcl2.2.1, hst.out.1.ch.trans' hC (fun i hi e => by have e' : i = w.heap.size := e; omega)⟩)
      clear hst hk
      subst hn
      go_wp2_with fail
      exact bodyPost_ret (v := .tuple #[.agg #[.int .i64 n0, .slice A4 vs.length c4], .int .i64 0]) (by simp [results, Try.results11, go_sem, *]) rfl HF.out
    | succ k =>
      have hlt : vs.length < n1 := by omega
      have z0 := hst.out.1.br.cell 0
      have z1 := hst.out.1.br.cell 1
      simp only [List.getElem?_cons_zero, List.getElem?_cons_succ] at z0 z1
      have hcl : (b.drop (2 + 8 * vs.length)).length = 8 * (k + 1) := by rw [List.length_drop, HN.out]; omega
      obtain ⟨x, hxe⟩ : ∃ x, sgn (getN ((b.drop (2 + 8 * vs.length)).take 8)) 64 = x := ⟨_, rfl⟩
      have q : Calls Try.prog 29 #[.agg #[.slice A3 (8 * (k + 1)) c3, .bool false], .int .i64 8] wr fun e w' => ∃ A5 c5, e = .returned (.tuple #[.agg #[.slice A5 (8 * k) c5, .bool false], .int .i64 x]) ∧ Cls w' A5 (ints .u8 (b.drop (2 + 8 * (vs.length + 1)))) ∧ 8 * k ≤ c5 ∧ Bk A3 A5 ∧ Ch No wr w' := by
        have r := RNum3_any wr A3 c3 (b.drop (2 + 8 * vs.length)) false hst.out.1.cls (fun x hx => HX.out.2.1 x (List.mem_of_mem_drop hx)) (by rw [hcl]; exact hst.out.1.le) (by rw [hcl]; omega) 8
        obtain ⟨e1, e2, e3⟩ := tkO_in (xs := b.drop (2 + 8 * vs.length)) (n := 8) (by omega)
        rw [show heldB 8 = 8 from by decide, e1, e2, e3, hcl, List.drop_drop, show 2 + 8 * vs.length + 8 = 2 + 8 * (vs.length + 1) from by omega] at r
        have hcl2 : (b.drop (2 + 8 * (vs.length + 1))).length = 8 * k := by rw [List.length_drop, HN.out]; omega
        rw [hcl2, show (8 * 8 : Nat) = 64 from rfl, hxe] at r
        refine r.mono ?_
        rintro e w' ⟨A5, c5, rfl, s5, h5, h6, h7⟩
        exact ⟨A5, c5, rfl, s5, h6, h7, h5⟩
      have HNX : Hid (vs ++ [x] = nums (vs.length + 1) (b.drop 2)) := Lib.hid (by rw [nums_snoc, ← hst.out.2, List.drop_drop, hxe])
      have HQ := Lib.hid q
      clear q hcl hxe
      go_wp2_with fail
      refine HQ.out.mono ?_
      rintro e w5 ⟨A5, c5, rfl, s5, l5, b5, h5⟩
      clear HQ z0 z1
      -- the next reader is laid, and stored
      have HR : Hid (QL w (((w5.alloc (.cells #[.slice A5 (8 * k) c5, .bool false] 65)).setCell ⟨w.heap.size + 1 + 1, 0, none⟩ (.slice A5 (8 * k) c5)).setCell ⟨w.heap.size + 1 + 1, 1, none⟩ (.bool false)) (some ⟨blk, off, none⟩) n0 (8 * k) A5 c5 (b.drop (2 + 8 * (vs.length + 1))) A4 c4 vs) := Lib.hid (hst.out.1.read HA0.out (h5.alloc _) (s5.ch ((Ch.refl No w5).alloc _) (fun _ _ h => h)) l5 b5)
      have hq := (hst.out.1.no h5).no ((Ch.refl No w5).alloc (.cells #[.slice A5 (8 * k) c5, .bool false] 65))
      have z0 := hq.br.cell 0
      have z1 := hq.br.cell 1
      have f0 := hq.br.frozen 0
      have f1 := hq.br.frozen 1
      have zl := hq.br.lt
      simp only [List.getElem?_cons_zero, List.getElem?_cons_succ] at z0 z1
      clear hq s5 l5 b5 h5 hst
      go_upto_region 17 with fail
      clear z0 z1 f0 f1 zl
      generalize (((w5.alloc (.cells #[.slice A5 (8 * k) c5, .bool false] 65)).setCell ⟨w.heap.size + 1 + 1, 0, none⟩ (.slice A5 (8 * k) c5)).setCell ⟨w.heap.size + 1 + 1, 1, none⟩ (.bool false)) = w6 at *
      have z1 := HR.out.bo.cell 1
      simp only [List.getElem?_cons_zero, List.getElem?_cons_succ] at z1
      go_wp2_with (at_builtin; refine app1i rfl (.tmp 55) (.tmp 57) 22 2 rfl .i64 0 8 Try.underlying22 i64info (w.heap.size + 3) A4 c4 vs x rfl HR.out.ow 1 rfl ?hn ?hb ?hB ?_)
      case hn => simp [maxLen]; omega
      case hb => omega
      case hB => exact HR.out.br.lt
      intro g7 c7 w7 o7 h7 _
      have H7 : Hid (QL w (w7.setCell ⟨w.heap.size + 1, 1, none⟩ (.slice (some ⟨g7, 0, none⟩) (vs.length + 1) c7)) (some ⟨blk, off, none⟩) n0 (8 * k) A5 c5 (b.drop (2 + 8 * (vs.length + 1))) (some ⟨g7, 0, none⟩) c7 (vs ++ [x])) := Lib.hid (HR.out.app HA0.out rfl (Ch.refl No w6) (by simpa using o7) h7)
      have hk7 : ¬ (Value.slice A4 vs.length c4).ownBlock = some (w.heap.size + 1) := fun e => by have := (HR.out.ow.ge _ e).1; omega
      have b7 := HR.out.bo.ch h7 hk7
      have z1 := b7.cell 1
      have f1 := b7.frozen 1
      simp only [List.getElem?_cons_zero, List.getElem?_cons_succ] at z1
      clear o7 h7 hk7 b7 HR
      go_wp2_with fail
      go_roundw
      case rel => exact ⟨k, A5, c5, some ⟨g7, 0, none⟩, c7, vs ++ [x], by simp; omega, by simp, Lib.hid ⟨by simpa using H7.out, by simpa using HNX.out⟩⟩
      case measure => simp [intOf]; omega
end Go.Proofs.Ytpjcfelknkddfaa
