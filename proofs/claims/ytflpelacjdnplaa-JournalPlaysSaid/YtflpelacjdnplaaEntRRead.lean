/- entry: the reference's Read: what it comes to. -/
import Derived.Test.YtflpelacjdnplaaEntRead
import Derived.Deep.Cut
namespace Go.Proofs.Ytflpelacjdnplaa
open Go.RowKit

/-- the reference's reader under way, in its box -/
structure RRs (wa wr : World) (gb : Nat) (A : Option Addr) (n c : Nat) (xs : List Int) : Prop where
  blk : Blk wr gb 98 [.slice A n c, .bool false]
  cls : Cls wr A (ints .u8 xs)
  le : n ≤ c
  ch : Ch No wa wr
  ge : wa.heap.size ≤ gb
theorem RRs.two {wa wr : World} {gb n c : Nat} {A : Option Addr} {xs : List Int} (h : RRs wa wr gb A n c xs) : wr.cell? ⟨gb, 0, none⟩ = some (.slice A n c) ∧ wr.cell? ⟨gb, 1, none⟩ = some (.bool false) := ⟨h.blk.cell 0, h.blk.cell 1⟩
theorem RRs.free {wa wr : World} {gb n c : Nat} {A : Option Addr} {xs : List Int} (h : RRs wa wr gb A n c xs) : wr.frozen? ⟨gb, 0, none⟩ = false ∧ wr.frozen? ⟨gb, 1, none⟩ = false := ⟨h.blk.frozen 0, h.blk.frozen 1⟩
theorem RRs.keep0 {wa wr w' : World} {gb n c : Nat} {A : Option Addr} {xs : List Int} (h : RRs wa wr gb A n c xs) (hc : Ch No wr w') (i : Nat) : w'.frozen? ⟨gb, i, none⟩ = false := (h.blk.ch hc (fun h => h)).frozen i
theorem RRs.step {wa wr w' : World} {gb n c n2 c2 : Nat} {A A2 : Option Addr} {xs ys : List Int} (h : RRs wa wr gb A n c xs) (hc : Ch No wr w') (s2 : Cls w' A2 (ints .u8 ys)) (l2 : n2 ≤ c2) :
    RRs wa ((w'.setCell ⟨gb, 0, none⟩ (.slice A2 n2 c2)).setCell ⟨gb, 1, none⟩ (.bool false)) gb A2 n2 c2 ys := by
  have hb := h.blk.ch hc (fun h => h)
  have ho : Ch (Only gb) w' ((w'.setCell ⟨gb, 0, none⟩ (.slice A2 n2 c2)).setCell ⟨gb, 1, none⟩ (.bool false)) := ((Ch.refl (Only gb) w').setCell (p := ⟨gb, 0, none⟩) (fun _ => rfl) _).setCell (p := ⟨gb, 1, none⟩) (fun _ => rfl) _
  refine ⟨by simpa using (hb.set 0 (.slice A2 n2 c2)).set 1 (.bool false), s2.keep hb (by simp) ho, l2, (h.ch.trans hc).rd0 h.ge ho, h.ge⟩

set_option maxHeartbeats 8000000 in
set_option maxRecDepth 100000 in
theorem RRead_any (w : World) (A : Option Addr) (c : Nat) (b : List Int) (h : Cls w A (ints .u8 b)) (hb : ∀ x ∈ b, isB x) (hbc : b.length ≤ c) :
    Calls Try.prog 32 #[.slice A b.length c] w fun e w' => e = .returned (.tuple #[(readE b).1.val, .int .i64 (readE b).2]) ∧ Ch No w w' := by
  have hcase : b.length < 20 ∨ 20 < b.length ∨ b.length = 20 := by omega
  rcases hcase with hlt | hlt | hl
  · have HR : Hid (readE b = (.zero, 20)) := Lib.hid (by unfold readE; rw [if_pos hlt])
    obtain ⟨n, hn⟩ : ∃ n, b.length = n := ⟨_, rfl⟩
    rw [hn] at hlt ⊢
    clear hn h hbc
    rw [HR.out]
    go_enter Try.func32, Try.ntmps32
    go_wp2_with fail
    exact bodyPost_ret (v := .tuple #[Ent.zero.val, .int .i64 20]) (by simp [results, Try.results32, go_sem, Ent.val, Ent.zero]) rfl ⟨rfl, by ((repeat' (refine And.intro ?_ ?_)) <;> (first | assumption | (simp [*]; done) | ((repeat (first | assumption | exact Ch.refl _ _ | apply Ch.drew | apply Ch.alloc | (refine Ch.trans ?_ (by assumption)))); done) | ((repeat (first | assumption | (simp [*]; done) | apply cell_al | (refine Ch.cell (by assumption) ?_ (fun h => h)))); done)))⟩
  · have HR : Hid (readE b = (.zero, 22)) := Lib.hid (by unfold readE; rw [if_neg (by omega), if_pos hlt])
    obtain ⟨n, hn⟩ : ∃ n, b.length = n := ⟨_, rfl⟩
    rw [hn] at hlt ⊢
    clear hn h hbc
    rw [HR.out]
    go_enter Try.func32, Try.ntmps32
    go_wp2_with fail
    exact bodyPost_ret (v := .tuple #[Ent.zero.val, .int .i64 22]) (by simp [results, Try.results32, go_sem, Ent.val, Ent.zero]) rfl ⟨rfl, by ((repeat' (refine And.intro ?_ ?_)) <;> (first | assumption | (simp [*]; done) | ((repeat (first | assumption | exact Ch.refl _ _ | apply Ch.drew | apply Ch.alloc | (refine Ch.trans ?_ (by assumption)))); done) | ((repeat (first | assumption | (simp [*]; done) | apply cell_al | (refine Ch.cell (by assumption) ?_ (fun h => h)))); done)))⟩
  · obtain ⟨_, hk3, hk4, _, _, _, _⟩ := dec_parts b hb hl
    obtain ⟨v0, hv0'⟩ : ∃ v, sgn (getN (b.take 8)) 64 = v := ⟨_, rfl⟩
    have q0 : ∀ (w1 : World) (A1 : Option Addr) (c1 : Nat), Cls w1 A1 (ints .u8 b) → 20 ≤ c1 → Calls Try.prog 49 #[.agg #[.slice A1 20 c1, .bool false], .int .i64 8] w1 fun e w' => ∃ A2 c2, e = .returned (.tuple #[.agg #[.slice A2 12 c2, .bool false], .int .i64 v0]) ∧ Cls w' A2 (ints .u8 (b.drop 8)) ∧ 12 ≤ c2 ∧ Ch No w1 w' := fun w1 A1 c1 h1 h2 => by
      have hln : (b).length = 20 := by simp [hl]
      obtain ⟨e1, e2, e3⟩ := tk_in (xs := b) (n := 8) (by omega)
      have r := RNum2_any w1 A1 c1 b false h1 (fun x hx => hb x (by first | exact hx | exact List.mem_of_mem_drop hx)) (by omega) (by omega) 8
      rw [show heldB 8 = 8 from by decide, e1, e2, e3, hln] at r
      rw [ show (b.drop 8).length = 12 from by simp [hl]] at r
      refine r.mono ?_
      rintro e w' ⟨A2, c2, rfl, s2, h3, h4⟩
      rw [← hv0']
      exact ⟨A2, c2, rfl, s2, h4, h3⟩
    obtain ⟨v1, hv1'⟩ : ∃ v, sgn (getN ((b.drop 8).take 1)) 8 = v := ⟨_, rfl⟩
    have q1 : ∀ (w1 : World) (A1 : Option Addr) (c1 : Nat), Cls w1 A1 (ints .u8 (b.drop 8)) → 12 ≤ c1 → Calls Try.prog 49 #[.agg #[.slice A1 12 c1, .bool false], .int .i64 1] w1 fun e w' => ∃ A2 c2, e = .returned (.tuple #[.agg #[.slice A2 11 c2, .bool false], .int .i64 v1]) ∧ Cls w' A2 (ints .u8 (b.drop 9)) ∧ 11 ≤ c2 ∧ Ch No w1 w' := fun w1 A1 c1 h1 h2 => by
      have hln : ((b.drop 8)).length = 12 := by simp [hl]
      obtain ⟨e1, e2, e3⟩ := tk_in (xs := (b.drop 8)) (n := 1) (by omega)
      have r := RNum2_any w1 A1 c1 (b.drop 8) false h1 (fun x hx => hb x (by first | exact hx | exact List.mem_of_mem_drop hx)) (by omega) (by omega) 1
      rw [show heldB 1 = 1 from by decide, e1, e2, e3, hln] at r
      rw [show (((b.drop 8)).drop 1) = b.drop 9 from by simp [List.drop_drop], show (b.drop 9).length = 11 from by simp [hl]] at r
      refine r.mono ?_
      rintro e w' ⟨A2, c2, rfl, s2, h3, h4⟩
      rw [← hv1']
      exact ⟨A2, c2, rfl, s2, h4, h3⟩
    obtain ⟨v2, hv2'⟩ : ∃ v, sgn (getN ((b.drop 9).take 1)) 8 = v := ⟨_, rfl⟩
    have q2 : ∀ (w1 : World) (A1 : Option Addr) (c1 : Nat), Cls w1 A1 (ints .u8 (b.drop 9)) → 11 ≤ c1 → Calls Try.prog 49 #[.agg #[.slice A1 11 c1, .bool false], .int .i64 1] w1 fun e w' => ∃ A2 c2, e = .returned (.tuple #[.agg #[.slice A2 10 c2, .bool false], .int .i64 v2]) ∧ Cls w' A2 (ints .u8 (b.drop 10)) ∧ 10 ≤ c2 ∧ Ch No w1 w' := fun w1 A1 c1 h1 h2 => by
      have hln : ((b.drop 9)).length = 11 := by simp [hl]
      obtain ⟨e1, e2, e3⟩ := tk_in (xs := (b.drop 9)) (n := 1) (by omega)
      have r := RNum2_any w1 A1 c1 (b.drop 9) false h1 (fun x hx => hb x (by first | exact hx | exact List.mem_of_mem_drop hx)) (by omega) (by omega) 1
      rw [show heldB 1 = 1 from by decide, e1, e2, e3, hln] at r
      rw [show (((b.drop 9)).drop 1) = b.drop 10 from by simp [List.drop_drop], show (b.drop 10).length = 10 from by simp [hl]] at r
      refine r.mono ?_
      rintro e w' ⟨A2, c2, rfl, s2, h3, h4⟩
      rw [← hv2']
      exact ⟨A2, c2, rfl, s2, h4, h3⟩
    obtain ⟨k3, hk3'⟩ : ∃ v, getN ((b.drop 10).take 1) = v := ⟨_, rfl⟩
    have q3 : ∀ (w1 : World) (A1 : Option Addr) (c1 : Nat), Cls w1 A1 (ints .u8 (b.drop 10)) → 10 ≤ c1 → Calls Try.prog 50 #[.agg #[.slice A1 10 c1, .bool false], .int .i64 1] w1 fun e w' => ∃ A2 c2, e = .returned (.tuple #[.agg #[.slice A2 9 c2, .bool false], .int .u64 (k3 : Nat)]) ∧ Cls w' A2 (ints .u8 (b.drop 11)) ∧ 9 ≤ c2 ∧ Ch No w1 w' := fun w1 A1 c1 h1 h2 => by
      have hln : ((b.drop 10)).length = 10 := by simp [hl]
      obtain ⟨e1, e2, e3⟩ := tk_in (xs := (b.drop 10)) (n := 1) (by omega)
      have r := RGet2_any w1 A1 c1 (b.drop 10) false h1 (fun x hx => hb x (by first | exact hx | exact List.mem_of_mem_drop hx)) (by omega) (by omega) 1
      rw [show heldB 1 = 1 from by decide, e1, e2, e3, hln] at r
      rw [show (((b.drop 10)).drop 1) = b.drop 11 from by simp [List.drop_drop], show (b.drop 11).length = 9 from by simp [hl]] at r
      refine r.mono ?_
      rintro e w' ⟨A2, c2, rfl, s2, h3, h4⟩
      rw [← hk3']
      exact ⟨A2, c2, rfl, s2, h4, h3⟩
    obtain ⟨k4, hk4'⟩ : ∃ v, getN ((b.drop 11).take 1) = v := ⟨_, rfl⟩
    have q4 : ∀ (w1 : World) (A1 : Option Addr) (c1 : Nat), Cls w1 A1 (ints .u8 (b.drop 11)) → 9 ≤ c1 → Calls Try.prog 50 #[.agg #[.slice A1 9 c1, .bool false], .int .i64 1] w1 fun e w' => ∃ A2 c2, e = .returned (.tuple #[.agg #[.slice A2 8 c2, .bool false], .int .u64 (k4 : Nat)]) ∧ Cls w' A2 (ints .u8 (b.drop 12)) ∧ 8 ≤ c2 ∧ Ch No w1 w' := fun w1 A1 c1 h1 h2 => by
      have hln : ((b.drop 11)).length = 9 := by simp [hl]
      obtain ⟨e1, e2, e3⟩ := tk_in (xs := (b.drop 11)) (n := 1) (by omega)
      have r := RGet2_any w1 A1 c1 (b.drop 11) false h1 (fun x hx => hb x (by first | exact hx | exact List.mem_of_mem_drop hx)) (by omega) (by omega) 1
      rw [show heldB 1 = 1 from by decide, e1, e2, e3, hln] at r
      rw [show (((b.drop 11)).drop 1) = b.drop 12 from by simp [List.drop_drop], show (b.drop 12).length = 8 from by simp [hl]] at r
      refine r.mono ?_
      rintro e w' ⟨A2, c2, rfl, s2, h3, h4⟩
      rw [← hk4']
      exact ⟨A2, c2, rfl, s2, h4, h3⟩
    obtain ⟨v5, hv5'⟩ : ∃ v, sgn (getN ((b.drop 12).take 8)) 64 = v := ⟨_, rfl⟩
    have q5 : ∀ (w1 : World) (A1 : Option Addr) (c1 : Nat), Cls w1 A1 (ints .u8 (b.drop 12)) → 8 ≤ c1 → Calls Try.prog 49 #[.agg #[.slice A1 8 c1, .bool false], .int .i64 8] w1 fun e w' => ∃ A2 c2, e = .returned (.tuple #[.agg #[.slice A2 0 c2, .bool false], .int .i64 v5]) ∧ Cls w' A2 (ints .u8 (b.drop 20)) ∧ 0 ≤ c2 ∧ Ch No w1 w' := fun w1 A1 c1 h1 h2 => by
      have hln : ((b.drop 12)).length = 8 := by simp [hl]
      obtain ⟨e1, e2, e3⟩ := tk_in (xs := (b.drop 12)) (n := 8) (by omega)
      have r := RNum2_any w1 A1 c1 (b.drop 12) false h1 (fun x hx => hb x (by first | exact hx | exact List.mem_of_mem_drop hx)) (by omega) (by omega) 8
      rw [show heldB 8 = 8 from by decide, e1, e2, e3, hln] at r
      rw [show (((b.drop 12)).drop 8) = b.drop 20 from by simp [List.drop_drop], show (b.drop 20).length = 0 from by simp [hl]] at r
      refine r.mono ?_
      rintro e w' ⟨A2, c2, rfl, s2, h3, h4⟩
      rw [← hv5']
      exact ⟨A2, c2, rfl, s2, h4, h3⟩
    have hdec : decB b = ⟨v0, v5, v1, v2, (k3 : Int), (k4 : Int)⟩ := by unfold decB; rw [hv0', hv1', hv2', hk3', hk4', hv5']
    have HR : Hid (∀ x, decB b = x → readE b = if okE x then (x, 0) else (.zero, 23)) := Lib.hid (by rintro x rfl; unfold readE; rw [if_neg (by omega), if_neg (by omega)])
    have HRR := HR.out _ hdec
    obtain ⟨x, hx⟩ : ∃ x : Ent, x = ⟨v0, v5, v1, v2, (k3 : Int), (k4 : Int)⟩ := ⟨_, rfl⟩
    have hck := fun w => Right_any x w
    have hxv : x.val = .agg #[.int .i64 v0, .int .i64 v5, .int .i64 v1, .int .i64 v2, .int .i64 k3, .int .i64 k4] := by rw [hx]; rfl
    rw [hxv] at hck
    have HXV := Lib.hid hxv
    clear hxv
    rw [hl] at hbc ⊢
    have H0 : Hid (∀ w1 : World, Ch No w w1 → Cls w1 A (ints .u8 b)) := Lib.hid (fun w1 h1 => h.ch h1 (fun _ _ h => h))
    have HQ0 := Lib.hid q0
    have HQ1 := Lib.hid q1
    have HQ2 := Lib.hid q2
    have HQ3 := Lib.hid q3
    have HQ4 := Lib.hid q4
    have HQ5 := Lib.hid q5
    clear q0 q1 q2 q3 q4 q5 hdec HR hv0' hv1' hv2' hv5' hl h
    rw [hk3'] at hk3
    rw [hk4'] at hk4
    clear hk3' hk4'
    rw [← hx] at HRR
    have HRX := Lib.hid HRR
    clear HRR
    go_enter Try.func32, Try.ntmps32
    go_wp2_with fail
    have HZ : Hid (Blk (w.alloc (.cells Ent.zero.enc.toArray 37)) w.heap.size 37 Ent.zero.enc ∧ Ch No w (w.alloc (.cells Ent.zero.enc.toArray 37))) := Lib.hid ⟨Blk.new w 37 Ent.zero.enc, (Ch.refl No w).alloc _⟩
    refine (HQ0.out (w.alloc (.cells Ent.zero.enc.toArray 37)) _ _ (H0.out _ HZ.out.2) hbc).mono ?_
    generalize w.alloc (.cells Ent.zero.enc.toArray 37) = wa at *
    obtain ⟨rb, hrb⟩ : ∃ rb, w.heap.size = rb := ⟨_, rfl⟩
    have HWB : Hid (w.heap.size ≤ rb) := Lib.hid (by omega)
    rw [hrb] at HZ ⊢
    clear hrb
    rintro e w2 ⟨A1, p1, rfl, s2, l2, h2⟩
    have HS1 : Hid (RRs wa (w2.alloc (.cells [Value.slice A1 12 p1, .bool false].toArray 98)) w2.heap.size A1 12 p1 (b.drop 8)) := Lib.hid ⟨Blk.new w2 _ [.slice A1 12 p1, .bool false], s2.ch ((Ch.refl No w2).alloc _) (fun _ _ h => h), l2, h2.alloc _, h2.size⟩
    clear h2 s2 l2
    go_upto_region 6 with fail
    generalize w2.alloc (.cells [Value.slice A1 12 p1, .bool false].toArray 98) = w3 at *
    generalize w2.heap.size = gb at *
    obtain ⟨c0, c1⟩ := HS1.out.two
    obtain ⟨f0, f1⟩ := HS1.out.free
    go_wp2_with fail
    refine (HQ1.out _ _ _ HS1.out.cls HS1.out.le).mono ?_
    rintro e w3 ⟨A2, p2, rfl, s3, l3, h3⟩
    have HS2 : Hid (RRs wa ((w3.setCell ⟨gb, 0, none⟩ (.slice A2 11 p2)).setCell ⟨gb, 1, none⟩ (.bool false)) gb A2 11 p2 (b.drop 9)) := Lib.hid (HS1.out.step h3 s3 l3)
    replace c0 := h3.cell c0 (fun h => h)
    replace c1 := h3.cell c1 (fun h => h)
    replace f0 := HS1.out.keep0 h3 0
    replace f1 := HS1.out.keep0 h3 1
    clear h3 s3 l3 HS1
    go_upto_region 7 with fail
    clear c0 c1 f0 f1
    generalize (w3.setCell ⟨gb, 0, none⟩ (.slice A2 11 p2)).setCell ⟨gb, 1, none⟩ (.bool false) = w3 at *
    obtain ⟨c0, c1⟩ := HS2.out.two
    obtain ⟨f0, f1⟩ := HS2.out.free
    go_wp2_with fail
    refine (HQ2.out _ _ _ HS2.out.cls HS2.out.le).mono ?_
    rintro e w3 ⟨A3, p3, rfl, s3, l3, h3⟩
    have HS3 : Hid (RRs wa ((w3.setCell ⟨gb, 0, none⟩ (.slice A3 10 p3)).setCell ⟨gb, 1, none⟩ (.bool false)) gb A3 10 p3 (b.drop 10)) := Lib.hid (HS2.out.step h3 s3 l3)
    replace c0 := h3.cell c0 (fun h => h)
    replace c1 := h3.cell c1 (fun h => h)
    replace f0 := HS2.out.keep0 h3 0
    replace f1 := HS2.out.keep0 h3 1
    clear h3 s3 l3 HS2
    go_upto_region 8 with fail
    clear c0 c1 f0 f1
    generalize (w3.setCell ⟨gb, 0, none⟩ (.slice A3 10 p3)).setCell ⟨gb, 1, none⟩ (.bool false) = w3 at *
    obtain ⟨c0, c1⟩ := HS3.out.two
    obtain ⟨f0, f1⟩ := HS3.out.free
    go_wp2_with fail
    refine (HQ3.out _ _ _ HS3.out.cls HS3.out.le).mono ?_
    rintro e w3 ⟨A4, p4, rfl, s3, l3, h3⟩
    have HS4 : Hid (RRs wa ((w3.setCell ⟨gb, 0, none⟩ (.slice A4 9 p4)).setCell ⟨gb, 1, none⟩ (.bool false)) gb A4 9 p4 (b.drop 11)) := Lib.hid (HS3.out.step h3 s3 l3)
    replace c0 := h3.cell c0 (fun h => h)
    replace c1 := h3.cell c1 (fun h => h)
    replace f0 := HS3.out.keep0 h3 0
    replace f1 := HS3.out.keep0 h3 1
    clear h3 s3 l3 HS3
    go_upto_region 9 with fail
    clear c0 c1 f0 f1
    generalize (w3.setCell ⟨gb, 0, none⟩ (.slice A4 9 p4)).setCell ⟨gb, 1, none⟩ (.bool false) = w3 at *
    obtain ⟨c0, c1⟩ := HS4.out.two
    obtain ⟨f0, f1⟩ := HS4.out.free
    go_wp2_with fail
    refine (HQ4.out _ _ _ HS4.out.cls HS4.out.le).mono ?_
    rintro e w3 ⟨A5, p5, rfl, s3, l3, h3⟩
    have HS5 : Hid (RRs wa ((w3.setCell ⟨gb, 0, none⟩ (.slice A5 8 p5)).setCell ⟨gb, 1, none⟩ (.bool false)) gb A5 8 p5 (b.drop 12)) := Lib.hid (HS4.out.step h3 s3 l3)
    replace c0 := h3.cell c0 (fun h => h)
    replace c1 := h3.cell c1 (fun h => h)
    replace f0 := HS4.out.keep0 h3 0
    replace f1 := HS4.out.keep0 h3 1
    clear h3 s3 l3 HS4
    go_upto_region 10 with fail
    clear c0 c1 f0 f1
    generalize (w3.setCell ⟨gb, 0, none⟩ (.slice A5 8 p5)).setCell ⟨gb, 1, none⟩ (.bool false) = w3 at *
    obtain ⟨c0, c1⟩ := HS5.out.two
    go_wp2_with fail
    refine (HQ5.out _ _ _ HS5.out.cls HS5.out.le).mono ?_
    rintro e w9 ⟨A6, p6, rfl, s6, l6, h6⟩
    have hzz : Blk ((w9.alloc (.cells [Value.slice A6 0 p6, .bool false].toArray 98)).alloc (.cells [Value.int .i64 v0, .int .i64 v5, .int .i64 v1, .int .i64 v2, .int .i64 k3, .int .i64 k4].toArray 37)) rb 37 [.int .i64 0, .int .i64 0, .int .i64 0, .int .i64 0, .int .i64 0, .int .i64 0] := ((HZ.out.1.ch (HS5.out.ch.trans h6) (fun h => h)).alloc _).alloc _
    have hbx : Blk ((w9.alloc (.cells [Value.slice A6 0 p6, .bool false].toArray 98)).alloc (.cells [Value.int .i64 v0, .int .i64 v5, .int .i64 v1, .int .i64 v2, .int .i64 k3, .int .i64 k4].toArray 37)) (w9.heap.size + 1) 37 [.int .i64 v0, .int .i64 v5, .int .i64 v1, .int .i64 v2, .int .i64 k3, .int .i64 k4] := by
      have := Blk.new (w9.alloc (.cells [Value.slice A6 0 p6, .bool false].toArray 98)) 37 [.int .i64 v0, .int .i64 v5, .int .i64 v1, .int .i64 v2, .int .i64 k3, .int .i64 k4]
      simpa using this
    have hCC : Ch No w ((w9.alloc (.cells [Value.slice A6 0 p6, .bool false].toArray 98)).alloc (.cells [Value.int .i64 v0, .int .i64 v5, .int .i64 v1, .int .i64 v2, .int .i64 k3, .int .i64 k4].toArray 37)) := ((HZ.out.2.trans (HS5.out.ch.trans h6)).alloc _).alloc _
    have hwb : w.heap.size ≤ rb := HWB.out
    clear HS5 HZ HWB s6 l6 h6 c0 c1
    go_wp2_with fail
    generalize (w9.alloc (.cells [Value.slice A6 0 p6, .bool false].toArray 98)).alloc (.cells [Value.int .i64 v0, .int .i64 v5, .int .i64 v1, .int .i64 v2, .int .i64 k3, .int .i64 k4].toArray 37) = w10 at *
    generalize w9.heap.size + 1 = xb at *
    refine (hck _).mono ?_
    rintro e w11 ⟨rfl, h11⟩
    replace hbx := hbx.ch h11 (fun h => h)
    replace hzz := hzz.ch h11 (fun h => h)
    replace hCC := hCC.trans h11
    clear h11 hck
    have HCC := Lib.hid hCC
    have HN := Lib.hid hwb
    clear hCC hwb hx
    cases ho : okE x with
    | true =>
      have hrd := HRX.out
      rw [ho, if_pos rfl] at hrd
      have HRD := Lib.hid hrd
      clear hrd ho HRX
      obtain ⟨a0, a1, a2, a3, a4, a5⟩ : EBox w11 xb ⟨v0, v5, v1, v2, k3, k4⟩ := hbx.ebox
      obtain ⟨z0, z1, z2, z3, z4, z5⟩ : EBox w11 rb ⟨0, 0, 0, 0, 0, 0⟩ := hzz.ebox
      have f0 := hzz.frozen 0
      have f1 := hzz.frozen 1
      have f2 := hzz.frozen 2
      have f3 := hzz.frozen 3
      have f4 := hzz.frozen 4
      have f5 := hzz.frozen 5
      simp only at a0 a1 a2 a3 a4 a5 z0 z1 z2 z3 z4 z5
      have hst : Ch No w (((((w11.setCell ⟨rb, 0, none⟩ (.int .i64 v0)).setCell ⟨rb, 1, none⟩ (.int .i64 v5)).setCell ⟨rb, 2, none⟩ (.int .i64 v1)).setCell ⟨rb, 3, none⟩ (.int .i64 v2)).setCell ⟨rb, 4, none⟩ (.int .i64 k3) |>.setCell ⟨rb, 5, none⟩ (.int .i64 k4)) := by
        have hn := HN.out
        refine Ch.setCell (Ch.setCell (Ch.setCell (Ch.setCell (Ch.setCell (Ch.setCell HCC.out ?_ _) ?_ _) ?_ _) ?_ _) ?_ _) ?_ _ <;> (intro h; simp at h; omega)
      have HST := Lib.hid hst
      clear hst hbx hzz
      go_wp2_with fail
      exact bodyPost_ret (v := .tuple #[.agg #[.int .i64 v0, .int .i64 v5, .int .i64 v1, .int .i64 v2, .int .i64 k3, .int .i64 k4], .int .i64 0]) (by simp [results, Try.results32, go_sem, *]) rfl ⟨by rw [HRD.out, ← HXV.out], HST.out⟩
    | false =>
      have hrd := HRX.out
      rw [ho, if_neg (by simp)] at hrd
      have HRD := Lib.hid hrd
      clear hrd ho HRX
      obtain ⟨z0, z1, z2, z3, z4, z5⟩ : EBox w11 rb ⟨0, 0, 0, 0, 0, 0⟩ := hzz.ebox
      have f0 := hzz.frozen 0
      have f1 := hzz.frozen 1
      have f2 := hzz.frozen 2
      have f3 := hzz.frozen 3
      have f4 := hzz.frozen 4
      have f5 := hzz.frozen 5
      simp only at z0 z1 z2 z3 z4 z5
      have hst : Ch No w (((((w11.setCell ⟨rb, 0, none⟩ (.int .i64 0)).setCell ⟨rb, 1, none⟩ (.int .i64 0)).setCell ⟨rb, 2, none⟩ (.int .i64 0)).setCell ⟨rb, 3, none⟩ (.int .i64 0)).setCell ⟨rb, 4, none⟩ (.int .i64 0) |>.setCell ⟨rb, 5, none⟩ (.int .i64 0)) := by
        have hn := HN.out
        refine Ch.setCell (Ch.setCell (Ch.setCell (Ch.setCell (Ch.setCell (Ch.setCell HCC.out ?_ _) ?_ _) ?_ _) ?_ _) ?_ _) ?_ _ <;> (intro h; simp at h; omega)
      have HST := Lib.hid hst
      clear hst hbx hzz
      go_wp2_with fail
      exact bodyPost_ret (v := .tuple #[Ent.zero.val, .int .i64 23]) (by simp [results, Try.results32, go_sem, Ent.val, Ent.zero, *]) rfl ⟨by rw [HRD.out], HST.out⟩
end Go.Proofs.Ytflpelacjdnplaa
