/- entry: Read, and the reference's Read: what each comes to. -/
import Derived.Test.YtflpelacjdnplaaEntWrite
import Derived.Test.YtflpelacjdnplaaRefNum
namespace Go.Proofs.Ytflpelacjdnplaa
open Go.RowKit

/-- a reader under way: what is left of its bytes -/
def ERs (w0 wr : World) (g : Nat) (xs : List Int) : Prop := (∃ A c, Rdr wr g A c xs false) ∧ Ch No w0 wr ∧ w0.heap.size ≤ g
theorem tk_in {xs : List Int} {n : Nat} (h : n ≤ xs.length) : tkO xs false n = xs.take n ∧ tkR xs false n = xs.drop n ∧ tkB xs false n = false := by
  have hb : tkB xs false n = false := by simp [tkB]; omega
  simp [tkO, tkR, hb]
theorem ERInt {w0 wr : World} {g : Nat} {xs : List Int} (n : Nat) (h : ERs w0 wr g xs) (hb : ∀ x ∈ xs, isB x) (hh : heldB n = n) (hn : n ≤ xs.length) :
    Calls Try.prog 47 #[.pointer (some ⟨g, 0, none⟩), .int .i64 n] wr fun e w' => e = .returned (.int .i64 (sgn (getN (xs.take n)) (8 * n))) ∧ ERs w0 w' g (xs.drop n) := by
  obtain ⟨⟨A, c, h1⟩, h2, h3⟩ := h
  obtain ⟨e1, e2, e3⟩ := tk_in hn
  refine (RInt_any wr g A c xs false h1 hb n).mono ?_
  rintro e w' ⟨A2, c2, rfl, r2, _, k2⟩
  rw [hh, e2, e3] at r2
  rw [hh, e1]
  exact ⟨rfl, ⟨A2, c2, r2⟩, h2.rd0 h3 k2, h3⟩
theorem ERGet {w0 wr : World} {g : Nat} {xs : List Int} (n : Nat) (h : ERs w0 wr g xs) (hb : ∀ x ∈ xs, isB x) (hh : heldB n = n) (hn : n ≤ xs.length) :
    Calls Try.prog 48 #[.pointer (some ⟨g, 0, none⟩), .int .i64 n] wr fun e w' => e = .returned (.int .u64 (getN (xs.take n) : Nat)) ∧ ERs w0 w' g (xs.drop n) := by
  obtain ⟨⟨A, c, h1⟩, h2, h3⟩ := h
  obtain ⟨e1, e2, e3⟩ := tk_in hn
  refine (Get_any wr g A c xs false h1 hb n).mono ?_
  rintro e w' ⟨A2, c2, rfl, r2, _, k2⟩
  rw [hh, e2, e3] at r2
  rw [hh, e1]
  exact ⟨rfl, ⟨A2, c2, r2⟩, h2.rd0 h3 k2, h3⟩

/-- bytes of an entry, written out by their parts: the values that are read -/
theorem dec_parts (b : List Int) (hb : ∀ x ∈ b, isB x) (hl : b.length = 20) :
    (decB b).kind = (getN ((b.drop 10).take 1) : Nat) ∧ getN ((b.drop 10).take 1) < 256 ∧ getN ((b.drop 11).take 1) < 256 ∧ (b.drop 8).drop 1 = b.drop 9 ∧ (b.drop 9).drop 1 = b.drop 10 ∧ (b.drop 10).drop 1 = b.drop 11 ∧ (b.drop 11).drop 1 = b.drop 12 := by
  have h1 := getN_lt (xs := (b.drop 10).take 1) (fun x hx => hb x (List.mem_of_mem_drop (List.mem_of_mem_take hx)))
  have h2 := getN_lt (xs := (b.drop 11).take 1) (fun x hx => hb x (List.mem_of_mem_drop (List.mem_of_mem_take hx)))
  rw [show ((b.drop 10).take 1).length = 1 from by simp; omega] at h1
  rw [show ((b.drop 11).take 1).length = 1 from by simp; omega] at h2
  exact ⟨rfl, h1, h2, by rw [List.drop_drop], by rw [List.drop_drop], by rw [List.drop_drop], by rw [List.drop_drop]⟩

set_option maxHeartbeats 4000000 in
set_option maxRecDepth 100000 in
theorem ERead_any (w : World) (A : Option Addr) (c : Nat) (b : List Int) (h : Cls w A (ints .u8 b)) (hb : ∀ x ∈ b, isB x) :
    Calls Try.prog 31 #[.slice A b.length c] w fun e w' => e = .returned (.tuple #[(readE b).1.val, .int .i64 (readE b).2]) ∧ Ch No w w' := by
  have hcase : b.length < 20 ∨ 20 < b.length ∨ b.length = 20 := by omega
  rcases hcase with hlt | hlt | hl
  · have HR : Hid (readE b = (.zero, 20)) := Lib.hid (by unfold readE; rw [if_pos hlt])
    obtain ⟨n, hn⟩ : ∃ n, b.length = n := ⟨_, rfl⟩
    rw [hn] at hlt ⊢
    clear hn h
    rw [HR.out]
    go_enter Try.func31, Try.ntmps31
    go_wp2_with fail
    exact bodyPost_ret (v := .tuple #[Ent.zero.val, .int .i64 20]) (by simp [results, Try.results31, go_sem, Ent.val, Ent.zero]) rfl ⟨rfl, by ((repeat' (refine And.intro ?_ ?_)) <;> (first | assumption | (simp [*]; done) | ((repeat (first | assumption | exact Ch.refl _ _ | apply Ch.drew | apply Ch.alloc | (refine Ch.trans ?_ (by assumption)))); done) | ((repeat (first | assumption | (simp [*]; done) | apply cell_al | (refine Ch.cell (by assumption) ?_ (fun h => h)))); done)))⟩
  · have HR : Hid (readE b = (.zero, 22)) := Lib.hid (by unfold readE; rw [if_neg (by omega), if_pos hlt])
    obtain ⟨n, hn⟩ : ∃ n, b.length = n := ⟨_, rfl⟩
    rw [hn] at hlt ⊢
    clear hn h
    rw [HR.out]
    go_enter Try.func31, Try.ntmps31
    go_wp2_with fail
    exact bodyPost_ret (v := .tuple #[Ent.zero.val, .int .i64 22]) (by simp [results, Try.results31, go_sem, Ent.val, Ent.zero]) rfl ⟨rfl, by ((repeat' (refine And.intro ?_ ?_)) <;> (first | assumption | (simp [*]; done) | ((repeat (first | assumption | exact Ch.refl _ _ | apply Ch.drew | apply Ch.alloc | (refine Ch.trans ?_ (by assumption)))); done) | ((repeat (first | assumption | (simp [*]; done) | apply cell_al | (refine Ch.cell (by assumption) ?_ (fun h => h)))); done)))⟩
  · obtain ⟨_, hk3, hk4, _, _, _, _⟩ := dec_parts b hb hl
    obtain ⟨v0, hv0⟩ : ∃ v, sgn (getN (b.take 8)) 64 = v := ⟨_, rfl⟩
    have q0 : ∀ (wa wr : World) (g : Nat), ERs wa wr g b → Calls Try.prog 47 #[.pointer (some ⟨g, 0, none⟩), .int .i64 8] wr fun e w' => e = .returned (.int .i64 v0) ∧ ERs wa w' g (b.drop 8) := fun wa wr g h => by
      refine (ERInt 8 h (fun x hx => hb x (by first | exact hx | exact List.mem_of_mem_drop hx)) (by decide) (by simp [hl])).mono ?_
      rintro e w' ⟨rfl, h1⟩
      rw [← hv0]
      exact ⟨rfl, by simpa [List.drop_drop] using h1⟩
    obtain ⟨v1, hv1⟩ : ∃ v, sgn (getN ((b.drop 8).take 1)) 8 = v := ⟨_, rfl⟩
    have q1 : ∀ (wa wr : World) (g : Nat), ERs wa wr g (b.drop 8) → Calls Try.prog 47 #[.pointer (some ⟨g, 0, none⟩), .int .i64 1] wr fun e w' => e = .returned (.int .i64 v1) ∧ ERs wa w' g (b.drop 9) := fun wa wr g h => by
      refine (ERInt 1 h (fun x hx => hb x (by first | exact hx | exact List.mem_of_mem_drop hx)) (by decide) (by simp [hl])).mono ?_
      rintro e w' ⟨rfl, h1⟩
      rw [← hv1]
      exact ⟨rfl, by simpa [List.drop_drop] using h1⟩
    obtain ⟨v2, hv2⟩ : ∃ v, sgn (getN ((b.drop 9).take 1)) 8 = v := ⟨_, rfl⟩
    have q2 : ∀ (wa wr : World) (g : Nat), ERs wa wr g (b.drop 9) → Calls Try.prog 47 #[.pointer (some ⟨g, 0, none⟩), .int .i64 1] wr fun e w' => e = .returned (.int .i64 v2) ∧ ERs wa w' g (b.drop 10) := fun wa wr g h => by
      refine (ERInt 1 h (fun x hx => hb x (by first | exact hx | exact List.mem_of_mem_drop hx)) (by decide) (by simp [hl])).mono ?_
      rintro e w' ⟨rfl, h1⟩
      rw [← hv2]
      exact ⟨rfl, by simpa [List.drop_drop] using h1⟩
    obtain ⟨k3, hk3'⟩ : ∃ v, getN ((b.drop 10).take 1) = v := ⟨_, rfl⟩
    have q3 : ∀ (wa wr : World) (g : Nat), ERs wa wr g (b.drop 10) → Calls Try.prog 48 #[.pointer (some ⟨g, 0, none⟩), .int .i64 1] wr fun e w' => e = .returned (.int .u64 (k3 : Nat)) ∧ ERs wa w' g (b.drop 11) := fun wa wr g h => by
      refine (ERGet 1 h (fun x hx => hb x (by first | exact hx | exact List.mem_of_mem_drop hx)) (by decide) (by simp [hl])).mono ?_
      rintro e w' ⟨rfl, h1⟩
      rw [← hk3']
      exact ⟨rfl, by simpa [List.drop_drop] using h1⟩
    obtain ⟨k4, hk4'⟩ : ∃ v, getN ((b.drop 11).take 1) = v := ⟨_, rfl⟩
    have q4 : ∀ (wa wr : World) (g : Nat), ERs wa wr g (b.drop 11) → Calls Try.prog 48 #[.pointer (some ⟨g, 0, none⟩), .int .i64 1] wr fun e w' => e = .returned (.int .u64 (k4 : Nat)) ∧ ERs wa w' g (b.drop 12) := fun wa wr g h => by
      refine (ERGet 1 h (fun x hx => hb x (by first | exact hx | exact List.mem_of_mem_drop hx)) (by decide) (by simp [hl])).mono ?_
      rintro e w' ⟨rfl, h1⟩
      rw [← hk4']
      exact ⟨rfl, by simpa [List.drop_drop] using h1⟩
    obtain ⟨v5, hv5⟩ : ∃ v, sgn (getN ((b.drop 12).take 8)) 64 = v := ⟨_, rfl⟩
    have q5 : ∀ (wa wr : World) (g : Nat), ERs wa wr g (b.drop 12) → Calls Try.prog 47 #[.pointer (some ⟨g, 0, none⟩), .int .i64 8] wr fun e w' => e = .returned (.int .i64 v5) ∧ ERs wa w' g (b.drop 20) := fun wa wr g h => by
      refine (ERInt 8 h (fun x hx => hb x (by first | exact hx | exact List.mem_of_mem_drop hx)) (by decide) (by simp [hl])).mono ?_
      rintro e w' ⟨rfl, h1⟩
      rw [← hv5]
      exact ⟨rfl, by simpa [List.drop_drop] using h1⟩
    have hdec : decB b = ⟨v0, v5, v1, v2, (k3 : Int), (k4 : Int)⟩ := by unfold decB; rw [hv0, hv1, hv2, hk3', hk4', hv5]
    have HR : Hid (∀ x, decB b = x → readE b = if okE x then (x, 0) else (.zero, 23)) := Lib.hid (by rintro x rfl; unfold readE; rw [if_neg (by omega), if_neg (by omega)])
    have HRR := HR.out _ hdec
    obtain ⟨x, hx⟩ : ∃ x : Ent, x = ⟨v0, v5, v1, v2, (k3 : Int), (k4 : Int)⟩ := ⟨_, rfl⟩
    have hck := fun w => Check_any x w
    have hxv : x.val = .agg #[.int .i64 v0, .int .i64 v5, .int .i64 v1, .int .i64 v2, .int .i64 k3, .int .i64 k4] := by rw [hx]; rfl
    rw [hxv] at hck
    have HXV := Lib.hid hxv
    clear hxv
    have hop := fun w1 (h1 : Ch No w w1) => Open_any w1 A c b (h.ch h1 (fun _ _ h => h)) (by omega)
    rw [hl] at hop ⊢
    have HQ0 := Lib.hid q0
    have HQ1 := Lib.hid q1
    have HQ2 := Lib.hid q2
    have HQ3 := Lib.hid q3
    have HQ4 := Lib.hid q4
    have HQ5 := Lib.hid q5
    clear q0 q1 q2 q3 q4 q5 hdec HR hv0 hv1 hv2 hv5 hl h
    rw [hk3'] at hk3
    rw [hk4'] at hk4
    clear hk3' hk4'
    rw [← hx] at HRR
    have HRX := Lib.hid HRR
    clear HRR
    have HOP := Lib.hid hop
    clear hop
    go_enter Try.func31, Try.ntmps31
    go_wp2_with fail
    refine (HOP.out _ ((Ch.refl No w).alloc _)).mono ?_
    rintro e w1 ⟨g, A1, c1, rfl, r1, hg, _, h1⟩
    have hz := (Blk.new w 32 Ent.zero.enc)
    have HZ : Hid (Blk (w.alloc (.cells Ent.zero.enc.toArray 32)) w.heap.size 32 Ent.zero.enc ∧ Ch No w (w.alloc (.cells Ent.zero.enc.toArray 32))) := Lib.hid ⟨hz, (Ch.refl No w).alloc _⟩
    have HS0 : Hid (ERs (w.alloc (.cells Ent.zero.enc.toArray 32)) w1 g b) := Lib.hid ⟨⟨A1, c1, r1⟩, h1, hg⟩
    clear hz r1 hg h1 HOP
    generalize w.alloc (.cells Ent.zero.enc.toArray 32) = wa at *
    obtain ⟨rb, hrb⟩ : ∃ rb, w.heap.size = rb := ⟨_, rfl⟩
    have HWB : Hid (w.heap.size ≤ rb) := Lib.hid (by omega)
    rw [hrb] at HZ ⊢
    clear hrb
    go_wp2_with fail
    refine (HQ0.out _ _ _ HS0.out).mono ?_
    rintro e w3 ⟨rfl, h3⟩
    have HS1 := Lib.hid h3
    clear h3 HS0
    go_wp2_with fail
    refine (HQ1.out _ _ _ HS1.out).mono ?_
    rintro e w4 ⟨rfl, h3⟩
    have HS2 := Lib.hid h3
    clear h3 HS1
    go_wp2_with fail
    refine (HQ2.out _ _ _ HS2.out).mono ?_
    rintro e w5 ⟨rfl, h3⟩
    have HS3 := Lib.hid h3
    clear h3 HS2
    go_wp2_with fail
    refine (HQ3.out _ _ _ HS3.out).mono ?_
    rintro e w6 ⟨rfl, h3⟩
    have HS4 := Lib.hid h3
    clear h3 HS3
    go_wp2_with fail
    refine (HQ4.out _ _ _ HS4.out).mono ?_
    rintro e w7 ⟨rfl, h3⟩
    have HS5 := Lib.hid h3
    clear h3 HS4
    go_wp2_with fail
    refine (HQ5.out _ _ _ HS5.out).mono ?_
    rintro e w8 ⟨rfl, h3⟩
    have HS6 := Lib.hid h3
    clear h3 HS5
    go_wp2_with fail
    have hbx := Blk.new w8 32 [.int .i64 v0, .int .i64 v5, .int .i64 v1, .int .i64 v2, .int .i64 k3, .int .i64 k4]
    have hzz : Blk (w8.alloc (.cells [Value.int .i64 v0, .int .i64 v5, .int .i64 v1, .int .i64 v2, .int .i64 k3, .int .i64 k4].toArray 32)) rb 32 [.int .i64 0, .int .i64 0, .int .i64 0, .int .i64 0, .int .i64 0, .int .i64 0] := (HZ.out.1.ch HS6.out.2.1 (fun h => h)).alloc _
    have hCC : Ch No w (w8.alloc (.cells [Value.int .i64 v0, .int .i64 v5, .int .i64 v1, .int .i64 v2, .int .i64 k3, .int .i64 k4].toArray 32)) := (HZ.out.2.trans HS6.out.2.1).alloc _
    have hnb : rb ≠ w8.heap.size := by have := (HZ.out.1.ch HS6.out.2.1 (fun h => h)).lt; omega
    have hwb : w.heap.size ≤ rb := HWB.out
    clear HS6 HZ HWB
    generalize w8.alloc (.cells [Value.int .i64 v0, .int .i64 v5, .int .i64 v1, .int .i64 v2, .int .i64 k3, .int .i64 k4].toArray 32) = w9 at *
    generalize w8.heap.size = xb at *
    refine (hck _).mono ?_
    rintro e w10 ⟨rfl, h10⟩
    replace hbx := hbx.ch h10 (fun h => h)
    replace hzz := hzz.ch h10 (fun h => h)
    replace hCC := hCC.trans h10
    clear h10 hck
    have HCC := Lib.hid hCC
    have HN := Lib.hid hwb
    clear hCC hwb hx
    cases ho : okE x with
    | true =>
      have he : errE x = 0 := by unfold errE; rw [ho]; rfl
      have hrd := HRX.out
      rw [ho, if_pos rfl] at hrd
      have HRD := Lib.hid hrd
      rw [he]
      clear hrd ho he HRX
      obtain ⟨a0, a1, a2, a3, a4, a5⟩ : EBox w10 xb ⟨v0, v5, v1, v2, k3, k4⟩ := hbx.ebox
      obtain ⟨z0, z1, z2, z3, z4, z5⟩ : EBox w10 rb ⟨0, 0, 0, 0, 0, 0⟩ := hzz.ebox
      have f0 := hzz.frozen 0
      have f1 := hzz.frozen 1
      have f2 := hzz.frozen 2
      have f3 := hzz.frozen 3
      have f4 := hzz.frozen 4
      have f5 := hzz.frozen 5
      simp only at a0 a1 a2 a3 a4 a5 z0 z1 z2 z3 z4 z5
      have hst : Ch No w (((((w10.setCell ⟨rb, 0, none⟩ (.int .i64 v0)).setCell ⟨rb, 1, none⟩ (.int .i64 v5)).setCell ⟨rb, 2, none⟩ (.int .i64 v1)).setCell ⟨rb, 3, none⟩ (.int .i64 v2)).setCell ⟨rb, 4, none⟩ (.int .i64 k3) |>.setCell ⟨rb, 5, none⟩ (.int .i64 k4)) := by
        have hn := HN.out
        refine Ch.setCell (Ch.setCell (Ch.setCell (Ch.setCell (Ch.setCell (Ch.setCell HCC.out ?_ _) ?_ _) ?_ _) ?_ _) ?_ _) ?_ _ <;> (intro h; simp at h; omega)
      have HST := Lib.hid hst
      clear hst hbx hzz
      go_wp2_with fail
      exact bodyPost_ret (v := .tuple #[.agg #[.int .i64 v0, .int .i64 v5, .int .i64 v1, .int .i64 v2, .int .i64 k3, .int .i64 k4], .int .i64 0]) (by simp [results, Try.results31, go_sem, *]) rfl ⟨by rw [HRD.out, ← HXV.out], HST.out⟩
    | false =>
      have he : errE x = 23 := by unfold errE; rw [ho]; rfl
      have hrd := HRX.out
      rw [ho, if_neg (by simp)] at hrd
      have HRD := Lib.hid hrd
      rw [he]
      clear hrd ho he HRX
      obtain ⟨z0, z1, z2, z3, z4, z5⟩ : EBox w10 rb ⟨0, 0, 0, 0, 0, 0⟩ := hzz.ebox
      have f0 := hzz.frozen 0
      have f1 := hzz.frozen 1
      have f2 := hzz.frozen 2
      have f3 := hzz.frozen 3
      have f4 := hzz.frozen 4
      have f5 := hzz.frozen 5
      simp only at z0 z1 z2 z3 z4 z5
      have hst : Ch No w (((((w10.setCell ⟨rb, 0, none⟩ (.int .i64 0)).setCell ⟨rb, 1, none⟩ (.int .i64 0)).setCell ⟨rb, 2, none⟩ (.int .i64 0)).setCell ⟨rb, 3, none⟩ (.int .i64 0)).setCell ⟨rb, 4, none⟩ (.int .i64 0) |>.setCell ⟨rb, 5, none⟩ (.int .i64 0)) := by
        have hn := HN.out
        refine Ch.setCell (Ch.setCell (Ch.setCell (Ch.setCell (Ch.setCell (Ch.setCell HCC.out ?_ _) ?_ _) ?_ _) ?_ _) ?_ _) ?_ _ <;> (intro h; simp at h; omega)
      have HST := Lib.hid hst
      clear hst hbx hzz
      go_wp2_with fail
      exact bodyPost_ret (v := .tuple #[Ent.zero.val, .int .i64 23]) (by simp [results, Try.results31, go_sem, Ent.val, Ent.zero, *]) rfl ⟨by rw [HRD.out], HST.out⟩
end Go.Proofs.Ytflpelacjdnplaa
