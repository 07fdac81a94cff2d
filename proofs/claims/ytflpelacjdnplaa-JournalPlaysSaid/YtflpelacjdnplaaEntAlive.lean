/- The example of entry's chapter holds. -/
import Derived.Test.YtflpelacjdnplaaEntRBat
namespace Go.Proofs.Ytflpelacjdnplaa
open Go.RowKit

/-- Write, its slice's block told -/
theorem EWrite_own (x : Ent) (w : World) (ho : okE x = true) : Calls Try.prog 29 #[x.val] w fun e w' => ∃ g c, e = .returned (.tuple #[.slice (some ⟨g, 0, none⟩) 20 c, .int .i64 0]) ∧ OwnS w' w.heap.size 5 (.slice (some ⟨g, 0, none⟩) 20 c) (ints .u8 (encB x)) ∧ Cls w' (some ⟨g, 0, none⟩) (ints .u8 (encB x)) ∧ 20 ≤ c ∧ Ch No w w' := by
  refine (EWrite_ok x w ho).mono ?_
  rintro e w' ⟨A, c, rfl, o, h⟩
  have hs := o.slice
  rcases o.2 with ⟨h1, _⟩ | ⟨g, cap, cur, h1, _⟩
  · simp at h1
  · obtain ⟨rfl, _, rfl⟩ := Value.slice.inj h1
    obtain ⟨A', c', e', s', l'⟩ := hs
    obtain ⟨rfl, _, rfl⟩ := Value.slice.inj e'
    exact ⟨g, c, rfl, o, s', by simpa [encB_length] using l', h⟩

def exX : Ent := ⟨1, -2, -1, 3, 255, 4⟩
theorem ex_bat : bat (encB exX ++ encB exX) = [exX, exX] := by
  have r : readE (encB exX) = (exX, 0) := by decide +kernel
  have hl := encB_length exX
  rw [bat_cons (by simp [hl]) (by rw [List.take_left' hl, r]), List.take_left' hl, r, List.drop_left' hl]
  have e2 : bat (encB exX) = exX :: bat [] := by
    rw [bat_cons (by omega) (by rw [List.take_of_length_le (by omega), r]), List.take_of_length_le (by omega), r, List.drop_eq_nil_of_le (by omega)]
  rw [e2, bat_nil (by simp)]

set_option maxHeartbeats 8000000 in
set_option maxRecDepth 100000 in
theorem entAlive_any (w : World) : Calls Try.prog 28 #[] w fun e w' => e = .returned (.bool true) ∧ Ch No w w' := by
  have ho : okE exX = true := by decide
  have hr : readE (encB exX) = (exX, 0) := by decide +kernel
  have hl := encB_length exX
  have hib := encB_isB exX
  have hbat := ex_bat
  have qW := fun w => EWrite_own exX w ho
  have qR := fun (w' : World) A c h => ERead_any w' A c (encB exX) h hib
  have qR1 := fun (w' : World) A c h => ERead_any w' A c ((encB exX).drop 1) h (fun y hy => hib y (List.mem_of_mem_drop hy))
  have qR2 := fun (w' : World) A c h => ERead_any w' A c ([0] ++ encB exX) h (fun y hy => by
    rcases List.mem_append.1 hy with hy | hy
    · simp at hy; subst hy; unfold isB; omega
    · exact hib y hy)
  have hr1 : readE ((encB exX).drop 1) = (.zero, 20) := by unfold readE; rw [if_pos (by simp [hl])]
  have hr2 : readE ([0] ++ encB exX) = (.zero, 22) := by unfold readE; rw [if_neg (by simp [hl]), if_pos (by simp [hl])]
  have hl1 : ((encB exX).drop 1).length = 19 := by simp [hl]
  have hl2 : ([0] ++ encB exX).length = 21 := by simp [hl]
  rw [hr] at qR
  rw [hr1] at qR1
  rw [hr2] at qR2
  rw [hl] at qR
  rw [hl1] at qR1
  rw [hl2] at qR2
  have qB := fun (w' : World) A c h (hc : 40 ≤ c) => batch_any w' A c (encB exX ++ encB exX) h (fun y hy => by rcases List.mem_append.1 hy with hy | hy <;> exact hib y hy) (by simp [hl]) (by simpa [hl] using hc) [exX, exX] hbat.symm 9
  rw [show (encB exX ++ encB exX).length = 40 from by simp [hl]] at qB
  have qC : ∀ w', Calls Try.prog 36 #[(⟨0, 0, 16, 0, 0, 0⟩ : Ent).val] w' fun e w'' => e = .returned (.int .i64 23) ∧ Ch No w' w'' := fun w' => Check_any ⟨0, 0, 16, 0, 0, 0⟩ w'
  have qL : ∀ w', Calls Try.prog 37 #[Ent.zero.val, exX.val] w' fun e w'' => e = .returned (.bool true) ∧ Ch No w' w'' := fun w' => Less_any Ent.zero exX w'
  obtain ⟨bs, hbs⟩ : ∃ bs, encB exX = bs := ⟨_, rfl⟩
  rw [hbs] at qW qR qR1 qR2 qB hl
  simp only [exX, Ent.val, Ent.zero] at qW qR qR1 qR2 qC qL
  have HL := Lib.hid hl
  have HQ := Lib.hid (And.intro qW (And.intro qR (And.intro qR1 (And.intro qR2 (And.intro qB (And.intro qC qL))))))
  clear qW qR qR1 qR2 qB qC qL ho hr hl hib hbat hr1 hr2 hl1 hl2 hbs
  have B1 : EBox (w.alloc (.cells exX.enc.toArray 32)) w.heap.size exX := (Blk.new w 32 exX.enc).ebox
  have C1 := (Ch.refl No w).alloc (.cells exX.enc.toArray 32)
  simp only [exX, Ent.enc] at B1 C1
  have HB1 := Lib.hid (And.intro B1 C1)
  obtain ⟨a0, a1, a2, a3, a4, a5⟩ := B1
  clear C1
  go_enter Try.func28, Try.ntmps28
  go_wp2_with fail
  refine (HQ.out.1 _).mono ?_
  rintro e w1 ⟨g, c, rfl, o1, s1, l1, h1⟩
  have HB2 := Lib.hid (And.intro (HB1.out.1.no h1) (And.intro (HB1.out.2.trans h1) (And.intro o1 s1)))
  clear o1 s1 h1 HB1 a0 a1 a2 a3 a4 a5
  go_wp2_with fail
  refine (HQ.out.2.1 _ _ _ HB2.out.2.2.2).mono ?_
  rintro e w2 ⟨rfl, h2⟩
  have h2' : Ch No w1 (w2.alloc (.cells [Value.int .i64 1, .int .i64 (-2), .int .i64 (-1), .int .i64 3, .int .i64 255, .int .i64 4].toArray 32)) := h2.alloc _
  have B4 : EBox (w2.alloc (.cells [Value.int .i64 1, .int .i64 (-2), .int .i64 (-1), .int .i64 3, .int .i64 255, .int .i64 4].toArray 32)) w2.heap.size ⟨1, -2, -1, 3, 255, 4⟩ := (Blk.new w2 32 [.int .i64 1, .int .i64 (-2), .int .i64 (-1), .int .i64 3, .int .i64 255, .int .i64 4]).ebox
  have HB3 := Lib.hid (And.intro (HB2.out.1.no h2') (And.intro (HB2.out.2.1.trans h2') (And.intro B4 (And.intro (HB2.out.2.2.2.ch h2' (fun _ _ h => h)) (HB2.out.2.2.1.ch h2' (fun _ _ h => h))))))
  clear h2 h2' B4 HB2
  have hs1 := HB3.out.2.2.2.1.dropI 1
  rw [← ints_drop] at hs1
  simp only [Option.map_some, addr_add] at hs1
  have HS1 := Lib.hid hs1
  clear hs1
  have hne : ¬ c = 1 := by omega
  go_wp2_with fail
  refine (HQ.out.2.2.1 _ _ _ HS1.out).mono ?_
  rintro e w3 ⟨rfl, h3⟩
  have h3' : Ch No (w2.alloc (.cells [Value.int .i64 1, .int .i64 (-2), .int .i64 (-1), .int .i64 3, .int .i64 255, .int .i64 4].toArray 32)) (w3.alloc (.cells [Value.int .i64 0, .int .i64 0, .int .i64 0, .int .i64 0, .int .i64 0, .int .i64 0].toArray 32)) := h3.alloc _
  have HB4 := Lib.hid (And.intro (HB3.out.1.no h3') (And.intro (HB3.out.2.1.trans h3') (And.intro (HB3.out.2.2.1.no h3') (And.intro (HB3.out.2.2.2.1.ch h3' (fun _ _ h => h)) (HB3.out.2.2.2.2.ch h3' (fun _ _ h => h))))))
  clear h3 h3' HS1 HB3
  go_upto_region 7 with fail
  generalize w3.alloc (.cells #[.int .i64 0, .int .i64 0, .int .i64 0, .int .i64 0, .int .i64 0, .int .i64 0] 32) = w4 at *
  obtain ⟨b6, hb6⟩ : ∃ b, w3.heap.size = b := ⟨_, rfl⟩
  obtain ⟨b4, hb4⟩ : ∃ b, w2.heap.size = b := ⟨_, rfl⟩
  obtain ⟨b1, hb1⟩ : ∃ b, w.heap.size = b := ⟨_, rfl⟩
  rw [hb6, hb4, hb1]
  rw [hb4, hb1] at HB4
  clear hb6 hb4 hb1
  have hA4 : Ch No w4 (w4.alloc (.cells #[.int .u8 0] 5)) := (Ch.refl No w4).alloc _
  go_wp2_with (at_builtin; refine appI rfl _ _ 58 5 rfl .u8 0 1 Try.underlying58 u8info w4.heap.size (some ⟨w4.heap.size, 0, none⟩) 1 [0] rfl (OwnS.lit w4 w4.heap.size 5 [.int .u8 0] (Nat.le_refl _) (by simp [maxLen])) (some ⟨g, 0, none⟩) c bs ?hx (HB4.out.2.2.2.1.ch hA4 (fun _ _ h => h)) ?hn ?hb ?hB ?_)
  case hx => rw [HL.out]; rfl
  case hn => rw [HL.out]; simp [maxLen]
  case hb => rw [HL.out]; simp
  case hB => simp
  simp only [HL.out, Nat.reduceAdd]
  intro A5 c5 w5 o5 h5 _
  have h5' : Ch No w4 w5 := hA4.trans' h5 (fun i hi he => by simp [Value.ownBlock] at he; omega)
  have s5 : Cls w5 A5 (ints .u8 ([0] ++ bs)) := by
    obtain ⟨A', c', e', s', _⟩ := o5.slice
    rw [(Value.slice.inj e').1]
    exact s'
  have HB5 := Lib.hid (And.intro (HB4.out.1.no h5') (And.intro (HB4.out.2.1.trans h5') (And.intro (HB4.out.2.2.1.no h5') (And.intro (HB4.out.2.2.2.1.ch h5' (fun _ _ h => h)) (And.intro (HB4.out.2.2.2.2.ch h5' (fun _ _ h => h)) s5)))))
  clear o5 h5 h5' s5 hA4 HB4
  go_wp2_with fail
  refine (HQ.out.2.2.2.1 _ _ _ HB5.out.2.2.2.2.2).mono ?_
  rintro e w6 ⟨rfl, h6⟩
  have h6' : Ch No w5 (w6.alloc (.cells [Value.int .i64 0, .int .i64 0, .int .i64 0, .int .i64 0, .int .i64 0, .int .i64 0].toArray 32)) := h6.alloc _
  have HB6 := Lib.hid (And.intro (HB5.out.1.no h6') (And.intro (HB5.out.2.1.trans h6') (And.intro (HB5.out.2.2.1.no h6') (And.intro (HB5.out.2.2.2.1.ch h6' (fun _ _ h => h)) (HB5.out.2.2.2.2.1.ch h6' (fun _ _ h => h))))))
  clear h6 h6' HB5
  go_upto_region 8 with fail
  generalize w6.alloc (.cells #[.int .i64 0, .int .i64 0, .int .i64 0, .int .i64 0, .int .i64 0, .int .i64 0] 32) = w7 at *
  generalize w6.heap.size = b8 at *
  have hA7 : Ch No w7 (w7.alloc (.cells #[] 5)) := (Ch.refl No w7).alloc _
  go_wp2_with (at_builtin; refine appI rfl (.tmp 44) (.tmp 45) 58 5 rfl .u8 0 1 Try.underlying58 u8info w7.heap.size (some ⟨w7.heap.size, 0, none⟩) 0 [] rfl (OwnS.lit w7 w7.heap.size 5 [] (Nat.le_refl _) (by simp)) (some ⟨g, 0, none⟩) c bs ?hx (HB6.out.2.2.2.1.ch hA7 (fun _ _ h => h)) ?hn ?hb ?hB ?_)
  case hx => rw [HL.out]; rfl
  case hn => rw [HL.out]; simp [maxLen]
  case hb => rw [HL.out]; simp
  case hB => simp
  simp only [HL.out]
  intro A8 c8 w8 o8 h8 hat8
  have h8' : Ch No w7 w8 := hA7.trans' h8 (fun i hi he => by simp [Value.ownBlock] at he; omega)
  have HB8 := Lib.hid (And.intro (HB6.out.1.no h8') (And.intro (HB6.out.2.1.trans h8') (And.intro (HB6.out.2.2.1.no h8') (And.intro (HB6.out.2.2.2.1.ch h8' (fun _ _ h => h)) (And.intro (HB6.out.2.2.2.2.ch h8' (fun _ _ h => h)) (And.intro o8 h8'))))))
  clear o8 h8 h8' hA7 hat8
  go_wp2_with (at_builtin; refine appI rfl (.tmp 46) (.tmp 47) 58 5 rfl .u8 0 1 Try.underlying58 u8info w7.heap.size A8 c8 bs ?hs ?ho (some ⟨g, 0, none⟩) c bs ?hx HB8.out.2.2.2.1 ?hn ?hb ?hB ?_)
  case hs => rw [HL.out]; rfl
  case ho => rw [HL.out]; exact HB8.out.2.2.2.2.2.1
  case hx => rw [HL.out]; rfl
  case hn => rw [HL.out]; simp [maxLen]
  case hb => rw [HL.out]; simp
  case hB => exact HB8.out.2.2.2.2.2.2.size
  simp only [HL.out, Nat.reduceAdd]
  intro A9 c9 w9 o9 h9 _
  have hge9 : ∀ k, (Value.slice A8 20 c8).ownBlock = some k → w7.heap.size ≤ k := fun k hk => (HB8.out.2.2.2.2.2.1.ge k hk).1
  have h79 : Ch No w7 w9 := HB8.out.2.2.2.2.2.2.trans' h9 (fun i hi he => by have := hge9 i he; omega)
  have s9 : Cls w9 A9 (ints .u8 (bs ++ bs)) ∧ 40 ≤ c9 := by
    obtain ⟨A', c', e', s', l'⟩ := o9.slice
    rw [(Value.slice.inj e').1, (Value.slice.inj e').2.2]
    exact ⟨s', by simpa [HL.out] using l'⟩
  have HB9 := Lib.hid (And.intro (HB6.out.1.no h79) (And.intro (HB6.out.2.1.trans h79) (And.intro (HB6.out.2.2.1.no h79) s9)))
  clear o9 h9 s9 hge9 h79 HB8 HB6
  go_wp2_with fail
  refine (HQ.out.2.2.2.2.1 _ _ _ HB9.out.2.2.2.1 HB9.out.2.2.2.2).mono ?_
  rintro e w10 ⟨v, rfl, o10, h10⟩
  obtain ⟨A10, c10, rfl⟩ := row_shape o10
  simp only [show ([exX, exX].take (9 : Int).toNat).length = 2 from rfl] at o10 ⊢
  obtain ⟨a0, a1, a2, a3, a4, a5⟩ := HB9.out.1.no h10
  obtain ⟨d0, d1, d2, d3, d4, d5⟩ := HB9.out.2.2.1.no h10
  simp only at a0 a1 a2 a3 a4 a5
  have HC := Lib.hid (HB9.out.2.1.trans h10)
  clear o10 h10 HB9
  go_wp2_with fail
  refine (HQ.out.2.2.2.2.2.1 _).mono ?_
  rintro e w11 ⟨rfl, h11⟩
  replace a0 := h11.cell a0 (fun h => h)
  replace a1 := h11.cell a1 (fun h => h)
  replace a2 := h11.cell a2 (fun h => h)
  replace a3 := h11.cell a3 (fun h => h)
  replace a4 := h11.cell a4 (fun h => h)
  replace a5 := h11.cell a5 (fun h => h)
  have HC1 := Lib.hid (HC.out.trans h11)
  clear h11 HC d0 d1 d2 d3 d4 d5
  go_wp2_with fail
  refine (HQ.out.2.2.2.2.2.2 _).mono ?_
  rintro e w12 ⟨rfl, h12⟩
  have HC2 := Lib.hid (HC1.out.trans h12)
  clear h12 HC1 a0 a1 a2 a3 a4 a5
  go_wp2_with fail
  go_ret
  exact ⟨rfl, HC2.out⟩
end Go.Proofs.Ytflpelacjdnplaa
