/- JournalTrims: two trims are one up to the greater number: the walk. -/
import Derived.Test.YtflpelacjdnplaaJrnTwo
import Derived.Test.YtflpelacjdnplaaEntIn
import Derived.Test.YtflpelacjdnplaaEntEq
namespace Go.Proofs.Ytflpelacjdnplaa
open Go.RowKit

theorem twEntries {G : Nat → Prop} {W w : World} {ja jb na ga nb gb C : Nat} {La Lb : List Ent} (h : Tw G W w ja jb na ga nb gb C La Lb) (hl : La.length = na) (hg : ga ≤ 1000000000000) (hn : na ≤ 1000) : Calls Try.prog 22 #[.pointer (some ⟨ja, 0, none⟩), .int .i64 1000] w fun e w' => ∃ Av cv Au cu, e = .returned (.tuple #[.slice Av na cv, .slice Au na cu]) ∧ Cls w' Av (ints .i64 ((numJ ga La La.length).map Prod.fst)) ∧ Rws w' Au 6 (La.map Ent.enc) ∧ Ch No w w' := by
  obtain ⟨Aa, ca, Ab, cb, h1, r⟩ := h
  refine (entries_any w ja na ca ga C Aa La h1 hg (by omega) 1000).mono ?_
  rintro e w' ⟨v, u, rfl, h2, h3, h4⟩
  have ht : La.take (1000 : Int).toNat = La := List.take_of_length_le (by rw [hl]; exact hn)
  have ht2 : (numJ ga La La.length).take (1000 : Int).toNat = numJ ga La La.length := List.take_of_length_le (by rw [numJ_len, Nat.min_self, hl]; exact hn)
  rw [ht, ht2, hl] at h2
  rw [ht, hl] at h3
  obtain ⟨Av, cv, rfl⟩ := row_shape h2
  obtain ⟨Au, cu, rfl⟩ := row_shape h3
  have h5 : OwnS w' w.heap.size 3 (.slice Av na cv) (ints .i64 ((numJ ga La La.length).map Prod.fst)) := by
    unfold OwnS
    rw [ints_length, List.length_map, numJ_len, Nat.min_self, hl]
    exact h2
  exact ⟨Av, cv, Au, cu, rfl, h5.cls.1, rowE_rws h3 hl.symm, h4⟩
/-- the block of a row, and of an entry just laid -/
def Gr (v : Value) (b : Nat) : Nat → Prop := fun y => v.ownBlock = some y ∨ y = b
set_option maxHeartbeats 8000000 in
set_option maxRecDepth 100000 in
theorem journalTrims_core (W : World) (A : Option Addr) (c : Nat) (xs : List Ent) (m0 n0 : Int) (hx : Rws W A 6 (xs.map Ent.enc)) (hxl : xs.length ≤ 140737488351232) :
    Calls Try.prog 5 #[.slice A xs.length c, .int .i64 m0, .int .i64 n0] W fun e w' => e = .returned (.bool true) ∧ Ch No W w' := by
  have al := fun w => jrnAlive_any w
  obtain ⟨N, hN⟩ : ∃ N, xs.length = N := ⟨_, rfl⟩
  have HX := Lib.hid (And.intro hN hx)
  rw [hN] at hxl ⊢
  clear hN hx
  by_cases h60 : 60 < N
  · go_enter Try.func5, Try.ntmps5
    go_wp2_with fail
    refine (al _).mono ?_
    rintro e w1 ⟨rfl, h1⟩
    have H1 := Lib.hid h1
    clear h1 al
    go_wp2_with fail
    go_ret
    exact ⟨rfl, H1.out⟩
  have HNW := Lib.hid (fun w => JNew_ok 100 (by omega) (by omega) w)
  go_enter Try.func5, Try.ntmps5
  go_wp2_with fail
  refine (al _).mono ?_
  rintro e w1 ⟨rfl, h1⟩
  have H1 := Lib.hid h1
  clear h1 al
  go_wp2_with fail
  refine (HNW.out _).mono ?_
  rintro e w2 ⟨ja, rfl, hba, j2, h2⟩
  have J2 := Lib.hid (And.intro hba (And.intro j2 h2))
  clear hba j2 h2
  go_wp2_with fail
  refine (HNW.out _).mono ?_
  rintro e w3 ⟨jb, rfl, hbb, j3, h3⟩
  have T3 : Hid (Tw (fun y => (Value.slice (some ⟨w3.heap.size, 0, none⟩) 0 0).ownBlock = some y) W (w3.alloc (.cells #[] 32)) ja jb 0 0 0 0 100 [] [] ∧ (w3.alloc (.cells #[] 32)).ownsRow W.heap.size 32 6 (.slice (some ⟨w3.heap.size, 0, none⟩) 0 0) 0 (flatE [])) := Lib.hid (by
    have ht := twNew H1.out J2.out.1 J2.out.2.1 J2.out.2.2 hbb j3 h3
    refine ⟨ht.guests ((Ch.refl _ w3).alloc _) (fun k hk => ?_) (fun _ h => h.elim), World.ownsRow_lit (base := W.heap.size) (e := 32) (size := 6) w3 #[] 0 ht.ch.size (by simp) rfl⟩
    cases hk
    exact ⟨by simp, .inr (Nat.le_refl _)⟩)
  clear hbb j3 h3 J2 H1 HNW
  go_wp2_with fail
  go_loopw [11, 13, 14, 15, 38] (fun rt _ _ _ i wr => ∃ (pre post L : List Ent) (p k : Nat), Hid (xs = pre ++ post ∧ pre.length = p ∧ k ≤ p) ∧ i = .int .i64 p ∧ Hid (∃ Ar cr, rt = .slice Ar k cr ∧ Tw (fun y => (Value.slice Ar k cr).ownBlock = some y) W wr ja jb k 0 k 0 100 L L ∧ wr.ownsRow W.heap.size 32 6 (.slice Ar k cr) k (flatE L))) (fun _ _ _ _ i _ => N - (intOf i).toNat)
  case atStart => exact ⟨[], xs, [], 0, 0, Lib.hid ⟨rfl, rfl, by omega⟩, rfl, Lib.hid ⟨_, _, rfl, T3.out⟩⟩
  case round =>
    clear T3
    obtain ⟨pre, post, L, p, k, hxp, rfl, hst⟩ := hrel
    obtain ⟨Ar, cr, rfl, htw, hrow⟩ := hst.out
    have HT := Lib.hid (And.intro htw hrow)
    clear hst htw hrow
    have hln := congrArg List.length hxp.out.1
    rw [HX.out.1, List.length_append, hxp.out.2.1] at hln
    have hkp := hxp.out.2.2
    cases post with
    | nil =>
      simp at hln
      have hn1 : N ≤ p := by omega
      have hk60 : k ≤ 60 := by omega
      have hLk : L.length = k := by
        obtain ⟨_, _, _, _, h1, _⟩ := HT.out.1
        exact h1.nn
      obtain ⟨u1, hu1⟩ : ∃ u, trimK m0 0 k = u := ⟨_, rfl⟩
      obtain ⟨u2, hu2⟩ : ∃ u, trimK n0 u1 (k - u1) = u := ⟨_, rfl⟩
      have hmx := fun ts t w => run_max2 ts t m0 n0 w
      obtain ⟨mx, hmx0⟩ : ∃ mx, (if m0 < n0 then n0 else m0) = mx := ⟨_, rfl⟩
      rw [hmx0] at hmx
      obtain ⟨u, hu⟩ : ∃ u, u1 + u2 = u := ⟨_, rfl⟩
      have hlaw : trimK mx 0 k = u := by
        rw [← hu, ← hu2, ← hu1]
        unfold trimK
        split at hmx0 <;> omega
      have hle1 : u1 ≤ k := by rw [← hu1]; exact trimK_le _ _ _
      have hle : u ≤ k := by rw [← hlaw]; exact trimK_le _ _ _
      have h0 : trimK 0 u (k - u) = 0 := by unfold trimK; omega
      have hmu : ∀ j : Nat, j < k - u → ¬ (u : Int) + 1 + j ≤ m0 ∧ ¬ (u : Int) + 1 + j ≤ n0 := by
        intro j hj
        rw [← hlaw] at hj ⊢
        unfold trimK at hj ⊢
        split at hmx0 <;> omega
      have HA1 := Lib.hid (by have := twTrim HT.out.1 m0 (by omega) (by omega); rw [hu1] at this; exact this)
      have HA2 := Lib.hid (fun w' (h : Tw (fun y => (Value.slice Ar k cr).ownBlock = some y) W w' ja jb (k - u1) (0 + u1) k 0 100 (L.drop u1) L) => by
        have := twTrim h n0 (by omega) (by omega)
        rw [Nat.zero_add, hu2, List.drop_drop, hu, Nat.sub_sub, hu] at this
        exact this)
      have HB1 := Lib.hid (fun w' (h : Tw (fun y => (Value.slice Ar k cr).ownBlock = some y) W w' ja jb (k - u) u k 0 100 (L.drop u) L) => by
        have := twTrim h.swap mx (by omega) (by omega)
        rw [hlaw, Nat.zero_add] at this
        exact this)
      obtain ⟨d, hd⟩ : ∃ d, k - u = d := ⟨_, rfl⟩
      rw [hd] at hmu h0 HA2 HB1
      have e0 : (u1 : Int) + (u2 : Int) = (u : Int) := by omega
      have e1 : (k : Int) - (u : Int) = (d : Int) := by omega
      have hdk : d ≤ 60 := by omega
      have huk : u ≤ 60 := by omega
      have hu1k : u1 ≤ 60 := by omega
      have hu2k : u2 ≤ 60 := by omega
      have HQ := Lib.hid (fun w' (h : Tw (fun y => (Value.slice Ar k cr).ownBlock = some y) W w' ja jb d u d u 100 (L.drop u) (L.drop u)) => And.intro (twLen h) (And.intro (twLen h.swap) (And.intro (twFirst h (by omega) ((u : Int) + 1) rfl) (And.intro (twFirst h.swap (by omega) ((u : Int) + 1) rfl) (twNext h (by omega) (by omega) ((k : Int) + 1) (by omega))))))
      have HT0 := Lib.hid (fun w' (h : Tw (fun y => (Value.slice Ar k cr).ownBlock = some y) W w' ja jb d u d u 100 (L.drop u) (L.drop u)) => by
        have := twTrim h 0 (by omega) (by omega)
        rw [h0, Nat.sub_zero, Nat.add_zero, List.drop_zero] at this
        exact this)
      have HU := Lib.hid (And.intro hmu (And.intro hLk hd))
      clear hmu h0 hlaw hmx0 hu1 hu2 hln hLk hd hu hle1 hle
      go_wp2_with fail
      refine HA1.out.mono ?_
      rintro e w4 ⟨rfl, t4, h4⟩
      have H4 := Lib.hid (And.intro t4 (rowN_ch HT.out.2 h4 (fun y hy hn => hn hy)))
      clear t4 h4 HA1 HT
      go_wp2_with fail
      refine (HA2.out _ H4.out.1).mono ?_
      rintro e w5 ⟨rfl, t5, h5⟩
      have H5 := Lib.hid (And.intro t5 (rowN_ch H4.out.2 h5 (fun y hy hn => hn hy)))
      clear t5 h5 HA2 H4
      go_wp2_with fail
      refine (HB1.out _ H5.out.1).mono ?_
      rintro e w6 ⟨rfl, t6, h6⟩
      have H6 := Lib.hid (And.intro t6.swap (rowN_ch H5.out.2 h6 (fun y hy hn => hn hy)))
      clear t6 h6 HB1 H5 hmx
      go_wp2_with fail
      refine ((HQ.out _ H6.out.1).1).mono ?_
      rintro e w7 ⟨rfl, t7, h7⟩
      have H7 := Lib.hid (And.intro t7 (rowN_ch H6.out.2 h7 (fun _ _ h => h)))
      clear t7 h7 H6
      go_wp2_with fail
      refine ((HQ.out _ H7.out.1).2.1).mono ?_
      rintro e w8 ⟨rfl, t8, h8⟩
      have H8 := Lib.hid (And.intro t8.swap (rowN_ch H7.out.2 h8 (fun _ _ h => h)))
      clear t8 h8 H7
      go_wp2_with fail
      refine ((HQ.out _ H8.out.1).2.2.1).mono ?_
      rintro e w9 ⟨rfl, t9, h9⟩
      have H9 := Lib.hid (And.intro t9 (rowN_ch H8.out.2 h9 (fun _ _ h => h)))
      clear t9 h9 H8
      go_wp2_with fail
      refine ((HQ.out _ H9.out.1).2.2.2.1).mono ?_
      rintro e w10 ⟨rfl, t10, h10⟩
      have H10 := Lib.hid (And.intro t10.swap (rowN_ch H9.out.2 h10 (fun _ _ h => h)))
      clear t10 h10 H9
      go_wp2_with fail
      refine ((HQ.out _ H10.out.1).2.2.2.2).mono ?_
      rintro e w11 ⟨rfl, t11, h11⟩
      have H11 := Lib.hid (And.intro t11 (rowN_ch H10.out.2 h11 (fun _ _ h => h)))
      clear t11 h11 H10
      go_wp2_with fail
      refine ((HQ.out _ H11.out.1).1).mono ?_
      rintro e w12 ⟨rfl, t12, h12⟩
      have H12 := Lib.hid (And.intro t12 (rowN_ch H11.out.2 h12 (fun _ _ h => h)))
      clear t12 h12 H11
      go_wp2_with fail
      refine (HT0.out _ H12.out.1).mono ?_
      rintro e w13 ⟨rfl, t13, h13⟩
      have H13 := Lib.hid (And.intro t13 (rowN_ch H12.out.2 h13 (fun y hy hn => hn hy)))
      clear t13 h13 HT0 H12
      obtain ⟨Ld, hLd⟩ : ∃ Ld, L.drop u = Ld := ⟨_, rfl⟩
      have hLdl : Ld.length = d := by rw [← hLd, List.length_drop, HU.out.2.1]; exact HU.out.2.2
      rw [hLd] at H13 HQ
      have HE := Lib.hid (fun w' (h : Tw (fun y => (Value.slice Ar k cr).ownBlock = some y) W w' ja jb d u d u 100 Ld Ld) => twEntries h hLdl (by omega) (by omega))
      have HLD := Lib.hid (And.intro hLd hLdl)
      clear hLd hLdl
      go_wp2_with fail
      refine (HE.out _ H13.out.1).mono ?_
      rintro e w14 ⟨Av, cv, Au, cu, rfl, hat, hall, h14⟩
      have H14 := Lib.hid (And.intro (H13.out.1.no h14) (And.intro (rowN_ch H13.out.2 h14 (fun _ _ h => h)) (And.intro hat hall)))
      clear h14 hat hall HE H13
      go_wp2_with fail
      generalize decide (p < N) = bd at *
      go_loopw [20, 21, 116] (fun _ _ i wr2 => ∃ (pr po : List Ent) (j : Nat), Hid (Ld = pr ++ po ∧ pr.length = j) ∧ i = .int .i64 j ∧ Hid (Ch No w14 wr2)) (fun _ _ i _ => d - (intOf i).toNat)
      case atStart => exact ⟨[], Ld, 0, Lib.hid ⟨rfl, rfl⟩, rfl, Lib.hid (Ch.refl _ _)⟩
      case round =>
        obtain ⟨pr, po, j, hsp, rfl, hw⟩ := hrel
        have hln2 := congrArg List.length hsp.out.1
        rw [HLD.out.2, List.length_append, hsp.out.2] at hln2
        cases po with
        | nil =>
          simp at hln2
          have hdj : d ≤ j := by omega
          have HL := Lib.hid ((HQ.out _ (H14.out.1.no hw.out)).1)
          clear hln2
          go_wp2_with fail
          refine HL.out.mono ?_
          rintro e w15 ⟨rfl, t15, _⟩
          have HF := Lib.hid t15.ch
          clear t15 HL
          go_wp2_with fail
          go_ret
          exact ⟨rfl, HF.out⟩
        | cons x po =>
          rw [List.length_cons] at hln2
          have hjd : j < d := by omega
          clear hln2
          have hkd := HU.out.2.2
          obtain ⟨g1, o1, rfl, k0, k1, k2, k3, k4, k5⟩ := (H14.out.2.2.2.no hw.out).ent hsp.out.1
          rw [hsp.out.2] at k0 k1 k2 k3 k4 k5
          have hrr : Rws wr Ar 6 (L.map Ent.enc) := (rowE_rws H14.out.2.1 HU.out.2.1.symm).no hw.out
          have hsplit : L = (L.take u ++ pr) ++ x :: po := by rw [List.append_assoc, ← hsp.out.1, ← HLD.out.1, List.take_append_drop]
          have hpl : (L.take u ++ pr).length = u + j := by rw [List.length_append, List.length_take, HU.out.2.1, hsp.out.2, Nat.min_eq_left (by omega)]
          obtain ⟨b, hb⟩ : ∃ b, u + j = b := ⟨_, rfl⟩
          obtain ⟨g2, o2, hA2, r0, r1, r2, r3, r4, r5⟩ := hrr.ent hsplit
          rw [hpl, hb] at r0 r1 r2 r3 r4 r5
          obtain ⟨g3, o3, hA3, kv⟩ := (H14.out.2.2.1.ch hw.out (fun _ _ h => h)).get j (by rw [List.length_map, numJ_len, Nat.min_self, HLD.out.2]; exact hjd)
          have hval : ((numJ u Ld Ld.length).map Prod.fst)[j]'(by rw [List.length_map, numJ_len, Nat.min_self, HLD.out.2]; exact hjd) = (u : Int) + 1 + j := by simp [numJ]
          rw [hval] at kv
          obtain ⟨z, hz⟩ : ∃ z : Int, (u : Int) + 1 + j = z := ⟨_, rfl⟩
          rw [hz] at kv
          have hno := HU.out.1 j hjd
          rw [hz] at hno
          have d1 : decide (z ≤ m0) = false := decide_eq_false (by have := hno.1; omega)
          have d2 : decide (z ≤ n0) = false := decide_eq_false (by have := hno.2; omega)
          have e5 : z - 1 = (b : Int) := by omega
          have e6 : IntKind.i64.wrap (z - 1) = (b : Int) := by rw [e5]; exact IntWalk.i64_in _ (by omega)
          have hbk : b < k := by omega
          have hbk2 : (b : Int) < (k : Int) := by omega
          have hea := eqE_run x x
          simp only [decide_true] at hea
          have HZ := Lib.hid (Blk.new wr 32 x.enc).ebox
          have HC : Hid (Ch No wr (wr.alloc (.cells x.enc.toArray 32))) := Lib.hid ((Ch.refl No wr).alloc _)
          simp only [Ent.enc] at HZ HC
          clear hkd hrr hsplit hpl hb hval hz hno
          subst hA2
          subst hA3
          go_wp2_with fail
          clear k0 k1 k2 k3 k4 k5
          replace r0 := in_cell (HC.out.cell r0 (fun h => h))
          replace r1 := in_cell (HC.out.cell r1 (fun h => h))
          replace r2 := in_cell (HC.out.cell r2 (fun h => h))
          replace r3 := in_cell (HC.out.cell r3 (fun h => h))
          replace r4 := in_cell (HC.out.cell r4 (fun h => h))
          replace r5 := in_cell (HC.out.cell r5 (fun h => h))
          replace kv := in_cell (HC.out.cell kv (fun h => h))
          have z0 := in_cell HZ.out.1
          have z1 := in_cell HZ.out.2.1
          have z2 := in_cell HZ.out.2.2.1
          have z3 := in_cell HZ.out.2.2.2.1
          have z4 := in_cell HZ.out.2.2.2.2.1
          have z5 := in_cell HZ.out.2.2.2.2.2
          (refine wp_region_in (Ch No _) (by kernel_rfl) (by kernel_rfl) (Ch.refl _ _) (fun _ h => ch_drawn h) ?_)
          repeat (go_big_quiet_step (fail))
          (refine wpQuiet_nil ?_; intro wq0 hw'; obtain ⟨pw, hw''⟩ := hw'; subst hw'')
          have HW := Lib.hid (hw.out.trans (HC.out.trans pw.h))
          generalize pw.w = w16 at *
          clear pw r0 r1 r2 r3 r4 r5 kv z0 z1 z2 z3 z4 z5 d1 d2 e5 e6 hbk hbk2
          go_wp2_with fail
          go_roundw
          case rel => exact ⟨pr ++ [x], po, j + 1, Lib.hid ⟨by rw [hsp.out.1]; simp, by simp [hsp.out.2]⟩, by simp, HW⟩
          case measure => simp [intOf]; omega
    | cons x post =>
      rw [List.length_cons] at hln
      obtain ⟨gy, oy, rfl, k0, k1, k2, k3, k4, k5⟩ := (HX.out.2.no HT.out.1.ch).ent hxp.out.1
      rw [hxp.out.2.1] at k0 k1 k2 k3 k4 k5
      have hlt : p < N := by omega
      have hk60 : k ≤ 60 := by omega
      have HKP := Lib.hid hkp
      clear hln hkp
      have hBx : EBox (wr.alloc (.cells x.enc.toArray 32)) wr.heap.size x := (Blk.new wr 32 x.enc).ebox
      have hTx : Tw (Gr (.slice Ar k cr) wr.heap.size) W (wr.alloc (.cells x.enc.toArray 32)) ja jb k 0 k 0 100 L L := HT.out.1.guests ((Ch.refl _ wr).alloc _) (fun y hy => by
        rcases hy with h | rfl
        · exact ⟨by have := (HT.out.2.lt y h).2; simp; omega, .inl h⟩
        · exact ⟨by simp, .inr (Nat.le_refl _)⟩) (fun y hy => (HT.out.2.lt y hy).1)
      have hrx := HT.out.2.alloc (.cells x.enc.toArray 32)
      simp only [Ent.enc] at hBx hTx hrx
      have HBX := Lib.hid (And.intro hTx (And.intro hrx hBx))
      obtain ⟨bx, hbx⟩ : ∃ bx, wr.heap.size = bx := ⟨_, rfl⟩
      have hWb := HT.out.1.ch.size
      rw [hbx] at HBX hBx hWb
      clear hTx hrx HT
      have HW := Lib.hid hWb
      cases hox : okE x with
      | false =>
        have HA := Lib.hid (fun w p => JAdd_bad x hox w p)
        unfold Ent.val at HA
        clear hox
        go_wp2_with fail
        refine (HA.out _ _).mono ?_
        rintro e w4 ⟨rfl, h4⟩
        have H4 := Lib.hid (And.intro (HBX.out.1.no h4) (rowN_ch HBX.out.2.1 h4 (fun _ _ h => h)))
        have b4 := HBX.out.2.2.no h4
        clear h4 HBX hBx k0 k1 k2 k3 k4 k5
        obtain ⟨a0, a1, a2, a3, a4, a5⟩ := b4
        go_wp2_with fail
        refine (HA.out _ _).mono ?_
        rintro e w5 ⟨rfl, h5⟩
        have H5 := Lib.hid (And.intro (H4.out.1.no h5) (rowN_ch H4.out.2 h5 (fun _ _ h => h)))
        clear h5 H4 HA a0 a1 a2 a3 a4 a5 hbx
        go_wp2_with fail
        go_roundw
        case rel => exact ⟨pre ++ [x], post, L, p + 1, k, Lib.hid ⟨by rw [hxp.out.1]; simp, by simp [hxp.out.2.1], by have := HKP.out; omega⟩, by simp, Lib.hid ⟨Ar, cr, rfl, H5.out.1.guests (Ch.refl _ _) (fun y hy => ⟨(H5.out.2.lt y hy).2, .inl (.inl hy)⟩) (fun y hy => by rcases hy with h | rfl; exact (H5.out.2.lt y h).1; exact HW.out), H5.out.2⟩⟩
        case measure => simp [intOf]; omega
      | true =>
        have HA := Lib.hid (twAddG HBX.out.1 (Ch.refl _ _) x hox (by omega) (by omega) (by omega) ((k : Int) + 1) (by omega))
        have HB := Lib.hid (fun w' (h : Tw (Gr (.slice Ar k cr) bx) W w' ja jb (k + 1) 0 k 0 100 (L ++ [x]) L) => twAddG h.swap (Ch.refl _ _) x hox (by omega) (by omega) (by omega) ((k : Int) + 1) (by omega))
        unfold Ent.val at HA HB
        clear hox
        go_wp2_with fail
        refine HA.out.mono ?_
        rintro e w4 ⟨rfl, t4, h4⟩
        have H4 := Lib.hid (And.intro t4 (And.intro (rowN_ch HBX.out.2.1 h4 (fun y hy hn => hn (.inl hy))) (HBX.out.2.2.chT h4 (fun hn => hn (.inr rfl)))))
        have b4 := H4.out.2.2
        clear h4 t4 HBX HA hBx k0 k1 k2 k3 k4 k5
        obtain ⟨a0, a1, a2, a3, a4, a5⟩ := b4
        go_wp2_with fail
        refine (HB.out _ H4.out.1).mono ?_
        rintro e w5 ⟨rfl, t5, h5⟩
        have H5 := Lib.hid (And.intro t5.swap (And.intro (rowN_ch H4.out.2.1 h5 (fun y hy hn => hn (.inl hy))) (H4.out.2.2.chT h5 (fun hn => hn (.inr rfl)))))
        have b5 := H5.out.2.2
        clear h5 t5 H4 HB a0 a1 a2 a3 a4 a5 hbx
        obtain ⟨a0, a1, a2, a3, a4, a5⟩ := b5
        go_wp2_with (at_builtin; refine appR rfl (.tmp 53) (.tmp 55) 45 32 rfl Ent.zero.val 6 48 Try.underlying45 infoEn rfl (by decide) W.heap.size (.slice Ar k cr) k (flatE L) x.enc rfl H5.out.2.1 w5.heap.size 1 rfl rfl rfl (enc_one x) ?rn ?rb H5.out.1.ch.size ?_)
        case rn => simp [maxLen]; omega
        case rb => omega
        intro g6 c6 w6 o6 h6 n6
        have H6 : Hid (Tw (fun y => (Value.slice (some ⟨g6, 0, none⟩) (k + 1) c6).ownBlock = some y) W w6 ja jb (k + 1) 0 (k + 1) 0 100 (L ++ [x]) (L ++ [x]) ∧ w6.ownsRow W.heap.size 32 6 (.slice (some ⟨g6, 0, none⟩) (k + 1) c6) (k + 1) (flatE (L ++ [x]))) := Lib.hid ⟨H5.out.1.guests (h6.mono (fun y _ hy => .inl hy)) (fun y hy => ⟨(o6.lt y hy).2, by cases hy; exact n6.imp .inl id⟩) (fun y hy => by rcases hy with h | rfl; exact (H5.out.2.1.lt y h).1; exact HW.out), by rw [flatE_snoc]; exact o6⟩
        clear o6 h6 n6 H5 a0 a1 a2 a3 a4 a5
        go_wp2_with fail
        go_roundw
        case rel => exact ⟨pre ++ [x], post, L ++ [x], p + 1, k + 1, Lib.hid ⟨by rw [hxp.out.1]; simp, by simp [hxp.out.2.1], by have := HKP.out; omega⟩, by simp, Lib.hid ⟨_, _, rfl, H6.out⟩⟩
        case measure => simp [intOf]; omega
set_option maxRecDepth 100000 in
theorem journalTrims_walk (W : World) (A0 : Option Addr) (n0 c0 : Nat) (a1 a2 : Int) (R0 : Rd Try.prog W 8 45 [.slice A0 n0 c0]) (_w1 : (Lit.int .i64 a1).wf = true) (_w2 : (Lit.int .i64 a2).wf = true) :
    Calls Try.prog 5 #[.slice A0 n0 c0, .int .i64 a1, .int .i64 a2] W fun e w' => e = .returned (.bool true) ∧ Below W.heap.size W w' := by
  obtain ⟨A, c, xs, hv, hx0, _, hl0⟩ := rd_ents R0
  obtain ⟨rfl, rfl, rfl⟩ := Value.slice.inj hv
  exact (journalTrims_core W _ _ xs a1 a2 hx0 (by omega)).mono fun _ _ ⟨h1, h2⟩ => ⟨h1, h2.same⟩
end Go.Proofs.Ytflpelacjdnplaa
