/- JournalTenants: a tenant's pages are of its own entries alone: the walk. -/
import Derived.Test.YtflpelacjdnplaaTenLaw
import Derived.Test.YtflpelacjdnplaaJrnTwo
import Derived.Test.YtflpelacjdnplaaEntIn
import Derived.Test.YtflpelacjdnplaaEntEq
namespace Go.Proofs.Ytflpelacjdnplaa
open Go.RowKit

theorem list_split {α : Type} {L : List α} {q : Nat} {x : α} (h : L[q]? = some x) : ∃ pre post, L = pre ++ x :: post ∧ pre.length = q := by
  obtain ⟨hl, rfl⟩ := List.getElem?_eq_some_iff.1 h
  exact ⟨L.take q, L.drop (q + 1), by simp, by simp; omega⟩
theorem twGetQ {G : Nat → Prop} {W w : World} {ja jb na ga nb gb C q : Nat} {La Lb : List Ent} {x : Ent} (h : Tw G W w ja jb na ga nb gb C La Lb) (hx : La[q]? = some x) (hg : ga ≤ 1000000000000) (hn : na ≤ 1000000) (i : Int) (hi : i = (ga : Int) + q + 1) : Calls Try.prog 23 #[.pointer (some ⟨ja, 0, none⟩), .int .i64 i] w fun e w' => e = .returned (.tuple #[x.val, .int .i64 0]) ∧ Ch No w w' := by
  obtain ⟨pre, post, rfl, hq⟩ := list_split hx
  exact twGet h hg hn q hq i hi
theorem cls_at {w : World} {A : Option Addr} {k : IntKind} {xs : List Int} (h : Cls w A (ints k xs)) {j : Nat} {v : Int} (hv : xs[j]? = some v) : ∃ b off, A = some ⟨b, off, none⟩ ∧ w.cell? ⟨b, off + j, none⟩ = some (.int k v) := by
  obtain ⟨hl, rfl⟩ := List.getElem?_eq_some_iff.1 hv
  exact h.get j hl

set_option maxHeartbeats 8000000 in
set_option maxRecDepth 100000 in
theorem journalTenants_core (W : World) (A : Option Addr) (c : Nat) (xs : List Ent) (t0 : Int) (hx : Rws W A 6 (xs.map Ent.enc)) (hxl : xs.length ≤ 140737488351232) :
    Calls Try.prog 7 #[.slice A xs.length c, .int .i64 t0] W fun e w' => e = .returned (.bool true) ∧ Ch No W w' := by
  have al := fun w => jrnAlive_any w
  obtain ⟨N, hN⟩ : ∃ N, xs.length = N := ⟨_, rfl⟩
  have HX := Lib.hid (And.intro hN hx)
  rw [hN] at hxl ⊢
  clear hN hx
  by_cases h60 : 60 < N
  · go_enter Try.func7, Try.ntmps7
    go_wp2_with fail
    refine (al _).mono ?_
    rintro e w1 ⟨rfl, h1⟩
    have H1 := Lib.hid h1
    clear h1 al
    go_wp2_with fail
    go_ret
    exact ⟨rfl, H1.out⟩
  have HNW := Lib.hid (fun w => JNew_ok 100 (by omega) (by omega) w)
  have hb15 : bits .and .i64 t0 15 = t0 % 16 := i64_mask t0 4 (by omega)
  obtain ⟨t, ht⟩ : ∃ t, t0 % 16 = t := ⟨_, rfl⟩
  have ht0 : 0 ≤ t := by omega
  have ht1 : t < 16 := by omega
  rw [ht] at hb15
  clear ht
  go_enter Try.func7, Try.ntmps7
  go_wp2_with fail
  refine (al _).mono ?_
  rintro e w1 ⟨rfl, h1⟩
  have H1 := Lib.hid h1
  clear h1 al
  go_wp2_with fail
  refine (HNW.out _).mono ?_
  rintro e w2 ⟨ja, rfl, hba, j2, h2⟩
  have J2 := Lib.hid (And.intro hba (And.intro j2 h2))
  clear hba j2 h2
  go_wp2_with fail
  refine (HNW.out _).mono ?_
  rintro e w3 ⟨jb, rfl, hbb, j3, h3⟩
  have T3 := Lib.hid (twNew H1.out J2.out.1 J2.out.2.1 J2.out.2.2 hbb j3 h3)
  clear hbb j3 h3 J2 H1 HNW
  go_wp2_with fail
  clear hb15
  go_loopw [9, 11, 12, 13, 40] (fun nt _ _ _ i wr => ∃ (pre post L : List Ent) (p k q : Nat), Hid (xs = pre ++ post ∧ pre.length = p ∧ k ≤ p ∧ q ≤ k ∧ L.length = k ∧ (ownT t L).length = q ∧ ∀ x ∈ L, okE x = true) ∧ i = .int .i64 p ∧ nt = .int .i64 k ∧ Hid (Tw (fun _ => False) W wr ja jb k 0 q 0 100 L (ownT t L))) (fun _ _ _ _ i _ => N - (intOf i).toNat)
  case atStart => exact ⟨[], xs, [], 0, 0, 0, Lib.hid ⟨rfl, rfl, by omega, by omega, rfl, rfl, by simp⟩, rfl, rfl, T3⟩
  case round =>
    clear T3
    obtain ⟨pre, post, L, p, k, q, hxp, rfl, rfl, HT⟩ := hrel
    have hln := congrArg List.length hxp.out.1
    rw [HX.out.1, List.length_append, hxp.out.2.1] at hln
    have hkp := hxp.out.2.2.1
    have hqk := hxp.out.2.2.2.1
    cases post with
    | nil =>
      simp at hln
      have hn1 : N ≤ p := by omega
      have hk60 : k ≤ 60 := by omega
      have hlk := hxp.out.2.2.2.2.1
      have hlq := hxp.out.2.2.2.2.2.1
      obtain ⟨m, hm⟩ : ∃ m, min 16 (ownT t L).length = m := ⟨_, rfl⟩
      have hpb := page_both t (by omega) L
      have hpa := page_at t (by omega) L
      rw [hm] at hpb hpa
      have hP1 := Lib.hid (fun w' (h : Tw (fun _ => False) W w' ja jb k 0 q 0 100 L (ownT t L)) => by have := twPage h (by omega) (by omega) t 0 16; rw [hpb.1] at this; exact this)
      have hP2 := Lib.hid (fun w' (h : Tw (fun _ => False) W w' ja jb k 0 q 0 100 L (ownT t L)) => by have := twPage h.swap (by omega) (by omega) t 0 16; rw [hpb.2] at this; exact this)
      have HU := Lib.hid (And.intro hpa (And.intro hlk (And.intro hlq hxp.out.2.2.2.2.2.2)))
      have hm16 : m ≤ 16 := by omega
      clear hpb hpa hlk hlq hm hln
      go_wp2_with fail
      refine (hP1.out _ HT.out).mono ?_
      rintro e w4 ⟨Av, cv, rfl, hcx, h4⟩
      have H4 := Lib.hid (And.intro (HT.out.no h4) hcx)
      clear hcx h4 hP1 HT
      go_wp2_with fail
      refine (hP2.out _ H4.out.1).mono ?_
      rintro e w5 ⟨Au, cu, rfl, hcy, h5⟩
      have H5 := Lib.hid (And.intro (H4.out.1.no h5) (And.intro (H4.out.2.ch h5 (fun _ _ h => h)) hcy))
      clear hcy h5 hP2 H4
      go_wp2_with fail
      generalize decide (p < N) = bd at *
      go_loopw [16, 17, 18, 19, 20, 75] (fun _ _ _ _ _ i wr2 => ∃ j : Nat, j ≤ m ∧ i = .int .i64 j ∧ Hid (Ch No w5 wr2)) (fun _ _ _ _ _ i _ => m - (intOf i).toNat)
      case atStart => exact ⟨0, Nat.zero_le _, rfl, Lib.hid (Ch.refl _ _)⟩
      case round =>
        obtain ⟨j, hj, rfl, hw⟩ := hrel
        by_cases hjm : j < m
        · obtain ⟨qq, x, e1, e2, e3, e4⟩ := HU.out.1 j hjm
          have HTW := Lib.hid (H5.out.1.no hw.out)
          obtain ⟨g1, o1, rfl, k1⟩ := cls_at (H5.out.2.1.ch hw.out (fun _ _ h => h)) e1
          obtain ⟨g2, o2, rfl, k2⟩ := cls_at (H5.out.2.2.ch hw.out (fun _ _ h => h)) e4
          have HG1 := Lib.hid (twGetQ HTW.out e2 (by omega) (by omega) ((qq : Int) + 1) (by simp))
          have HG2 := Lib.hid (fun w' (h : Tw (fun _ => False) W w' ja jb k 0 q 0 100 L (ownT t L)) => twGetQ h.swap e3 (by omega) (by omega) ((j : Int) + 1) (by simp))
          unfold Ent.val at HG1 HG2
          have hea := eqE_run x x
          simp only [decide_true] at hea
          clear e1 e2 e3 e4
          go_wp2_with fail
          refine HG1.out.mono ?_
          rintro e w6 ⟨rfl, h6⟩
          have HB6 : Hid (Blk (w6.alloc (.cells x.enc.toArray 32)) w6.heap.size 32 x.enc) := Lib.hid (Blk.new w6 32 x.enc)
          have HC6 : Hid (Ch No wr (w6.alloc (.cells x.enc.toArray 32))) := Lib.hid (h6.alloc _)
          simp only [Ent.enc] at HC6
          have k2' := HC6.out.cell k2 (fun h => h)
          clear h6 k1 k2 HG1
          go_wp2_with fail
          refine (HG2.out _ (HTW.out.no HC6.out)).mono ?_
          rintro e w7 ⟨rfl, h7⟩
          have HB7 := Lib.hid ((HB6.out.ch h7 (fun h => h)).alloc (.cells x.enc.toArray 32)).ebox
          have HC7 : Hid (EBox (w7.alloc (.cells x.enc.toArray 32)) w7.heap.size x) := Lib.hid (Blk.new w7 32 x.enc).ebox
          have HD7 : Hid (Ch No w5 (w7.alloc (.cells x.enc.toArray 32))) := Lib.hid ((hw.out.trans (HC6.out.trans h7)).alloc _)
          simp only [Ent.enc] at HB7 HC7 HD7
          obtain ⟨z0, z1, z2, z3, z4, z5⟩ := HB7.out
          obtain ⟨y0, y1, y2, y3, y4, y5⟩ := HC7.out
          clear h7 k2' HB6 HC6 HG2
          go_wp2_with fail
          go_roundw
          case rel => exact ⟨j + 1, by omega, by simp, HD7⟩
          case measure => simp [intOf]; omega
        · by_cases hk16 : 16 < k
          · have HF := Lib.hid (H5.out.1.ch.trans hw.out)
            go_wp2_with fail
            go_ret
            exact ⟨rfl, HF.out⟩
          · have hkk : k ≤ 16 := by omega
            have hb0 := belowT_first L HU.out.2.2.2
            clear hk16
            go_wp2_with fail
            generalize decide (j < m) = bd2 at *
            go_loopw [21, 22] (fun at_ tt wr3 => ∃ (T : Int) (b : Nat), -1 ≤ T ∧ T ≤ 16 ∧ tt = .int .i64 T ∧ at_ = .int .i64 b ∧ Hid (belowT T L = b ∧ Ch No w5 wr3)) (fun _ tt _ => (16 - intOf tt).toNat)
            case atStart => exact ⟨-1, 0, by omega, by omega, rfl, rfl, Lib.hid ⟨hb0, hw.out⟩⟩
            case round =>
              clear hb0
              obtain ⟨T, b, hT1, hT2, rfl, rfl, hw3⟩ := hrel
              have hbk : b ≤ k := by rw [← hw3.out.1, ← HU.out.2.1]; exact belowT_le T L
              by_cases hT : T < 16
              · obtain ⟨o, ho⟩ : ∃ o, (ownT T L).length = o := ⟨_, rfl⟩
                have hbs := belowT_step T L
                rw [hw3.out.1, ho] at hbs
                have hok : o ≤ k := by rw [← ho, ← HU.out.2.1]; exact ownT_le T L
                have HP := Lib.hid (by have := twPage (H5.out.1.no hw3.out.2) (by omega) (by omega) T 0 16; rw [page_len T (by omega) L (by rw [HU.out.2.1]; exact hkk), ho] at this; exact this)
                have HBS := Lib.hid hbs
                clear hbs ho
                go_wp2_with fail
                refine HP.out.mono ?_
                rintro e w8 ⟨A8, c8, rfl, _, h8⟩
                have H8 := Lib.hid (hw3.out.2.trans h8)
                clear h8 HP
                go_wp2_with fail
                go_roundw
                case rel => exact ⟨T + 1, b + o, by omega, by omega, rfl, by simp, Lib.hid ⟨HBS.out, H8.out⟩⟩
                case measure => simp [intOf]; omega
              · have hT16 : T = 16 := by omega
                have hbk2 : b = k := by rw [← hw3.out.1, ← HU.out.2.1, hT16]; exact belowT_last L HU.out.2.2.2
                have heq : ((b : Int) == (k : Int)) = true := by rw [hbk2]; simp
                have HP1 := Lib.hid (fun w' (h : Ch No w5 w') => by have := twPage (H5.out.1.no h) (by omega) (by omega) (-2) 0 16; rw [page_every L (by rw [HU.out.2.1]; exact hkk), HU.out.2.1] at this; exact this)
                have HP2 := Lib.hid (fun w' (h : Ch No w5 w') => by have := twPage (H5.out.1.no h) (by omega) (by omega) (-2) 0 (-1); rw [page_none L] at this; exact this)
                clear hT16 hbk2
                go_wp2_with fail
                refine (HP1.out _ hw3.out.2).mono ?_
                rintro e w8 ⟨A8, c8, rfl, _, h8⟩
                have H8 := Lib.hid (hw3.out.2.trans h8)
                clear h8 HP1
                go_wp2_with fail
                refine (HP2.out _ H8.out).mono ?_
                rintro e w9 ⟨A9, c9, rfl, _, h9⟩
                have H9 := Lib.hid (H5.out.1.ch.trans (H8.out.trans h9))
                clear h9 HP2
                go_wp2_with fail
                go_ret
                exact ⟨rfl, H9.out⟩
    | cons x post =>
      rw [List.length_cons] at hln
      obtain ⟨gy, oy, rfl, k0, k1, k2, k3, k4, k5⟩ := (HX.out.2.no HT.out.ch).ent hxp.out.1
      rw [hxp.out.2.1] at k0 k1 k2 k3 k4 k5
      have hlt : p < N := by omega
      have hk60 : k ≤ 60 := by omega
      have hq60 : q ≤ 60 := by omega
      have HKP := Lib.hid (And.intro hkp hqk)
      clear hln hkp hqk
      have hBx : EBox (wr.alloc (.cells x.enc.toArray 32)) wr.heap.size x := (Blk.new wr 32 x.enc).ebox
      have hCx : Ch No wr (wr.alloc (.cells x.enc.toArray 32)) := (Ch.refl No wr).alloc _
      simp only [Ent.enc] at hBx hCx
      obtain ⟨bx, hbx⟩ : ∃ bx, wr.heap.size = bx := ⟨_, rfl⟩
      rw [hbx] at hBx
      cases hox : okE x with
      | false =>
        have HA := Lib.hid (twBad (HT.out.no hCx) x hox (some ⟨ja, 0, none⟩))
        unfold Ent.val at HA
        clear hox hCx hbx hBx
        go_wp2_with fail
        refine HA.out.mono ?_
        rintro e w4 ⟨rfl, t4⟩
        have H4 := Lib.hid t4
        clear t4 HA k0 k1 k2 k3 k4 k5
        go_wp2_with fail
        go_roundw
        case rel => exact ⟨pre ++ [x], post, L, p + 1, k, q, Lib.hid ⟨by rw [hxp.out.1]; simp, by simp [hxp.out.2.1], by have := HKP.out.1; omega, HKP.out.2, hxp.out.2.2.2.2⟩, by simp, rfl, H4⟩
        case measure => simp [intOf]; omega
      | true =>
        have HA := Lib.hid (twAdd HT.out hCx x bx (by omega) hBx hox (by omega) (by omega) (by omega) ((k : Int) + 1) (by simp))
        have HB := Lib.hid (fun w' (h : Tw (fun _ => False) W w' ja jb (k + 1) 0 q 0 100 (L ++ [x]) (ownT t L)) => twAddG h.swap (Ch.refl _ _) x hox (by omega) (by omega) (by omega) ((q : Int) + 1) (by simp))
        unfold Ent.val at HA HB
        have HOK : Hid (∀ y ∈ L ++ [x], okE y = true) := Lib.hid (by
          intro y hy
          rw [List.mem_append, List.mem_singleton] at hy
          rcases hy with hy | rfl
          · exact hxp.out.2.2.2.2.2.2 y hy
          · exact hox)
        clear hox hCx
        go_wp2_with fail
        refine HA.out.mono ?_
        rintro e w4 ⟨rfl, t4, b4, _⟩
        have H4 := Lib.hid t4
        obtain ⟨a0, a1, a2, a3, a4, a5⟩ := b4
        clear t4 HA hBx hbx k0 k1 k2 k3 k4 k5
        by_cases hq : x.tenant = t
        · have hqq : (x.tenant == t) = true := by simpa using hq
          have HSN : Hid (ownT t (L ++ [x]) = ownT t L ++ [x]) := Lib.hid (by rw [ownT_snoc]; simp [hq])
          clear hq
          go_wp2_with fail
          refine (HB.out _ H4.out).mono ?_
          rintro e w5 ⟨rfl, t5, _⟩
          have H5 := Lib.hid t5.swap
          clear t5 HB H4 a0 a1 a2 a3 a4 a5
          go_wp2_with fail
          go_roundw
          case rel => exact ⟨pre ++ [x], post, L ++ [x], p + 1, k + 1, q + 1, Lib.hid ⟨by rw [hxp.out.1]; simp, by simp [hxp.out.2.1], by have := HKP.out.1; omega, by have := HKP.out.2; omega, by simp [hxp.out.2.2.2.2.1], by rw [HSN.out]; simp [hxp.out.2.2.2.2.2.1], HOK.out⟩, by simp, by simp, Lib.hid (by rw [HSN.out]; exact H5.out)⟩
          case measure => simp [intOf]; omega
        · have hqq : (x.tenant == t) = false := by simpa using hq
          have HSN : Hid (ownT t (L ++ [x]) = ownT t L) := Lib.hid (by rw [ownT_snoc]; simp [hq])
          clear hq
          go_wp2_with fail
          go_roundw
          case rel => exact ⟨pre ++ [x], post, L ++ [x], p + 1, k + 1, q, Lib.hid ⟨by rw [hxp.out.1]; simp, by simp [hxp.out.2.1], by have := HKP.out.1; omega, by have := HKP.out.2; omega, by simp [hxp.out.2.2.2.2.1], by rw [HSN.out]; exact hxp.out.2.2.2.2.2.1, HOK.out⟩, by simp, by simp, Lib.hid (by rw [HSN.out]; exact H4.out)⟩
          case measure => simp [intOf]; omega
set_option maxRecDepth 100000 in
theorem journalTenants_walk (W : World) (A0 : Option Addr) (n0 c0 : Nat) (a1 : Int) (R0 : Rd Try.prog W 8 45 [.slice A0 n0 c0]) (_w1 : (Lit.int .i64 a1).wf = true) :
    Calls Try.prog 7 #[.slice A0 n0 c0, .int .i64 a1] W fun e w' => e = .returned (.bool true) ∧ Below W.heap.size W w' := by
  obtain ⟨A, c, xs, hv, hx0, _, hl0⟩ := rd_ents R0
  obtain ⟨rfl, rfl, rfl⟩ := Value.slice.inj hv
  exact (journalTenants_core W _ _ xs a1 hx0 (by omega)).mono fun _ _ ⟨h1, h2⟩ => ⟨h1, h2.same⟩
end Go.Proofs.Ytflpelacjdnplaa
