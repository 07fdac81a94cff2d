/- JournalPlays: the journal, step by step, beside the document's: the walk. -/
import Derived.Test.YtflpelacjdnplaaJrnPly
import Derived.Test.YtflpelacjdnplaaPert
namespace Go.Proofs.Ytflpelacjdnplaa
open Go.RowKit

theorem drop_drop' (L : List Ent) (g k : Nat) : (L.drop g).drop k = L.drop (g + k) := by rw [List.drop_drop]
theorem py_start {w1 w2 W : World} {jb cap : Nat} (h0 : Ch No W w1) (hb : w1.heap.size ≤ jb) (j : Jr w2 jb none 0 0 0 cap []) (hc : Ch No w1 w2) : Py W (w2.alloc (.cells #[.slice none 0 0, .int .i64 0, .int .i64 cap] 30)) jb w2.heap.size cap 0 0 [] 0 0 [] none 0 := by
  have h1 := h0.size
  have h2 := hc.size
  have hbk := Blk.new w2 30 [.slice none 0 0, .int .i64 (0 : Nat), .int .i64 cap]
  refine ⟨⟨none, 0, j.no ((Ch.refl No w2).alloc _), ?_, fun a ha => (by cases ha)⟩, rfl, by simpa using hbk, fun pre r post e => (by simp at e), fun a ha => (by cases ha), (h0.trans hc).alloc _, by omega, by omega⟩
  rintro (h | ⟨a, ha, _⟩)
  · have := j.lt
    omega
  · cases ha
set_option maxHeartbeats 100000000 in
set_option maxRecDepth 100000 in
theorem journalPlays_core (W : World) (cap0 : Int) (A0 : Option Addr) (c0 : Nat) (ops : List Jo) (tenant f0 n0 : Int) (hx : Rws W A0 8 (ops.map Jo.enc)) (hxl : ops.length ≤ 140737488351232) :
    Calls Try.prog 3 #[.int .i64 cap0, .slice A0 ops.length c0, .int .i64 tenant, .int .i64 f0, .int .i64 n0] W fun e w' => e = .returned (.bool true) ∧ Ch No W w' := by
  have al := fun w => jrnAlive_any w
  obtain ⟨N, hN⟩ : ∃ N, ops.length = N := ⟨_, rfl⟩
  have HX := Lib.hid (And.intro hN hx)
  rw [hN] at hxl ⊢
  clear hN hx
  by_cases h60 : 60 < N
  · go_enter Try.func3, Try.ntmps3
    go_wp2_with fail
    refine (al _).mono ?_
    rintro e w1 ⟨rfl, h1⟩
    have H1 := Lib.hid h1
    clear h1 al
    go_wp2_with fail
    go_ret
    exact ⟨rfl, H1.out⟩
  by_cases hc1 : cap0 < 1 ∨ 4096 < cap0
  · have HNB := Lib.hid (fun w => JNew_bad cap0 hc1 w)
    by_cases hc2 : cap0 < 1
    all_goals
      have hc3 : ¬ cap0 < 1 → 4096 < cap0 := fun h => hc1.resolve_left h
      clear hc1
      try have hc4 := hc3 hc2
      clear hc3
      go_enter Try.func3, Try.ntmps3
      go_wp2_with fail
      refine (al _).mono ?_
      rintro e w1 ⟨rfl, h1⟩
      have H1 := Lib.hid h1
      clear h1 al
      go_wp2_with fail
      refine (HNB.out _).mono ?_
      rintro e w2 ⟨rfl, h2⟩
      have H2 := Lib.hid (H1.out.trans h2)
      clear h2 H1
      go_wp2_with fail
      go_ret
      exact ⟨rfl, H2.out⟩
  have hc2 : 1 ≤ cap0 := by omega
  have hc3 : cap0 ≤ 4096 := by omega
  obtain ⟨cap, rfl⟩ : ∃ cap : Nat, cap0 = cap := ⟨cap0.toNat, by omega⟩
  have hcl : ¬ (cap : Int) < 1 := by omega
  have hcu : ¬ 4096 < (cap : Int) := by omega
  clear hc1
  have HNW := Lib.hid (fun w => JNew_ok cap (by omega) (by omega) w)
  go_enter Try.func3, Try.ntmps3
  go_wp2_with fail
  refine (al _).mono ?_
  rintro e w1 ⟨rfl, h1⟩
  have H1 := Lib.hid h1
  clear h1 al
  go_wp2_with fail
  refine (HNW.out _).mono ?_
  rintro e w2 ⟨jb, rfl, hbj, j2, h2⟩
  have P2 := Lib.hid (py_start H1.out hbj j2 h2)
  clear hbj j2 h2 H1 HNW
  go_wp2_with fail
  generalize w2.heap.size = xb at *
  clear hcl hcu
  go_loopw [15, 16, 17, 18, 19, 20, 21, 22, 23, 64] (fun _ _ _ _ _ _ _ _ _ i wr => ∃ (pre post : List Jo) (L : List Ent) (A : Option Addr) (c p m g n : Nat), Hid (ops = pre ++ post ∧ pre.length = p ∧ n ≤ p ∧ g + m = n ∧ m ≤ cap) ∧ i = .int .i64 p ∧ Hid (Py W wr jb xb cap m g (L.drop g) n g L A c)) (fun _ _ _ _ _ _ _ _ _ i _ => N - (intOf i).toNat)
  case atStart => exact ⟨[], ops, [], none, 0, 0, 0, 0, 0, Lib.hid ⟨rfl, rfl, by omega, by omega, by omega⟩, rfl, P2⟩
  case round =>
    clear P2
    obtain ⟨pre, post, L, A, c, p, m, g, n, hxp, rfl, hp⟩ := hrel
    have hln := congrArg List.length hxp.out.1
    rw [HX.out.1, List.length_append, hxp.out.2.1] at hln
    have hnp := hxp.out.2.2.1
    have hgm := hxp.out.2.2.2.1
    have hmc := hxp.out.2.2.2.2
    cases post with
    | nil =>
      simp at hln
      have hn60 : n ≤ 60 := by omega
      have HC := Lib.hid (And.intro hgm hmc)
      have hNp : N ≤ p := by omega
      clear hln hnp hgm hmc
      obtain ⟨D, hD⟩ : ∃ D, L.drop g = D := ⟨_, rfl⟩
      have hDl : D.length = m := by rw [← hD, List.length_drop, hp.out.nn]; have := HC.out.1; omega
      rw [hD] at hp
      have hgm := HC.out.1
      have hm60 : m ≤ 60 := by omega
      have hg60 : g ≤ 60 := by omega
      have hqb : bits .and .i64 n0 7 = n0 % 8 := i64_mask n0 3 (by omega)
      obtain ⟨q8, hq8⟩ : ∃ q : Nat, n0 % 8 = (q : Int) := ⟨(n0 % 8).toNat, by omega⟩
      rw [hq8] at hqb
      have hq7 : q8 ≤ 7 := by omega
      have hD1 : D.take (1000 : Int).toNat = D := List.take_of_length_le (by rw [hDl]; show m ≤ 1000; omega)
      have hD2 : (numJ g D D.length).take (1000 : Int).toNat = numJ g D D.length := List.take_of_length_le (by rw [numJ_len, Nat.min_self, hDl]; show m ≤ 1000; omega)
      have HE1 := Lib.hid (by have := pyEntries hp.out (by omega) (by omega) 1000 m (by rw [hD1]; exact hDl); rw [hD1, hD2] at this; exact this)
      obtain ⟨s, hs⟩ : ∃ s, (D.take ((q8 : Nat) : Int).toNat).length = s := ⟨_, rfl⟩
      have hs2 : s = min q8 m := by rw [← hs, List.length_take, hDl]; simp
      have HE2 := Lib.hid (fun w' (h : Py W w' jb xb cap m g D n g L A c) => pyEntries h (by omega) (by omega) (q8 : Int) s hs)
      have hmn := fun ts t w => run_min2 ts t (q8 : Int) (m : Int) w
      have hmn0 : (if (m : Int) < (q8 : Int) then (m : Int) else (q8 : Int)) = (s : Int) := by rw [hs2]; split <;> omega
      rw [hmn0] at hmn
      have e1 : (n : Int) - (g : Int) = (m : Int) := by omega
      have HG := Lib.hid (And.intro hD (And.intro hDl hgm))
      clear hD hDl hgm hq8 hD1 hD2 hs hs2 hmn0
      go_wp2_with fail
      refine HE1.out.mono ?_
      rintro e w5 ⟨Av, cv, Au, cu, rfl, hat, hall, h5⟩
      have H5 := Lib.hid (And.intro (hp.out.no h5) (And.intro hat hall))
      clear hat hall h5 HE1 hp
      go_wp2_with fail
      refine (HE2.out _ H5.out.1).mono ?_
      rintro e w6 ⟨As, cs, At, ct, rfl, _, _, h6⟩
      have H6 := Lib.hid (And.intro (H5.out.1.no h6) (And.intro (H5.out.2.1.ch h6 (fun _ _ h => h)) (H5.out.2.2.no h6)))
      clear h6 HE2 H5
      have x0 := H6.out.1.bx.cell 0
      have x1 := H6.out.1.bx.cell 1
      simp only [List.getElem?_cons_zero, List.getElem?_cons_succ] at x0 x1
      go_wp2_with fail
      clear x0 x1 hmn hqb e1
      generalize decide (p < N) = bd at *
      go_loopw [28, 187] (fun _ i wr2 => ∃ j : Nat, j ≤ m ∧ i = .int .i64 j ∧ Hid (Ch No w6 wr2)) (fun _ i _ => m - (intOf i).toNat)
      case atStart => exact ⟨0, Nat.zero_le _, rfl, Lib.hid (Ch.refl _ _)⟩
      case round =>
        obtain ⟨j, hj, rfl, hw⟩ := hrel
        have hgm := HG.out.2.2
        by_cases hjm : j < m
        · obtain ⟨x, hx⟩ : ∃ x, D[j]? = some x := ⟨_, List.getElem?_eq_getElem (by rw [HG.out.2.1]; exact hjm)⟩
          obtain ⟨pr, po, hsp, hpl⟩ : ∃ pr po, D = pr ++ x :: po ∧ pr.length = j := by
            obtain ⟨hl, rfl⟩ := List.getElem?_eq_some_iff.1 hx
            exact ⟨D.take j, D.drop (j + 1), by simp, by simp; omega⟩
          obtain ⟨g1, o1, hA1, k0, k1, k2, k3, k4, k5⟩ := (H6.out.2.2.no hw.out).ent hsp
          rw [hpl] at k0 k1 k2 k3 k4 k5
          have hsL : L = (L.take g ++ pr) ++ x :: po := by rw [List.append_assoc, ← hsp, ← HG.out.1, List.take_append_drop]
          obtain ⟨b, hb⟩ : ∃ b, g + j = b := ⟨_, rfl⟩
          have hpL : (L.take g ++ pr).length = b := by rw [List.length_append, List.length_take, H6.out.1.nn, hpl, Nat.min_eq_left (by omega)]; exact hb
          obtain ⟨g2, o2, hA2, r0, r1, r2, r3, r4, r5⟩ := (H6.out.1.rw.no hw.out).ent hsL
          rw [hpL] at r0 r1 r2 r3 r4 r5
          obtain ⟨g3, o3, hA3, kv⟩ := (H6.out.2.1.ch hw.out (fun _ _ h => h)).get j (by rw [List.length_map, numJ_len, Nat.min_self, HG.out.2.1]; exact hjm)
          have hval : ((numJ g D D.length).map Prod.fst)[j]'(by rw [List.length_map, numJ_len, Nat.min_self, HG.out.2.1]; exact hjm) = (b : Int) + 1 := by simp [numJ]; omega
          rw [hval] at kv
          have x0 := in_cell ((H6.out.1.no hw.out).bx.cell 0)
          have x1 := in_cell ((H6.out.1.no hw.out).bx.cell 1)
          have e2 : IntKind.i64.wrap ((g : Int) + (j : Int)) = (b : Int) := by rw [IntWalk.i64_in _ (by omega)]; omega
          have e3 : IntKind.i64.wrap ((b : Int) + 1) = (b : Int) + 1 := IntWalk.i64_in _ (by omega)
          have hbn : b < n := by omega
          have hbn2 : (b : Int) < (n : Int) := by omega
          have hea := eqR_run x x
          simp only [decide_true] at hea
          replace k0 := in_cell k0
          replace k1 := in_cell k1
          replace k2 := in_cell k2
          replace k3 := in_cell k3
          replace k4 := in_cell k4
          replace k5 := in_cell k5
          replace r0 := in_cell r0
          replace r1 := in_cell r1
          replace r2 := in_cell r2
          replace r3 := in_cell r3
          replace r4 := in_cell r4
          replace r5 := in_cell r5
          replace kv := in_cell kv
          subst hA1
          subst hA2
          subst hA3
          clear hx hsp hpl hsL hb hpL hval hgm
          go_wp2_with fail
          (refine wp_region_in (Ch No _) (by kernel_rfl) (by kernel_rfl) (Ch.refl _ _) (fun _ h => ch_drawn h) ?_)
          repeat (go_big_quiet_step (fail))
          (refine wpQuiet_nil ?_; intro wq0 hw'; obtain ⟨pw, hw''⟩ := hw'; subst hw'')
          have HW := Lib.hid (hw.out.trans pw.h)
          generalize pw.w = w7 at *
          clear pw k0 k1 k2 k3 k4 k5 r0 r1 r2 r3 r4 r5 kv x0 x1 e2 e3 hea hbn2
          go_wp2_with fail
          go_roundw
          case rel => exact ⟨j + 1, by omega, by simp, HW⟩
          case measure => simp [intOf]; omega
        · have HP := Lib.hid (H6.out.1.no hw.out)
          clear H6 hw hj
          have hD := HG.out.1
          have hPG := fun w' (h : Py W w' jb xb cap m g D n g L A c) => pyPage h (by omega) (by omega) tenant f0 n0
          have hRG := fun w' (h : Py W w' jb xb cap m g D n g L A c) => by have := RPage_any (c := c) (cap := cap) h.rw h.nn (by omega) (by omega) tenant f0 n0 (gone := g); rw [hD] at this; exact this
          obtain ⟨S, hS⟩ : ∃ S, pageJ g D tenant f0 n0 = S := ⟨_, rfl⟩
          rw [hS] at hPG hRG
          have hSl : S.length ≤ 16 := by rw [← hS]; unfold pageJ pageN; rw [List.length_take]; omega
          obtain ⟨sl, hsl⟩ : ∃ sl, S.length = sl := ⟨_, rfl⟩
          rw [hsl] at hPG hRG hSl
          have hSS : ∀ w A1 c1 A2 c2, Cls w A1 (ints .i64 S) → Cls w A2 (ints .i64 S) → Calls Try.prog 25 #[.slice A1 sl c1, .slice A2 sl c2] w fun e w' => e = .returned (.bool true) ∧ Ch No w w' := fun w A1 c1 A2 c2 h1 h2 => by
            have := SameI_any w A1 c1 S A2 c2 S h1 h2 (by omega)
            rw [hsl, decide_eq_true rfl] at this
            exact this
          unfold RJv at hRG
          have HPGS := Lib.hid (And.intro hPG (And.intro hRG hSS))
          clear hPG hRG hSS hS hsl hD hSl
          by_cases hin : (g : Int) < f0 ∧ f0 ≤ n
          · as_aux_lemma =>
              obtain ⟨b, hb⟩ : ∃ b : Nat, f0 - 1 = b := ⟨(f0 - 1).toNat, by omega⟩
              obtain ⟨x, hx⟩ : ∃ x, L[b]? = some x := ⟨_, List.getElem?_eq_getElem (by rw [HP.out.nn]; omega)⟩
              have hxD : D[b - g]? = some x := by rw [← HG.out.1, List.getElem?_drop, show g + (b - g) = b from by omega]; exact hx
              have HGET := Lib.hid (pyGetIn HP.out hxD (by omega) (by omega) f0 (by omega))
              have HHAS := Lib.hid (fun w => by have := RHas_any (A := A) (c := c) (n := n) (gone := g) (cap := cap) w f0; rw [decide_eq_true hin] at this; exact this)
              unfold RJv at HHAS
              unfold Ent.val at HGET
              have hwb : IntKind.i64.wrap (f0 - 1) = (b : Int) := by rw [hb]; exact IntWalk.i64_in _ (by omega)
              have hbn : b < n := by omega
              have hbn2 : (b : Int) < (n : Int) := by omega
              have hsp : ∃ pr po, L = pr ++ x :: po ∧ pr.length = b := by
                obtain ⟨hl, rfl⟩ := List.getElem?_eq_some_iff.1 hx
                exact ⟨L.take b, L.drop (b + 1), by simp, by simp; omega⟩
              have HSP := Lib.hid hsp
              have hea := eqR_run x x
              simp only [decide_true] at hea
              clear hb hx hxD hin hgm hsp
              go_wp2_with fail
              refine HGET.out.mono ?_
              rintro e w7 ⟨rfl, h7⟩
              have H7 : Hid (Py W (w7.alloc (.cells #[.int .i64 x.t, .int .i64 x.arg, .int .i64 x.tenant, .int .i64 x.person, .int .i64 x.kind, .int .i64 x.code] 32)) jb xb cap m g D n g L A c ∧ EBox (w7.alloc (.cells #[.int .i64 x.t, .int .i64 x.arg, .int .i64 x.tenant, .int .i64 x.person, .int .i64 x.kind, .int .i64 x.code] 32)) w7.heap.size x) := Lib.hid ⟨HP.out.no (h7.alloc _), (Blk.new w7 32 x.enc).ebox⟩
              have x0 := H7.out.1.bx.cell 0
              have x1 := H7.out.1.bx.cell 1
              have x2 := H7.out.1.bx.cell 2
              simp only [List.getElem?_cons_zero, List.getElem?_cons_succ] at x0 x1 x2
              clear h7 HGET HP
              go_wp2_with fail
              refine (HHAS.out _).mono ?_
              rintro e w8 ⟨rfl, h8⟩
              have H8 := Lib.hid (And.intro (H7.out.1.no h8) (H7.out.2.no h8))
              clear h8 HHAS x0 x1 x2 H7
              generalize w7.heap.size = yb at *
              go_wp2_with fail
              obtain ⟨pr, po, hsL, hpL⟩ := HSP.out
              obtain ⟨g2, o2, hA2, r0, r1, r2, r3, r4, r5⟩ := H8.out.1.rw.ent hsL
              rw [hpL] at r0 r1 r2 r3 r4 r5
              replace r0 := in_cell r0
              replace r1 := in_cell r1
              replace r2 := in_cell r2
              replace r3 := in_cell r3
              replace r4 := in_cell r4
              replace r5 := in_cell r5
              have y0 := in_cell H8.out.2.1
              have y1 := in_cell H8.out.2.2.1
              have y2 := in_cell H8.out.2.2.2.1
              have y3 := in_cell H8.out.2.2.2.2.1
              have y4 := in_cell H8.out.2.2.2.2.2.1
              have y5 := in_cell H8.out.2.2.2.2.2.2
              have x0 := in_cell (H8.out.1.bx.cell 0)
              subst hA2
              clear hsL hpL HSP
              (refine wp_region_in (Ch No _) (by kernel_rfl) (by kernel_rfl) (Ch.refl _ _) (fun _ h => ch_drawn h) ?_)
              repeat (go_big_quiet_step (fail))
              (refine wpQuiet_nil ?_; intro wq0 hw'; obtain ⟨pw, hw''⟩ := hw'; subst hw'')
              have H9 := Lib.hid (H8.out.1.no pw.h)
              generalize pw.w = w9 at *
              clear pw r0 r1 r2 r3 r4 r5 y0 y1 y2 y3 y4 y5 x0 hea hwb H8
              go_upto_region 44 with fail
              have H9d := Lib.hid (H9.out.no (Ch.refl No w9).drew)
              have HCL : Hid (∀ w', Py W w' jb xb cap m g D n g L (some ⟨g2, o2, none⟩) c → w'.cell? ⟨xb, 0, none⟩ = some (.slice (some ⟨g2, o2, none⟩) n c) ∧ w'.cell? ⟨xb, 1, none⟩ = some (.int .i64 g) ∧ w'.cell? ⟨xb, 2, none⟩ = some (.int .i64 cap)) := Lib.hid (fun w' h => ⟨h.bx.cell 0, h.bx.cell 1, h.bx.cell 2⟩)
              obtain ⟨t0, t1, t2⟩ := HCL.out _ H9.out
              go_region_held3 (fun w' => w'.cell? ⟨xb, 0, none⟩ = some (.slice (some ⟨g2, o2, none⟩) n c) ∧ w'.cell? ⟨xb, 1, none⟩ = some (.int .i64 g) ∧ w'.cell? ⟨xb, 2, none⟩ = some (.int .i64 cap)) (first | exact HCL.out _ H9.out | exact HCL.out _ H9d.out | exact HCL.out _ H10.out.1 | exact HCL.out _ H11.out.1 | exact HCL.out _ H12.out) (first | (go_at_call 26; refine (HPGS.out.1 _ H9d.out).mono ?_; rintro e w10 ⟨A10, c10, rfl, l10, h10⟩; have H10 := Lib.hid (And.intro (H9d.out.no h10) l10); clear l10 h10) | (go_at_call 27; refine (HPGS.out.2.1 _ H10.out.1).mono ?_; rintro e w11 ⟨A11, c11, rfl, l11, h11⟩; have H11 := Lib.hid (And.intro (H10.out.1.no h11) (And.intro (H10.out.2.ch h11 (fun _ _ h => h)) l11)); clear l11 h11) | (go_at_call 25; refine (HPGS.out.2.2 _ _ _ _ _ H11.out.2.1 H11.out.2.2).mono ?_; rintro e w12 ⟨rfl, h12⟩; have H12 := Lib.hid (H11.out.1.no h12); clear h12))
              go_wp2_with fail
              go_ret
              exact ⟨rfl, H12.out.ch⟩
          · as_aux_lemma =>
              have HGET := Lib.hid (pyGetOut HP.out (by omega) (by omega) f0 (by omega))
              have HHAS := Lib.hid (fun w => by have := RHas_any (A := A) (c := c) (n := n) (gone := g) (cap := cap) w f0; rw [decide_eq_false hin] at this; exact this)
              unfold RJv at HHAS
              unfold Ent.val at HGET
              simp only [Ent.zero] at HGET
              have hea := eqE_run Ent.zero Ent.zero
              simp only [Ent.zero, decide_true] at hea
              clear hin hgm
              go_wp2_with fail
              refine HGET.out.mono ?_
              rintro e w7 ⟨rfl, h7⟩
              have H7 : Hid (Py W (w7.alloc (.cells #[.int .i64 0, .int .i64 0, .int .i64 0, .int .i64 0, .int .i64 0, .int .i64 0] 32)) jb xb cap m g D n g L A c ∧ EBox (w7.alloc (.cells #[.int .i64 0, .int .i64 0, .int .i64 0, .int .i64 0, .int .i64 0, .int .i64 0] 32)) w7.heap.size Ent.zero) := Lib.hid ⟨HP.out.no (h7.alloc _), (Blk.new w7 32 Ent.zero.enc).ebox⟩
              have x0 := H7.out.1.bx.cell 0
              have x1 := H7.out.1.bx.cell 1
              have x2 := H7.out.1.bx.cell 2
              simp only [List.getElem?_cons_zero, List.getElem?_cons_succ] at x0 x1 x2
              clear h7 HGET HP
              go_wp2_with fail
              refine (HHAS.out _).mono ?_
              rintro e w8 ⟨rfl, h8⟩
              have H8 := Lib.hid (And.intro (H7.out.1.no h8) (H7.out.2.no h8))
              clear h8 HHAS x0 x1 x2 H7
              generalize w7.heap.size = yb at *
              go_wp2_with fail
              have y0 := in_cell H8.out.2.1
              have y1 := in_cell H8.out.2.2.1
              have y2 := in_cell H8.out.2.2.2.1
              have y3 := in_cell H8.out.2.2.2.2.1
              have y4 := in_cell H8.out.2.2.2.2.2.1
              have y5 := in_cell H8.out.2.2.2.2.2.2
              simp only [Ent.zero] at y0 y1 y2 y3 y4 y5
              have x0 := in_cell (H8.out.1.bx.cell 0)
              (refine wp_region_in (Ch No _) (by kernel_rfl) (by kernel_rfl) (Ch.refl _ _) (fun _ h => ch_drawn h) ?_)
              repeat (go_big_quiet_step (fail))
              (refine wpQuiet_nil ?_; intro wq0 hw'; obtain ⟨pw, hw''⟩ := hw'; subst hw'')
              have H9 := Lib.hid (H8.out.1.no pw.h)
              generalize pw.w = w9 at *
              clear pw y0 y1 y2 y3 y4 y5 x0 hea H8
              go_upto_region 44 with fail
              have H9d := Lib.hid (H9.out.no (Ch.refl No w9).drew)
              have HCL : Hid (∀ w', Py W w' jb xb cap m g D n g L A c → w'.cell? ⟨xb, 0, none⟩ = some (.slice A n c) ∧ w'.cell? ⟨xb, 1, none⟩ = some (.int .i64 g) ∧ w'.cell? ⟨xb, 2, none⟩ = some (.int .i64 cap)) := Lib.hid (fun w' h => ⟨h.bx.cell 0, h.bx.cell 1, h.bx.cell 2⟩)
              obtain ⟨t0, t1, t2⟩ := HCL.out _ H9.out
              go_region_held3 (fun w' => w'.cell? ⟨xb, 0, none⟩ = some (.slice A n c) ∧ w'.cell? ⟨xb, 1, none⟩ = some (.int .i64 g) ∧ w'.cell? ⟨xb, 2, none⟩ = some (.int .i64 cap)) (first | exact HCL.out _ H9.out | exact HCL.out _ H9d.out | exact HCL.out _ H10.out.1 | exact HCL.out _ H11.out.1 | exact HCL.out _ H12.out) (first | (go_at_call 26; refine (HPGS.out.1 _ H9d.out).mono ?_; rintro e w10 ⟨A10, c10, rfl, l10, h10⟩; have H10 := Lib.hid (And.intro (H9d.out.no h10) l10); clear l10 h10) | (go_at_call 27; refine (HPGS.out.2.1 _ H10.out.1).mono ?_; rintro e w11 ⟨A11, c11, rfl, l11, h11⟩; have H11 := Lib.hid (And.intro (H10.out.1.no h11) (And.intro (H10.out.2.ch h11 (fun _ _ h => h)) l11)); clear l11 h11) | (go_at_call 25; refine (HPGS.out.2.2 _ _ _ _ _ H11.out.2.1 H11.out.2.2).mono ?_; rintro e w12 ⟨rfl, h12⟩; have H12 := Lib.hid (H11.out.1.no h12); clear h12))
              go_wp2_with fail
              go_ret
              exact ⟨rfl, H12.out.ch⟩
    | cons x post =>
      rw [List.length_cons] at hln
      obtain ⟨kd, nn, x⟩ := x
      obtain ⟨gy, oy, rfl, k0, k1, k2, k3, k4, k5, k6, k7⟩ := (show Rws wr A0 8 (ops.map Jo.enc) from HX.out.2.no hp.out.ch).jo hxp.out.1
      rw [hxp.out.2.1] at k0 k1 k2 k3 k4 k5 k6 k7
      have hlt : p < N := by omega
      have hn60 : n ≤ 60 := by omega
      have hm60 : m ≤ 60 := by omega
      have hg60 : g ≤ 60 := by omega
      have hLn := hp.out.nn
      have HC := Lib.hid (And.intro hgm (And.intro hmc (And.intro hnp hLn)))
      obtain ⟨ob, hob⟩ : ∃ ob, wr.heap.size = ob := ⟨_, rfl⟩
      have HPO : Hid (Py W (wr.alloc (.cells #[.int .i64 kd, .int .i64 nn, .int .i64 x.t, .int .i64 x.arg, .int .i64 x.tenant, .int .i64 x.person, .int .i64 x.kind, .int .i64 x.code] 34)) jb xb cap m g (L.drop g) n g L A c ∧ Blk (wr.alloc (.cells #[.int .i64 kd, .int .i64 nn, .int .i64 x.t, .int .i64 x.arg, .int .i64 x.tenant, .int .i64 x.person, .int .i64 x.kind, .int .i64 x.code] 34)) ob 34 [.int .i64 kd, .int .i64 nn, .int .i64 x.t, .int .i64 x.arg, .int .i64 x.tenant, .int .i64 x.person, .int .i64 x.kind, .int .i64 x.code] ∧ xb ≠ ob) := Lib.hid ⟨hp.out.no ((Ch.refl No wr).alloc _), by rw [← hob]; exact Blk.new wr 34 _, by have := hp.out.bx.lt; omega⟩
      have x0 := HPO.out.1.bx.cell 0
      have x1 := HPO.out.1.bx.cell 1
      have x2 := HPO.out.1.bx.cell 2
      have a1 := HPO.out.2.1.cell 1
      have a2 := HPO.out.2.1.cell 2
      have a3 := HPO.out.2.1.cell 3
      have a4 := HPO.out.2.1.cell 4
      have a5 := HPO.out.2.1.cell 5
      have a6 := HPO.out.2.1.cell 6
      have a7 := HPO.out.2.1.cell 7
      simp only [List.getElem?_cons_zero, List.getElem?_cons_succ] at x0 x1 x2 a1 a2 a3 a4 a5 a6 a7
      clear hp hln hnp hmc hLn
      by_cases h0 : kd = 0
      · subst h0
        as_aux_lemma =>
          cases hox : okE x with
          | false =>
            have HA := Lib.hid (fun w => RAdd_bad (A := A) (c := c) (n := n) (gone := g) (cap := cap) x hox w)
            have HB := Lib.hid (fun w' (h : Py W w' jb xb cap m g (L.drop g) n g L A c) => pyAddBad h x hox)
            unfold RJv Ent.val at HA
            unfold Ent.val at HB
            clear hox
            go_wp2_with fail
            refine (HA.out _).mono ?_
            rintro e w1 ⟨rfl, h1⟩
            have H1 := Lib.hid (And.intro h1 trivial)
            clear h1 HA
            have HPP := Lib.hid (HPO.out.1.put (H1.out.1.alloc (.cells #[.slice A n c, .int .i64 g, .int .i64 cap] 30)) (n' := n) (g' := g) (c' := c) HPO.out.1.nn (HPO.out.1.rw.no (H1.out.1.alloc _)) (fun a ha => .inr ha))
            have HOB : Hid (Blk ((((w1.alloc (.cells #[.slice A n c, .int .i64 g, .int .i64 cap] 30)).setCell ⟨xb, 0, none⟩ (.slice A n c)).setCell ⟨xb, 1, none⟩ (.int .i64 g)).setCell ⟨xb, 2, none⟩ (.int .i64 cap)) ob 34 [.int .i64 0, .int .i64 nn, .int .i64 x.t, .int .i64 x.arg, .int .i64 x.tenant, .int .i64 x.person, .int .i64 x.kind, .int .i64 x.code]) := Lib.hid ((((((HPO.out.2.1.ch H1.out.1 (fun h => h)).alloc (.cells #[.slice A n c, .int .i64 g, .int .i64 cap] 30)).set_other (p := ⟨xb, 0, none⟩) (fun h => HPO.out.2.2 h.symm) _).set_other (p := ⟨xb, 1, none⟩) (fun h => HPO.out.2.2 h.symm) _).set_other (p := ⟨xb, 2, none⟩) (fun h => HPO.out.2.2 h.symm) _))
            have HPA := Lib.hid (HPO.out.1.no (H1.out.1.alloc (.cells #[.slice A n c, .int .i64 g, .int .i64 cap] 30)))
            have z0 := HPA.out.bx.cell 0
            have z1 := HPA.out.bx.cell 1
            have z2 := HPA.out.bx.cell 2
            have z3 := HPA.out.bx.frozen 0
            have z4 := HPA.out.bx.frozen 1
            have z5 := HPA.out.bx.frozen 2
            have z6 := HPA.out.bx.lt
            simp only [List.getElem?_cons_zero, List.getElem?_cons_succ] at z0 z1 z2
            clear a1 a2 a3 a4 a5 a6 a7 x0 x1 x2 k0 k1 k2 k3 k4 k5 k6 k7 hob
            go_upto_region 21 with fail
            clear z0 z1 z2 z3 z4 z5 z6 HPA
            generalize ((((w1.alloc (.cells #[.slice A n c, .int .i64 g, .int .i64 cap] 30)).setCell ⟨xb, 0, none⟩ (.slice A n c)).setCell ⟨xb, 1, none⟩ (.int .i64 g)).setCell ⟨xb, 2, none⟩ (.int .i64 cap)) = w2 at *
            have a1 := HOB.out.cell 1
            have a2 := HOB.out.cell 2
            have a3 := HOB.out.cell 3
            have a4 := HOB.out.cell 4
            have a5 := HOB.out.cell 5
            have a6 := HOB.out.cell 6
            have a7 := HOB.out.cell 7
            simp only [List.getElem?_cons_zero, List.getElem?_cons_succ] at a1 a2 a3 a4 a5 a6 a7
            go_wp2_with fail
            refine (HB.out _ HPP.out).mono ?_
            rintro e w3 ⟨rfl, p3⟩
            have P3 := Lib.hid p3
            clear p3 HB HPP HOB a1 a2 a3 a4 a5 a6 a7 H1
            have HQ1 := Lib.hid (fun w' (h : Ch No w3 w') => pyLen (P3.out.no h))
            have HQ2 := Lib.hid (fun w' (h : Ch No w3 w') => pyFirst (P3.out.no h) (by omega) ((g : Int) + 1) rfl)
            have HQ3 := Lib.hid (fun w' (h : Ch No w3 w') => pyNext (P3.out.no h) (by omega) (by omega) ((n : Int) + 1) (by omega))
            obtain ⟨fb, hfb⟩ : ∃ fb, decide (m = cap) = fb := ⟨_, rfl⟩
            have HQ4 := Lib.hid (fun w' (h : Ch No w3 w') => pyFull (P3.out.no h) fb hfb)
            have hfe : ((m : Int) == (cap : Int)) = fb := by rw [← hfb]; exact beq_nat _ _
            have e1 : IntKind.i64.wrap ((n : Int) - (g : Int)) = (m : Int) := by rw [IntWalk.i64_in _ (by omega)]; omega
            have e2 : IntKind.i64.wrap ((g : Int) + 1) = (g : Int) + 1 := IntWalk.i64_in _ (by omega)
            have e3 : IntKind.i64.wrap ((n : Int) + 1) = (n : Int) + 1 := IntWalk.i64_in _ (by omega)
            have HGM := Lib.hid hgm
            clear hgm hfb
            have y0 := in_cell (P3.out.bx.cell 0)
            have y1 := in_cell (P3.out.bx.cell 1)
            go_wp2_with fail
            (refine wp_region_in (Ch No _) (by kernel_rfl) (by kernel_rfl) (Ch.refl _ _) (fun _ h => ch_drawn h) ?_)
            repeat (go_big_quiet_step (with_reducible first | exact in_chp HQ1.out | exact in_chp HQ2.out | exact in_chp HQ3.out | exact in_chp HQ4.out))
            (refine wpQuiet_nil ?_; intro wq0 hw'; obtain ⟨pw, hw''⟩ := hw'; subst hw'')
            have HW := Lib.hid (P3.out.no pw.h)
            generalize pw.w = w4 at *
            clear pw y0 y1 hfe e1 e2 e3 HQ1 HQ2 HQ3 HQ4
            go_wp2_with fail
            go_roundw
            case rel => exact ⟨pre ++ [⟨0, nn, x⟩], post, L, A, c, p + 1, m, g, n, Lib.hid ⟨by rw [hxp.out.1]; simp, by simp [hxp.out.2.1], by have := HC.out.2.2.1; omega, HC.out.1, HC.out.2.1⟩, by simp, HW⟩
            case measure => simp [intOf]; omega
          | true =>
            by_cases hfl : m = cap
            · have hkk : (cap : Int) ≤ (n : Int) - g := by omega
              have HA := Lib.hid (fun w => RAdd_full (A := A) (c := c) x hox hkk (by omega) (by omega) w)
              have HB := Lib.hid (fun w' (h : Py W w' jb xb cap m g (L.drop g) n g L A c) => pyAddFull h x hox hfl)
              unfold RJv Ent.val at HA
              unfold Ent.val at HB
              clear hox hkk hfl
              go_wp2_with fail
              refine (HA.out _).mono ?_
              rintro e w1 ⟨rfl, h1⟩
              have H1 := Lib.hid (And.intro h1 trivial)
              clear h1 HA
              have HPP := Lib.hid (HPO.out.1.put (H1.out.1.alloc (.cells #[.slice A n c, .int .i64 g, .int .i64 cap] 30)) (n' := n) (g' := g) (c' := c) HPO.out.1.nn (HPO.out.1.rw.no (H1.out.1.alloc _)) (fun a ha => .inr ha))
              have HOB : Hid (Blk ((((w1.alloc (.cells #[.slice A n c, .int .i64 g, .int .i64 cap] 30)).setCell ⟨xb, 0, none⟩ (.slice A n c)).setCell ⟨xb, 1, none⟩ (.int .i64 g)).setCell ⟨xb, 2, none⟩ (.int .i64 cap)) ob 34 [.int .i64 0, .int .i64 nn, .int .i64 x.t, .int .i64 x.arg, .int .i64 x.tenant, .int .i64 x.person, .int .i64 x.kind, .int .i64 x.code]) := Lib.hid ((((((HPO.out.2.1.ch H1.out.1 (fun h => h)).alloc (.cells #[.slice A n c, .int .i64 g, .int .i64 cap] 30)).set_other (p := ⟨xb, 0, none⟩) (fun h => HPO.out.2.2 h.symm) _).set_other (p := ⟨xb, 1, none⟩) (fun h => HPO.out.2.2 h.symm) _).set_other (p := ⟨xb, 2, none⟩) (fun h => HPO.out.2.2 h.symm) _))
              have HPA := Lib.hid (HPO.out.1.no (H1.out.1.alloc (.cells #[.slice A n c, .int .i64 g, .int .i64 cap] 30)))
              have z0 := HPA.out.bx.cell 0
              have z1 := HPA.out.bx.cell 1
              have z2 := HPA.out.bx.cell 2
              have z3 := HPA.out.bx.frozen 0
              have z4 := HPA.out.bx.frozen 1
              have z5 := HPA.out.bx.frozen 2
              have z6 := HPA.out.bx.lt
              simp only [List.getElem?_cons_zero, List.getElem?_cons_succ] at z0 z1 z2
              clear a1 a2 a3 a4 a5 a6 a7 x0 x1 x2 k0 k1 k2 k3 k4 k5 k6 k7 hob
              go_upto_region 21 with fail
              clear z0 z1 z2 z3 z4 z5 z6 HPA
              generalize ((((w1.alloc (.cells #[.slice A n c, .int .i64 g, .int .i64 cap] 30)).setCell ⟨xb, 0, none⟩ (.slice A n c)).setCell ⟨xb, 1, none⟩ (.int .i64 g)).setCell ⟨xb, 2, none⟩ (.int .i64 cap)) = w2 at *
              have a1 := HOB.out.cell 1
              have a2 := HOB.out.cell 2
              have a3 := HOB.out.cell 3
              have a4 := HOB.out.cell 4
              have a5 := HOB.out.cell 5
              have a6 := HOB.out.cell 6
              have a7 := HOB.out.cell 7
              simp only [List.getElem?_cons_zero, List.getElem?_cons_succ] at a1 a2 a3 a4 a5 a6 a7
              go_wp2_with fail
              refine (HB.out _ HPP.out).mono ?_
              rintro e w3 ⟨rfl, p3⟩
              have P3 := Lib.hid p3
              clear p3 HB HPP HOB a1 a2 a3 a4 a5 a6 a7 H1
              have HQ1 := Lib.hid (fun w' (h : Ch No w3 w') => pyLen (P3.out.no h))
              have HQ2 := Lib.hid (fun w' (h : Ch No w3 w') => pyFirst (P3.out.no h) (by omega) ((g : Int) + 1) rfl)
              have HQ3 := Lib.hid (fun w' (h : Ch No w3 w') => pyNext (P3.out.no h) (by omega) (by omega) ((n : Int) + 1) (by omega))
              obtain ⟨fb, hfb⟩ : ∃ fb, decide (m = cap) = fb := ⟨_, rfl⟩
              have HQ4 := Lib.hid (fun w' (h : Ch No w3 w') => pyFull (P3.out.no h) fb hfb)
              have hfe : ((m : Int) == (cap : Int)) = fb := by rw [← hfb]; exact beq_nat _ _
              have e1 : IntKind.i64.wrap ((n : Int) - (g : Int)) = (m : Int) := by rw [IntWalk.i64_in _ (by omega)]; omega
              have e2 : IntKind.i64.wrap ((g : Int) + 1) = (g : Int) + 1 := IntWalk.i64_in _ (by omega)
              have e3 : IntKind.i64.wrap ((n : Int) + 1) = (n : Int) + 1 := IntWalk.i64_in _ (by omega)
              have HGM := Lib.hid hgm
              clear hgm hfb
              have y0 := in_cell (P3.out.bx.cell 0)
              have y1 := in_cell (P3.out.bx.cell 1)
              go_wp2_with fail
              (refine wp_region_in (Ch No _) (by kernel_rfl) (by kernel_rfl) (Ch.refl _ _) (fun _ h => ch_drawn h) ?_)
              repeat (go_big_quiet_step (with_reducible first | exact in_chp HQ1.out | exact in_chp HQ2.out | exact in_chp HQ3.out | exact in_chp HQ4.out))
              (refine wpQuiet_nil ?_; intro wq0 hw'; obtain ⟨pw, hw''⟩ := hw'; subst hw'')
              have HW := Lib.hid (P3.out.no pw.h)
              generalize pw.w = w4 at *
              clear pw y0 y1 hfe e1 e2 e3 HQ1 HQ2 HQ3 HQ4
              go_wp2_with fail
              go_roundw
              case rel => exact ⟨pre ++ [⟨0, nn, x⟩], post, L, A, c, p + 1, m, g, n, Lib.hid ⟨by rw [hxp.out.1]; simp, by simp [hxp.out.2.1], by have := HC.out.2.2.1; omega, HC.out.1, HC.out.2.1⟩, by simp, HW⟩
              case measure => simp [intOf]; omega
            · have hkk : (n : Int) - g < cap := by have := HC.out.2.1; omega
              obtain ⟨n1, hn1⟩ : ∃ n1, n + 1 = n1 := ⟨_, rfl⟩
              obtain ⟨m1, hm1⟩ : ∃ m1, m + 1 = m1 := ⟨_, rfl⟩
              have hnz : (n : Int) + 1 = (n1 : Int) := by omega
              have HLD : Hid (L.drop g ++ [x] = (L ++ [x]).drop g) := Lib.hid (by rw [List.drop_append_of_le_length (by have := HC.out.2.2.2; omega)])
              have HA := Lib.hid (fun w' (h : Rws w' A 6 (L.map Ent.enc)) => by have := RAdd_ok (c := c) (gone := g) (cap := cap) h HC.out.2.2.2 x hox hkk (by omega) (by omega); unfold RNew at this; rw [hn1, hnz] at this; exact this)
              have HB := Lib.hid (fun A' c' w' (h : Py W w' jb xb cap m g (L.drop g) n1 g (L ++ [x]) A' c') => by have := pyAddOk h x hox hfl (by omega) (by omega) (n1 : Int) (by omega); rw [hm1, HLD.out] at this; exact this)
              have HLX : Hid ((L ++ [x]).length = n1) := Lib.hid (by rw [List.length_append, HC.out.2.2.2]; exact hn1)
              have HM1 : Hid (g + m1 = n1 ∧ m1 ≤ cap ∧ n1 ≤ p + 1) := Lib.hid ⟨by omega, by have := HC.out.2.1; omega, by have := HC.out.2.2.1; omega⟩
              have hn61 : n1 ≤ 61 := by omega
              have hm61 : m1 ≤ 61 := by omega
              unfold RJv Ent.val at HA
              unfold Ent.val at HB
              clear hox hkk hfl hn1 hm1 hnz hgm
              go_wp2_with fail
              refine (HA.out _ HPO.out.1.rw).mono ?_
              rintro e w1 ⟨A1, c1, rfl, r1, r2, h1⟩
              have H1 := Lib.hid (And.intro h1 (And.intro r1 r2))
              clear h1 r1 r2 HA
              have HPP := Lib.hid (HPO.out.1.put (H1.out.1.alloc (.cells #[.slice A1 n1 c1, .int .i64 g, .int .i64 cap] 30)) (n' := n1) (g' := g) (c' := c1) HLX.out (H1.out.2.1.no ((Ch.refl No w1).alloc _)) (fun a ha => .inl ⟨(H1.out.2.2 a ha).1, by have := (H1.out.2.2 a ha).2; simp; omega⟩))
              have HOB : Hid (Blk ((((w1.alloc (.cells #[.slice A1 n1 c1, .int .i64 g, .int .i64 cap] 30)).setCell ⟨xb, 0, none⟩ (.slice A1 n1 c1)).setCell ⟨xb, 1, none⟩ (.int .i64 g)).setCell ⟨xb, 2, none⟩ (.int .i64 cap)) ob 34 [.int .i64 0, .int .i64 nn, .int .i64 x.t, .int .i64 x.arg, .int .i64 x.tenant, .int .i64 x.person, .int .i64 x.kind, .int .i64 x.code]) := Lib.hid ((((((HPO.out.2.1.ch H1.out.1 (fun h => h)).alloc (.cells #[.slice A1 n1 c1, .int .i64 g, .int .i64 cap] 30)).set_other (p := ⟨xb, 0, none⟩) (fun h => HPO.out.2.2 h.symm) _).set_other (p := ⟨xb, 1, none⟩) (fun h => HPO.out.2.2 h.symm) _).set_other (p := ⟨xb, 2, none⟩) (fun h => HPO.out.2.2 h.symm) _))
              have HPA := Lib.hid (HPO.out.1.no (H1.out.1.alloc (.cells #[.slice A1 n1 c1, .int .i64 g, .int .i64 cap] 30)))
              have z0 := HPA.out.bx.cell 0
              have z1 := HPA.out.bx.cell 1
              have z2 := HPA.out.bx.cell 2
              have z3 := HPA.out.bx.frozen 0
              have z4 := HPA.out.bx.frozen 1
              have z5 := HPA.out.bx.frozen 2
              have z6 := HPA.out.bx.lt
              simp only [List.getElem?_cons_zero, List.getElem?_cons_succ] at z0 z1 z2
              clear a1 a2 a3 a4 a5 a6 a7 x0 x1 x2 k0 k1 k2 k3 k4 k5 k6 k7 hob
              go_upto_region 21 with fail
              clear z0 z1 z2 z3 z4 z5 z6 HPA
              generalize ((((w1.alloc (.cells #[.slice A1 n1 c1, .int .i64 g, .int .i64 cap] 30)).setCell ⟨xb, 0, none⟩ (.slice A1 n1 c1)).setCell ⟨xb, 1, none⟩ (.int .i64 g)).setCell ⟨xb, 2, none⟩ (.int .i64 cap)) = w2 at *
              have a1 := HOB.out.cell 1
              have a2 := HOB.out.cell 2
              have a3 := HOB.out.cell 3
              have a4 := HOB.out.cell 4
              have a5 := HOB.out.cell 5
              have a6 := HOB.out.cell 6
              have a7 := HOB.out.cell 7
              simp only [List.getElem?_cons_zero, List.getElem?_cons_succ] at a1 a2 a3 a4 a5 a6 a7
              go_wp2_with fail
              refine (HB.out _ _ _ HPP.out).mono ?_
              rintro e w3 ⟨rfl, p3⟩
              have P3 := Lib.hid p3
              have hgm := HM1.out.1
              clear p3 HB HPP HOB a1 a2 a3 a4 a5 a6 a7 H1
              have HQ1 := Lib.hid (fun w' (h : Ch No w3 w') => pyLen (P3.out.no h))
              have HQ2 := Lib.hid (fun w' (h : Ch No w3 w') => pyFirst (P3.out.no h) (by omega) ((g : Int) + 1) rfl)
              have HQ3 := Lib.hid (fun w' (h : Ch No w3 w') => pyNext (P3.out.no h) (by omega) (by omega) ((n1 : Int) + 1) (by omega))
              obtain ⟨fb, hfb⟩ : ∃ fb, decide (m1 = cap) = fb := ⟨_, rfl⟩
              have HQ4 := Lib.hid (fun w' (h : Ch No w3 w') => pyFull (P3.out.no h) fb hfb)
              have hfe : ((m1 : Int) == (cap : Int)) = fb := by rw [← hfb]; exact beq_nat _ _
              have e1 : IntKind.i64.wrap ((n1 : Int) - (g : Int)) = (m1 : Int) := by rw [IntWalk.i64_in _ (by omega)]; omega
              have e2 : IntKind.i64.wrap ((g : Int) + 1) = (g : Int) + 1 := IntWalk.i64_in _ (by omega)
              have e3 : IntKind.i64.wrap ((n1 : Int) + 1) = (n1 : Int) + 1 := IntWalk.i64_in _ (by omega)
              have HGM := Lib.hid hgm
              clear hgm hfb
              have y0 := in_cell (P3.out.bx.cell 0)
              have y1 := in_cell (P3.out.bx.cell 1)
              go_wp2_with fail
              (refine wp_region_in (Ch No _) (by kernel_rfl) (by kernel_rfl) (Ch.refl _ _) (fun _ h => ch_drawn h) ?_)
              repeat (go_big_quiet_step (with_reducible first | exact in_chp HQ1.out | exact in_chp HQ2.out | exact in_chp HQ3.out | exact in_chp HQ4.out))
              (refine wpQuiet_nil ?_; intro wq0 hw'; obtain ⟨pw, hw''⟩ := hw'; subst hw'')
              have HW := Lib.hid (P3.out.no pw.h)
              generalize pw.w = w4 at *
              clear pw y0 y1 hfe e1 e2 e3 HQ1 HQ2 HQ3 HQ4
              go_wp2_with fail
              go_roundw
              case rel => exact ⟨pre ++ [⟨0, nn, x⟩], post, (L ++ [x]), A1, c1, p + 1, m1, g, n1, Lib.hid ⟨by rw [hxp.out.1]; simp, by simp [hxp.out.2.1], by have := HM1.out.2.2; omega, HM1.out.1, HM1.out.2.1⟩, by simp, HW⟩
              case measure => simp [intOf]; omega
      by_cases h1 : kd = 1
      · subst h1
        as_aux_lemma =>
          cases hox : okE x with
          | false =>
            have HA := Lib.hid (fun w => RAdd_bad (A := A) (c := c) (n := n) (gone := g) (cap := cap) x hox w)
            have HB := Lib.hid (fun w' (h : Py W w' jb xb cap m g (L.drop g) n g L A c) => pyAddBad h x hox)
            unfold RJv Ent.val at HA
            unfold Ent.val at HB
            clear hox
            go_wp2_with fail
            refine (HA.out _).mono ?_
            rintro e w1 ⟨rfl, h1⟩
            have H1 := Lib.hid (And.intro h1 trivial)
            clear h1 HA
            have HPP := Lib.hid (HPO.out.1.put (H1.out.1.alloc (.cells #[.slice A n c, .int .i64 g, .int .i64 cap] 30)) (n' := n) (g' := g) (c' := c) HPO.out.1.nn (HPO.out.1.rw.no (H1.out.1.alloc _)) (fun a ha => .inr ha))
            have HOB : Hid (Blk ((((w1.alloc (.cells #[.slice A n c, .int .i64 g, .int .i64 cap] 30)).setCell ⟨xb, 0, none⟩ (.slice A n c)).setCell ⟨xb, 1, none⟩ (.int .i64 g)).setCell ⟨xb, 2, none⟩ (.int .i64 cap)) ob 34 [.int .i64 1, .int .i64 nn, .int .i64 x.t, .int .i64 x.arg, .int .i64 x.tenant, .int .i64 x.person, .int .i64 x.kind, .int .i64 x.code]) := Lib.hid ((((((HPO.out.2.1.ch H1.out.1 (fun h => h)).alloc (.cells #[.slice A n c, .int .i64 g, .int .i64 cap] 30)).set_other (p := ⟨xb, 0, none⟩) (fun h => HPO.out.2.2 h.symm) _).set_other (p := ⟨xb, 1, none⟩) (fun h => HPO.out.2.2 h.symm) _).set_other (p := ⟨xb, 2, none⟩) (fun h => HPO.out.2.2 h.symm) _))
            have HPA := Lib.hid (HPO.out.1.no (H1.out.1.alloc (.cells #[.slice A n c, .int .i64 g, .int .i64 cap] 30)))
            have z0 := HPA.out.bx.cell 0
            have z1 := HPA.out.bx.cell 1
            have z2 := HPA.out.bx.cell 2
            have z3 := HPA.out.bx.frozen 0
            have z4 := HPA.out.bx.frozen 1
            have z5 := HPA.out.bx.frozen 2
            have z6 := HPA.out.bx.lt
            simp only [List.getElem?_cons_zero, List.getElem?_cons_succ] at z0 z1 z2
            clear a1 a2 a3 a4 a5 a6 a7 x0 x1 x2 k0 k1 k2 k3 k4 k5 k6 k7 hob
            go_upto_region 21 with fail
            clear z0 z1 z2 z3 z4 z5 z6 HPA
            generalize ((((w1.alloc (.cells #[.slice A n c, .int .i64 g, .int .i64 cap] 30)).setCell ⟨xb, 0, none⟩ (.slice A n c)).setCell ⟨xb, 1, none⟩ (.int .i64 g)).setCell ⟨xb, 2, none⟩ (.int .i64 cap)) = w2 at *
            have a1 := HOB.out.cell 1
            have a2 := HOB.out.cell 2
            have a3 := HOB.out.cell 3
            have a4 := HOB.out.cell 4
            have a5 := HOB.out.cell 5
            have a6 := HOB.out.cell 6
            have a7 := HOB.out.cell 7
            simp only [List.getElem?_cons_zero, List.getElem?_cons_succ] at a1 a2 a3 a4 a5 a6 a7
            go_wp2_with fail
            refine (HB.out _ HPP.out).mono ?_
            rintro e w3 ⟨rfl, p3⟩
            have P3 := Lib.hid p3
            clear p3 HB HPP HOB a1 a2 a3 a4 a5 a6 a7 H1
            have HQ1 := Lib.hid (fun w' (h : Ch No w3 w') => pyLen (P3.out.no h))
            have HQ2 := Lib.hid (fun w' (h : Ch No w3 w') => pyFirst (P3.out.no h) (by omega) ((g : Int) + 1) rfl)
            have HQ3 := Lib.hid (fun w' (h : Ch No w3 w') => pyNext (P3.out.no h) (by omega) (by omega) ((n : Int) + 1) (by omega))
            obtain ⟨fb, hfb⟩ : ∃ fb, decide (m = cap) = fb := ⟨_, rfl⟩
            have HQ4 := Lib.hid (fun w' (h : Ch No w3 w') => pyFull (P3.out.no h) fb hfb)
            have hfe : ((m : Int) == (cap : Int)) = fb := by rw [← hfb]; exact beq_nat _ _
            have e1 : IntKind.i64.wrap ((n : Int) - (g : Int)) = (m : Int) := by rw [IntWalk.i64_in _ (by omega)]; omega
            have e2 : IntKind.i64.wrap ((g : Int) + 1) = (g : Int) + 1 := IntWalk.i64_in _ (by omega)
            have e3 : IntKind.i64.wrap ((n : Int) + 1) = (n : Int) + 1 := IntWalk.i64_in _ (by omega)
            have HGM := Lib.hid hgm
            clear hgm hfb
            have y0 := in_cell (P3.out.bx.cell 0)
            have y1 := in_cell (P3.out.bx.cell 1)
            go_wp2_with fail
            (refine wp_region_in (Ch No _) (by kernel_rfl) (by kernel_rfl) (Ch.refl _ _) (fun _ h => ch_drawn h) ?_)
            repeat (go_big_quiet_step (with_reducible first | exact in_chp HQ1.out | exact in_chp HQ2.out | exact in_chp HQ3.out | exact in_chp HQ4.out))
            (refine wpQuiet_nil ?_; intro wq0 hw'; obtain ⟨pw, hw''⟩ := hw'; subst hw'')
            have HW := Lib.hid (P3.out.no pw.h)
            generalize pw.w = w4 at *
            clear pw y0 y1 hfe e1 e2 e3 HQ1 HQ2 HQ3 HQ4
            go_wp2_with fail
            go_roundw
            case rel => exact ⟨pre ++ [⟨1, nn, x⟩], post, L, A, c, p + 1, m, g, n, Lib.hid ⟨by rw [hxp.out.1]; simp, by simp [hxp.out.2.1], by have := HC.out.2.2.1; omega, HC.out.1, HC.out.2.1⟩, by simp, HW⟩
            case measure => simp [intOf]; omega
          | true =>
            by_cases hfl : m = cap
            · have hkk : (cap : Int) ≤ (n : Int) - g := by omega
              have HA := Lib.hid (fun w => RAdd_full (A := A) (c := c) x hox hkk (by omega) (by omega) w)
              have HB := Lib.hid (fun w' (h : Py W w' jb xb cap m g (L.drop g) n g L A c) => pyAddFull h x hox hfl)
              unfold RJv Ent.val at HA
              unfold Ent.val at HB
              clear hox hkk hfl
              go_wp2_with fail
              refine (HA.out _).mono ?_
              rintro e w1 ⟨rfl, h1⟩
              have H1 := Lib.hid (And.intro h1 trivial)
              clear h1 HA
              have HPP := Lib.hid (HPO.out.1.put (H1.out.1.alloc (.cells #[.slice A n c, .int .i64 g, .int .i64 cap] 30)) (n' := n) (g' := g) (c' := c) HPO.out.1.nn (HPO.out.1.rw.no (H1.out.1.alloc _)) (fun a ha => .inr ha))
              have HOB : Hid (Blk ((((w1.alloc (.cells #[.slice A n c, .int .i64 g, .int .i64 cap] 30)).setCell ⟨xb, 0, none⟩ (.slice A n c)).setCell ⟨xb, 1, none⟩ (.int .i64 g)).setCell ⟨xb, 2, none⟩ (.int .i64 cap)) ob 34 [.int .i64 1, .int .i64 nn, .int .i64 x.t, .int .i64 x.arg, .int .i64 x.tenant, .int .i64 x.person, .int .i64 x.kind, .int .i64 x.code]) := Lib.hid ((((((HPO.out.2.1.ch H1.out.1 (fun h => h)).alloc (.cells #[.slice A n c, .int .i64 g, .int .i64 cap] 30)).set_other (p := ⟨xb, 0, none⟩) (fun h => HPO.out.2.2 h.symm) _).set_other (p := ⟨xb, 1, none⟩) (fun h => HPO.out.2.2 h.symm) _).set_other (p := ⟨xb, 2, none⟩) (fun h => HPO.out.2.2 h.symm) _))
              have HPA := Lib.hid (HPO.out.1.no (H1.out.1.alloc (.cells #[.slice A n c, .int .i64 g, .int .i64 cap] 30)))
              have z0 := HPA.out.bx.cell 0
              have z1 := HPA.out.bx.cell 1
              have z2 := HPA.out.bx.cell 2
              have z3 := HPA.out.bx.frozen 0
              have z4 := HPA.out.bx.frozen 1
              have z5 := HPA.out.bx.frozen 2
              have z6 := HPA.out.bx.lt
              simp only [List.getElem?_cons_zero, List.getElem?_cons_succ] at z0 z1 z2
              clear a1 a2 a3 a4 a5 a6 a7 x0 x1 x2 k0 k1 k2 k3 k4 k5 k6 k7 hob
              go_upto_region 21 with fail
              clear z0 z1 z2 z3 z4 z5 z6 HPA
              generalize ((((w1.alloc (.cells #[.slice A n c, .int .i64 g, .int .i64 cap] 30)).setCell ⟨xb, 0, none⟩ (.slice A n c)).setCell ⟨xb, 1, none⟩ (.int .i64 g)).setCell ⟨xb, 2, none⟩ (.int .i64 cap)) = w2 at *
              have a1 := HOB.out.cell 1
              have a2 := HOB.out.cell 2
              have a3 := HOB.out.cell 3
              have a4 := HOB.out.cell 4
              have a5 := HOB.out.cell 5
              have a6 := HOB.out.cell 6
              have a7 := HOB.out.cell 7
              simp only [List.getElem?_cons_zero, List.getElem?_cons_succ] at a1 a2 a3 a4 a5 a6 a7
              go_wp2_with fail
              refine (HB.out _ HPP.out).mono ?_
              rintro e w3 ⟨rfl, p3⟩
              have P3 := Lib.hid p3
              clear p3 HB HPP HOB a1 a2 a3 a4 a5 a6 a7 H1
              have HQ1 := Lib.hid (fun w' (h : Ch No w3 w') => pyLen (P3.out.no h))
              have HQ2 := Lib.hid (fun w' (h : Ch No w3 w') => pyFirst (P3.out.no h) (by omega) ((g : Int) + 1) rfl)
              have HQ3 := Lib.hid (fun w' (h : Ch No w3 w') => pyNext (P3.out.no h) (by omega) (by omega) ((n : Int) + 1) (by omega))
              obtain ⟨fb, hfb⟩ : ∃ fb, decide (m = cap) = fb := ⟨_, rfl⟩
              have HQ4 := Lib.hid (fun w' (h : Ch No w3 w') => pyFull (P3.out.no h) fb hfb)
              have hfe : ((m : Int) == (cap : Int)) = fb := by rw [← hfb]; exact beq_nat _ _
              have e1 : IntKind.i64.wrap ((n : Int) - (g : Int)) = (m : Int) := by rw [IntWalk.i64_in _ (by omega)]; omega
              have e2 : IntKind.i64.wrap ((g : Int) + 1) = (g : Int) + 1 := IntWalk.i64_in _ (by omega)
              have e3 : IntKind.i64.wrap ((n : Int) + 1) = (n : Int) + 1 := IntWalk.i64_in _ (by omega)
              have HGM := Lib.hid hgm
              clear hgm hfb
              have y0 := in_cell (P3.out.bx.cell 0)
              have y1 := in_cell (P3.out.bx.cell 1)
              go_wp2_with fail
              (refine wp_region_in (Ch No _) (by kernel_rfl) (by kernel_rfl) (Ch.refl _ _) (fun _ h => ch_drawn h) ?_)
              repeat (go_big_quiet_step (with_reducible first | exact in_chp HQ1.out | exact in_chp HQ2.out | exact in_chp HQ3.out | exact in_chp HQ4.out))
              (refine wpQuiet_nil ?_; intro wq0 hw'; obtain ⟨pw, hw''⟩ := hw'; subst hw'')
              have HW := Lib.hid (P3.out.no pw.h)
              generalize pw.w = w4 at *
              clear pw y0 y1 hfe e1 e2 e3 HQ1 HQ2 HQ3 HQ4
              go_wp2_with fail
              go_roundw
              case rel => exact ⟨pre ++ [⟨1, nn, x⟩], post, L, A, c, p + 1, m, g, n, Lib.hid ⟨by rw [hxp.out.1]; simp, by simp [hxp.out.2.1], by have := HC.out.2.2.1; omega, HC.out.1, HC.out.2.1⟩, by simp, HW⟩
              case measure => simp [intOf]; omega
            · have hkk : (n : Int) - g < cap := by have := HC.out.2.1; omega
              obtain ⟨n1, hn1⟩ : ∃ n1, n + 1 = n1 := ⟨_, rfl⟩
              obtain ⟨m1, hm1⟩ : ∃ m1, m + 1 = m1 := ⟨_, rfl⟩
              have hnz : (n : Int) + 1 = (n1 : Int) := by omega
              have HLD : Hid (L.drop g ++ [x] = (L ++ [x]).drop g) := Lib.hid (by rw [List.drop_append_of_le_length (by have := HC.out.2.2.2; omega)])
              have HA := Lib.hid (fun w' (h : Rws w' A 6 (L.map Ent.enc)) => by have := RAdd_ok (c := c) (gone := g) (cap := cap) h HC.out.2.2.2 x hox hkk (by omega) (by omega); unfold RNew at this; rw [hn1, hnz] at this; exact this)
              have HB := Lib.hid (fun A' c' w' (h : Py W w' jb xb cap m g (L.drop g) n1 g (L ++ [x]) A' c') => by have := pyAddOk h x hox hfl (by omega) (by omega) (n1 : Int) (by omega); rw [hm1, HLD.out] at this; exact this)
              have HLX : Hid ((L ++ [x]).length = n1) := Lib.hid (by rw [List.length_append, HC.out.2.2.2]; exact hn1)
              have HM1 : Hid (g + m1 = n1 ∧ m1 ≤ cap ∧ n1 ≤ p + 1) := Lib.hid ⟨by omega, by have := HC.out.2.1; omega, by have := HC.out.2.2.1; omega⟩
              have hn61 : n1 ≤ 61 := by omega
              have hm61 : m1 ≤ 61 := by omega
              unfold RJv Ent.val at HA
              unfold Ent.val at HB
              clear hox hkk hfl hn1 hm1 hnz hgm
              go_wp2_with fail
              refine (HA.out _ HPO.out.1.rw).mono ?_
              rintro e w1 ⟨A1, c1, rfl, r1, r2, h1⟩
              have H1 := Lib.hid (And.intro h1 (And.intro r1 r2))
              clear h1 r1 r2 HA
              have HPP := Lib.hid (HPO.out.1.put (H1.out.1.alloc (.cells #[.slice A1 n1 c1, .int .i64 g, .int .i64 cap] 30)) (n' := n1) (g' := g) (c' := c1) HLX.out (H1.out.2.1.no ((Ch.refl No w1).alloc _)) (fun a ha => .inl ⟨(H1.out.2.2 a ha).1, by have := (H1.out.2.2 a ha).2; simp; omega⟩))
              have HOB : Hid (Blk ((((w1.alloc (.cells #[.slice A1 n1 c1, .int .i64 g, .int .i64 cap] 30)).setCell ⟨xb, 0, none⟩ (.slice A1 n1 c1)).setCell ⟨xb, 1, none⟩ (.int .i64 g)).setCell ⟨xb, 2, none⟩ (.int .i64 cap)) ob 34 [.int .i64 1, .int .i64 nn, .int .i64 x.t, .int .i64 x.arg, .int .i64 x.tenant, .int .i64 x.person, .int .i64 x.kind, .int .i64 x.code]) := Lib.hid ((((((HPO.out.2.1.ch H1.out.1 (fun h => h)).alloc (.cells #[.slice A1 n1 c1, .int .i64 g, .int .i64 cap] 30)).set_other (p := ⟨xb, 0, none⟩) (fun h => HPO.out.2.2 h.symm) _).set_other (p := ⟨xb, 1, none⟩) (fun h => HPO.out.2.2 h.symm) _).set_other (p := ⟨xb, 2, none⟩) (fun h => HPO.out.2.2 h.symm) _))
              have HPA := Lib.hid (HPO.out.1.no (H1.out.1.alloc (.cells #[.slice A1 n1 c1, .int .i64 g, .int .i64 cap] 30)))
              have z0 := HPA.out.bx.cell 0
              have z1 := HPA.out.bx.cell 1
              have z2 := HPA.out.bx.cell 2
              have z3 := HPA.out.bx.frozen 0
              have z4 := HPA.out.bx.frozen 1
              have z5 := HPA.out.bx.frozen 2
              have z6 := HPA.out.bx.lt
              simp only [List.getElem?_cons_zero, List.getElem?_cons_succ] at z0 z1 z2
              clear a1 a2 a3 a4 a5 a6 a7 x0 x1 x2 k0 k1 k2 k3 k4 k5 k6 k7 hob
              go_upto_region 21 with fail
              clear z0 z1 z2 z3 z4 z5 z6 HPA
              generalize ((((w1.alloc (.cells #[.slice A1 n1 c1, .int .i64 g, .int .i64 cap] 30)).setCell ⟨xb, 0, none⟩ (.slice A1 n1 c1)).setCell ⟨xb, 1, none⟩ (.int .i64 g)).setCell ⟨xb, 2, none⟩ (.int .i64 cap)) = w2 at *
              have a1 := HOB.out.cell 1
              have a2 := HOB.out.cell 2
              have a3 := HOB.out.cell 3
              have a4 := HOB.out.cell 4
              have a5 := HOB.out.cell 5
              have a6 := HOB.out.cell 6
              have a7 := HOB.out.cell 7
              simp only [List.getElem?_cons_zero, List.getElem?_cons_succ] at a1 a2 a3 a4 a5 a6 a7
              go_wp2_with fail
              refine (HB.out _ _ _ HPP.out).mono ?_
              rintro e w3 ⟨rfl, p3⟩
              have P3 := Lib.hid p3
              have hgm := HM1.out.1
              clear p3 HB HPP HOB a1 a2 a3 a4 a5 a6 a7 H1
              have HQ1 := Lib.hid (fun w' (h : Ch No w3 w') => pyLen (P3.out.no h))
              have HQ2 := Lib.hid (fun w' (h : Ch No w3 w') => pyFirst (P3.out.no h) (by omega) ((g : Int) + 1) rfl)
              have HQ3 := Lib.hid (fun w' (h : Ch No w3 w') => pyNext (P3.out.no h) (by omega) (by omega) ((n1 : Int) + 1) (by omega))
              obtain ⟨fb, hfb⟩ : ∃ fb, decide (m1 = cap) = fb := ⟨_, rfl⟩
              have HQ4 := Lib.hid (fun w' (h : Ch No w3 w') => pyFull (P3.out.no h) fb hfb)
              have hfe : ((m1 : Int) == (cap : Int)) = fb := by rw [← hfb]; exact beq_nat _ _
              have e1 : IntKind.i64.wrap ((n1 : Int) - (g : Int)) = (m1 : Int) := by rw [IntWalk.i64_in _ (by omega)]; omega
              have e2 : IntKind.i64.wrap ((g : Int) + 1) = (g : Int) + 1 := IntWalk.i64_in _ (by omega)
              have e3 : IntKind.i64.wrap ((n1 : Int) + 1) = (n1 : Int) + 1 := IntWalk.i64_in _ (by omega)
              have HGM := Lib.hid hgm
              clear hgm hfb
              have y0 := in_cell (P3.out.bx.cell 0)
              have y1 := in_cell (P3.out.bx.cell 1)
              go_wp2_with fail
              (refine wp_region_in (Ch No _) (by kernel_rfl) (by kernel_rfl) (Ch.refl _ _) (fun _ h => ch_drawn h) ?_)
              repeat (go_big_quiet_step (with_reducible first | exact in_chp HQ1.out | exact in_chp HQ2.out | exact in_chp HQ3.out | exact in_chp HQ4.out))
              (refine wpQuiet_nil ?_; intro wq0 hw'; obtain ⟨pw, hw''⟩ := hw'; subst hw'')
              have HW := Lib.hid (P3.out.no pw.h)
              generalize pw.w = w4 at *
              clear pw y0 y1 hfe e1 e2 e3 HQ1 HQ2 HQ3 HQ4
              go_wp2_with fail
              go_roundw
              case rel => exact ⟨pre ++ [⟨1, nn, x⟩], post, (L ++ [x]), A1, c1, p + 1, m1, g, n1, Lib.hid ⟨by rw [hxp.out.1]; simp, by simp [hxp.out.2.1], by have := HM1.out.2.2; omega, HM1.out.1, HM1.out.2.1⟩, by simp, HW⟩
              case measure => simp [intOf]; omega
      by_cases h2 : kd = 2
      · subst h2
        as_aux_lemma =>
          cases hox : okE x with
          | false =>
            have HA := Lib.hid (fun w => RAdd_bad (A := A) (c := c) (n := n) (gone := g) (cap := cap) x hox w)
            have HB := Lib.hid (fun w' (h : Py W w' jb xb cap m g (L.drop g) n g L A c) => pyAddBad h x hox)
            unfold RJv Ent.val at HA
            unfold Ent.val at HB
            clear hox
            go_wp2_with fail
            refine (HA.out _).mono ?_
            rintro e w1 ⟨rfl, h1⟩
            have H1 := Lib.hid (And.intro h1 trivial)
            clear h1 HA
            have HPP := Lib.hid (HPO.out.1.put (H1.out.1.alloc (.cells #[.slice A n c, .int .i64 g, .int .i64 cap] 30)) (n' := n) (g' := g) (c' := c) HPO.out.1.nn (HPO.out.1.rw.no (H1.out.1.alloc _)) (fun a ha => .inr ha))
            have HOB : Hid (Blk ((((w1.alloc (.cells #[.slice A n c, .int .i64 g, .int .i64 cap] 30)).setCell ⟨xb, 0, none⟩ (.slice A n c)).setCell ⟨xb, 1, none⟩ (.int .i64 g)).setCell ⟨xb, 2, none⟩ (.int .i64 cap)) ob 34 [.int .i64 2, .int .i64 nn, .int .i64 x.t, .int .i64 x.arg, .int .i64 x.tenant, .int .i64 x.person, .int .i64 x.kind, .int .i64 x.code]) := Lib.hid ((((((HPO.out.2.1.ch H1.out.1 (fun h => h)).alloc (.cells #[.slice A n c, .int .i64 g, .int .i64 cap] 30)).set_other (p := ⟨xb, 0, none⟩) (fun h => HPO.out.2.2 h.symm) _).set_other (p := ⟨xb, 1, none⟩) (fun h => HPO.out.2.2 h.symm) _).set_other (p := ⟨xb, 2, none⟩) (fun h => HPO.out.2.2 h.symm) _))
            have HPA := Lib.hid (HPO.out.1.no (H1.out.1.alloc (.cells #[.slice A n c, .int .i64 g, .int .i64 cap] 30)))
            have z0 := HPA.out.bx.cell 0
            have z1 := HPA.out.bx.cell 1
            have z2 := HPA.out.bx.cell 2
            have z3 := HPA.out.bx.frozen 0
            have z4 := HPA.out.bx.frozen 1
            have z5 := HPA.out.bx.frozen 2
            have z6 := HPA.out.bx.lt
            simp only [List.getElem?_cons_zero, List.getElem?_cons_succ] at z0 z1 z2
            clear a1 a2 a3 a4 a5 a6 a7 x0 x1 x2 k0 k1 k2 k3 k4 k5 k6 k7 hob
            go_upto_region 21 with fail
            clear z0 z1 z2 z3 z4 z5 z6 HPA
            generalize ((((w1.alloc (.cells #[.slice A n c, .int .i64 g, .int .i64 cap] 30)).setCell ⟨xb, 0, none⟩ (.slice A n c)).setCell ⟨xb, 1, none⟩ (.int .i64 g)).setCell ⟨xb, 2, none⟩ (.int .i64 cap)) = w2 at *
            have a1 := HOB.out.cell 1
            have a2 := HOB.out.cell 2
            have a3 := HOB.out.cell 3
            have a4 := HOB.out.cell 4
            have a5 := HOB.out.cell 5
            have a6 := HOB.out.cell 6
            have a7 := HOB.out.cell 7
            simp only [List.getElem?_cons_zero, List.getElem?_cons_succ] at a1 a2 a3 a4 a5 a6 a7
            go_wp2_with fail
            refine (HB.out _ HPP.out).mono ?_
            rintro e w3 ⟨rfl, p3⟩
            have P3 := Lib.hid p3
            clear p3 HB HPP HOB a1 a2 a3 a4 a5 a6 a7 H1
            have HQ1 := Lib.hid (fun w' (h : Ch No w3 w') => pyLen (P3.out.no h))
            have HQ2 := Lib.hid (fun w' (h : Ch No w3 w') => pyFirst (P3.out.no h) (by omega) ((g : Int) + 1) rfl)
            have HQ3 := Lib.hid (fun w' (h : Ch No w3 w') => pyNext (P3.out.no h) (by omega) (by omega) ((n : Int) + 1) (by omega))
            obtain ⟨fb, hfb⟩ : ∃ fb, decide (m = cap) = fb := ⟨_, rfl⟩
            have HQ4 := Lib.hid (fun w' (h : Ch No w3 w') => pyFull (P3.out.no h) fb hfb)
            have hfe : ((m : Int) == (cap : Int)) = fb := by rw [← hfb]; exact beq_nat _ _
            have e1 : IntKind.i64.wrap ((n : Int) - (g : Int)) = (m : Int) := by rw [IntWalk.i64_in _ (by omega)]; omega
            have e2 : IntKind.i64.wrap ((g : Int) + 1) = (g : Int) + 1 := IntWalk.i64_in _ (by omega)
            have e3 : IntKind.i64.wrap ((n : Int) + 1) = (n : Int) + 1 := IntWalk.i64_in _ (by omega)
            have HGM := Lib.hid hgm
            clear hgm hfb
            have y0 := in_cell (P3.out.bx.cell 0)
            have y1 := in_cell (P3.out.bx.cell 1)
            go_wp2_with fail
            (refine wp_region_in (Ch No _) (by kernel_rfl) (by kernel_rfl) (Ch.refl _ _) (fun _ h => ch_drawn h) ?_)
            repeat (go_big_quiet_step (with_reducible first | exact in_chp HQ1.out | exact in_chp HQ2.out | exact in_chp HQ3.out | exact in_chp HQ4.out))
            (refine wpQuiet_nil ?_; intro wq0 hw'; obtain ⟨pw, hw''⟩ := hw'; subst hw'')
            have HW := Lib.hid (P3.out.no pw.h)
            generalize pw.w = w4 at *
            clear pw y0 y1 hfe e1 e2 e3 HQ1 HQ2 HQ3 HQ4
            go_wp2_with fail
            go_roundw
            case rel => exact ⟨pre ++ [⟨2, nn, x⟩], post, L, A, c, p + 1, m, g, n, Lib.hid ⟨by rw [hxp.out.1]; simp, by simp [hxp.out.2.1], by have := HC.out.2.2.1; omega, HC.out.1, HC.out.2.1⟩, by simp, HW⟩
            case measure => simp [intOf]; omega
          | true =>
            by_cases hfl : m = cap
            · have hkk : (cap : Int) ≤ (n : Int) - g := by omega
              have HA := Lib.hid (fun w => RAdd_full (A := A) (c := c) x hox hkk (by omega) (by omega) w)
              have HB := Lib.hid (fun w' (h : Py W w' jb xb cap m g (L.drop g) n g L A c) => pyAddFull h x hox hfl)
              unfold RJv Ent.val at HA
              unfold Ent.val at HB
              clear hox hkk hfl
              go_wp2_with fail
              refine (HA.out _).mono ?_
              rintro e w1 ⟨rfl, h1⟩
              have H1 := Lib.hid (And.intro h1 trivial)
              clear h1 HA
              have HPP := Lib.hid (HPO.out.1.put (H1.out.1.alloc (.cells #[.slice A n c, .int .i64 g, .int .i64 cap] 30)) (n' := n) (g' := g) (c' := c) HPO.out.1.nn (HPO.out.1.rw.no (H1.out.1.alloc _)) (fun a ha => .inr ha))
              have HOB : Hid (Blk ((((w1.alloc (.cells #[.slice A n c, .int .i64 g, .int .i64 cap] 30)).setCell ⟨xb, 0, none⟩ (.slice A n c)).setCell ⟨xb, 1, none⟩ (.int .i64 g)).setCell ⟨xb, 2, none⟩ (.int .i64 cap)) ob 34 [.int .i64 2, .int .i64 nn, .int .i64 x.t, .int .i64 x.arg, .int .i64 x.tenant, .int .i64 x.person, .int .i64 x.kind, .int .i64 x.code]) := Lib.hid ((((((HPO.out.2.1.ch H1.out.1 (fun h => h)).alloc (.cells #[.slice A n c, .int .i64 g, .int .i64 cap] 30)).set_other (p := ⟨xb, 0, none⟩) (fun h => HPO.out.2.2 h.symm) _).set_other (p := ⟨xb, 1, none⟩) (fun h => HPO.out.2.2 h.symm) _).set_other (p := ⟨xb, 2, none⟩) (fun h => HPO.out.2.2 h.symm) _))
              have HPA := Lib.hid (HPO.out.1.no (H1.out.1.alloc (.cells #[.slice A n c, .int .i64 g, .int .i64 cap] 30)))
              have z0 := HPA.out.bx.cell 0
              have z1 := HPA.out.bx.cell 1
              have z2 := HPA.out.bx.cell 2
              have z3 := HPA.out.bx.frozen 0
              have z4 := HPA.out.bx.frozen 1
              have z5 := HPA.out.bx.frozen 2
              have z6 := HPA.out.bx.lt
              simp only [List.getElem?_cons_zero, List.getElem?_cons_succ] at z0 z1 z2
              clear a1 a2 a3 a4 a5 a6 a7 x0 x1 x2 k0 k1 k2 k3 k4 k5 k6 k7 hob
              go_upto_region 21 with fail
              clear z0 z1 z2 z3 z4 z5 z6 HPA
              generalize ((((w1.alloc (.cells #[.slice A n c, .int .i64 g, .int .i64 cap] 30)).setCell ⟨xb, 0, none⟩ (.slice A n c)).setCell ⟨xb, 1, none⟩ (.int .i64 g)).setCell ⟨xb, 2, none⟩ (.int .i64 cap)) = w2 at *
              have a1 := HOB.out.cell 1
              have a2 := HOB.out.cell 2
              have a3 := HOB.out.cell 3
              have a4 := HOB.out.cell 4
              have a5 := HOB.out.cell 5
              have a6 := HOB.out.cell 6
              have a7 := HOB.out.cell 7
              simp only [List.getElem?_cons_zero, List.getElem?_cons_succ] at a1 a2 a3 a4 a5 a6 a7
              go_wp2_with fail
              refine (HB.out _ HPP.out).mono ?_
              rintro e w3 ⟨rfl, p3⟩
              have P3 := Lib.hid p3
              clear p3 HB HPP HOB a1 a2 a3 a4 a5 a6 a7 H1
              have HQ1 := Lib.hid (fun w' (h : Ch No w3 w') => pyLen (P3.out.no h))
              have HQ2 := Lib.hid (fun w' (h : Ch No w3 w') => pyFirst (P3.out.no h) (by omega) ((g : Int) + 1) rfl)
              have HQ3 := Lib.hid (fun w' (h : Ch No w3 w') => pyNext (P3.out.no h) (by omega) (by omega) ((n : Int) + 1) (by omega))
              obtain ⟨fb, hfb⟩ : ∃ fb, decide (m = cap) = fb := ⟨_, rfl⟩
              have HQ4 := Lib.hid (fun w' (h : Ch No w3 w') => pyFull (P3.out.no h) fb hfb)
              have hfe : ((m : Int) == (cap : Int)) = fb := by rw [← hfb]; exact beq_nat _ _
              have e1 : IntKind.i64.wrap ((n : Int) - (g : Int)) = (m : Int) := by rw [IntWalk.i64_in _ (by omega)]; omega
              have e2 : IntKind.i64.wrap ((g : Int) + 1) = (g : Int) + 1 := IntWalk.i64_in _ (by omega)
              have e3 : IntKind.i64.wrap ((n : Int) + 1) = (n : Int) + 1 := IntWalk.i64_in _ (by omega)
              have HGM := Lib.hid hgm
              clear hgm hfb
              have y0 := in_cell (P3.out.bx.cell 0)
              have y1 := in_cell (P3.out.bx.cell 1)
              go_wp2_with fail
              (refine wp_region_in (Ch No _) (by kernel_rfl) (by kernel_rfl) (Ch.refl _ _) (fun _ h => ch_drawn h) ?_)
              repeat (go_big_quiet_step (with_reducible first | exact in_chp HQ1.out | exact in_chp HQ2.out | exact in_chp HQ3.out | exact in_chp HQ4.out))
              (refine wpQuiet_nil ?_; intro wq0 hw'; obtain ⟨pw, hw''⟩ := hw'; subst hw'')
              have HW := Lib.hid (P3.out.no pw.h)
              generalize pw.w = w4 at *
              clear pw y0 y1 hfe e1 e2 e3 HQ1 HQ2 HQ3 HQ4
              go_wp2_with fail
              go_roundw
              case rel => exact ⟨pre ++ [⟨2, nn, x⟩], post, L, A, c, p + 1, m, g, n, Lib.hid ⟨by rw [hxp.out.1]; simp, by simp [hxp.out.2.1], by have := HC.out.2.2.1; omega, HC.out.1, HC.out.2.1⟩, by simp, HW⟩
              case measure => simp [intOf]; omega
            · have hkk : (n : Int) - g < cap := by have := HC.out.2.1; omega
              obtain ⟨n1, hn1⟩ : ∃ n1, n + 1 = n1 := ⟨_, rfl⟩
              obtain ⟨m1, hm1⟩ : ∃ m1, m + 1 = m1 := ⟨_, rfl⟩
              have hnz : (n : Int) + 1 = (n1 : Int) := by omega
              have HLD : Hid (L.drop g ++ [x] = (L ++ [x]).drop g) := Lib.hid (by rw [List.drop_append_of_le_length (by have := HC.out.2.2.2; omega)])
              have HA := Lib.hid (fun w' (h : Rws w' A 6 (L.map Ent.enc)) => by have := RAdd_ok (c := c) (gone := g) (cap := cap) h HC.out.2.2.2 x hox hkk (by omega) (by omega); unfold RNew at this; rw [hn1, hnz] at this; exact this)
              have HB := Lib.hid (fun A' c' w' (h : Py W w' jb xb cap m g (L.drop g) n1 g (L ++ [x]) A' c') => by have := pyAddOk h x hox hfl (by omega) (by omega) (n1 : Int) (by omega); rw [hm1, HLD.out] at this; exact this)
              have HLX : Hid ((L ++ [x]).length = n1) := Lib.hid (by rw [List.length_append, HC.out.2.2.2]; exact hn1)
              have HM1 : Hid (g + m1 = n1 ∧ m1 ≤ cap ∧ n1 ≤ p + 1) := Lib.hid ⟨by omega, by have := HC.out.2.1; omega, by have := HC.out.2.2.1; omega⟩
              have hn61 : n1 ≤ 61 := by omega
              have hm61 : m1 ≤ 61 := by omega
              unfold RJv Ent.val at HA
              unfold Ent.val at HB
              clear hox hkk hfl hn1 hm1 hnz hgm
              go_wp2_with fail
              refine (HA.out _ HPO.out.1.rw).mono ?_
              rintro e w1 ⟨A1, c1, rfl, r1, r2, h1⟩
              have H1 := Lib.hid (And.intro h1 (And.intro r1 r2))
              clear h1 r1 r2 HA
              have HPP := Lib.hid (HPO.out.1.put (H1.out.1.alloc (.cells #[.slice A1 n1 c1, .int .i64 g, .int .i64 cap] 30)) (n' := n1) (g' := g) (c' := c1) HLX.out (H1.out.2.1.no ((Ch.refl No w1).alloc _)) (fun a ha => .inl ⟨(H1.out.2.2 a ha).1, by have := (H1.out.2.2 a ha).2; simp; omega⟩))
              have HOB : Hid (Blk ((((w1.alloc (.cells #[.slice A1 n1 c1, .int .i64 g, .int .i64 cap] 30)).setCell ⟨xb, 0, none⟩ (.slice A1 n1 c1)).setCell ⟨xb, 1, none⟩ (.int .i64 g)).setCell ⟨xb, 2, none⟩ (.int .i64 cap)) ob 34 [.int .i64 2, .int .i64 nn, .int .i64 x.t, .int .i64 x.arg, .int .i64 x.tenant, .int .i64 x.person, .int .i64 x.kind, .int .i64 x.code]) := Lib.hid ((((((HPO.out.2.1.ch H1.out.1 (fun h => h)).alloc (.cells #[.slice A1 n1 c1, .int .i64 g, .int .i64 cap] 30)).set_other (p := ⟨xb, 0, none⟩) (fun h => HPO.out.2.2 h.symm) _).set_other (p := ⟨xb, 1, none⟩) (fun h => HPO.out.2.2 h.symm) _).set_other (p := ⟨xb, 2, none⟩) (fun h => HPO.out.2.2 h.symm) _))
              have HPA := Lib.hid (HPO.out.1.no (H1.out.1.alloc (.cells #[.slice A1 n1 c1, .int .i64 g, .int .i64 cap] 30)))
              have z0 := HPA.out.bx.cell 0
              have z1 := HPA.out.bx.cell 1
              have z2 := HPA.out.bx.cell 2
              have z3 := HPA.out.bx.frozen 0
              have z4 := HPA.out.bx.frozen 1
              have z5 := HPA.out.bx.frozen 2
              have z6 := HPA.out.bx.lt
              simp only [List.getElem?_cons_zero, List.getElem?_cons_succ] at z0 z1 z2
              clear a1 a2 a3 a4 a5 a6 a7 x0 x1 x2 k0 k1 k2 k3 k4 k5 k6 k7 hob
              go_upto_region 21 with fail
              clear z0 z1 z2 z3 z4 z5 z6 HPA
              generalize ((((w1.alloc (.cells #[.slice A1 n1 c1, .int .i64 g, .int .i64 cap] 30)).setCell ⟨xb, 0, none⟩ (.slice A1 n1 c1)).setCell ⟨xb, 1, none⟩ (.int .i64 g)).setCell ⟨xb, 2, none⟩ (.int .i64 cap)) = w2 at *
              have a1 := HOB.out.cell 1
              have a2 := HOB.out.cell 2
              have a3 := HOB.out.cell 3
              have a4 := HOB.out.cell 4
              have a5 := HOB.out.cell 5
              have a6 := HOB.out.cell 6
              have a7 := HOB.out.cell 7
              simp only [List.getElem?_cons_zero, List.getElem?_cons_succ] at a1 a2 a3 a4 a5 a6 a7
              go_wp2_with fail
              refine (HB.out _ _ _ HPP.out).mono ?_
              rintro e w3 ⟨rfl, p3⟩
              have P3 := Lib.hid p3
              have hgm := HM1.out.1
              clear p3 HB HPP HOB a1 a2 a3 a4 a5 a6 a7 H1
              have HQ1 := Lib.hid (fun w' (h : Ch No w3 w') => pyLen (P3.out.no h))
              have HQ2 := Lib.hid (fun w' (h : Ch No w3 w') => pyFirst (P3.out.no h) (by omega) ((g : Int) + 1) rfl)
              have HQ3 := Lib.hid (fun w' (h : Ch No w3 w') => pyNext (P3.out.no h) (by omega) (by omega) ((n1 : Int) + 1) (by omega))
              obtain ⟨fb, hfb⟩ : ∃ fb, decide (m1 = cap) = fb := ⟨_, rfl⟩
              have HQ4 := Lib.hid (fun w' (h : Ch No w3 w') => pyFull (P3.out.no h) fb hfb)
              have hfe : ((m1 : Int) == (cap : Int)) = fb := by rw [← hfb]; exact beq_nat _ _
              have e1 : IntKind.i64.wrap ((n1 : Int) - (g : Int)) = (m1 : Int) := by rw [IntWalk.i64_in _ (by omega)]; omega
              have e2 : IntKind.i64.wrap ((g : Int) + 1) = (g : Int) + 1 := IntWalk.i64_in _ (by omega)
              have e3 : IntKind.i64.wrap ((n1 : Int) + 1) = (n1 : Int) + 1 := IntWalk.i64_in _ (by omega)
              have HGM := Lib.hid hgm
              clear hgm hfb
              have y0 := in_cell (P3.out.bx.cell 0)
              have y1 := in_cell (P3.out.bx.cell 1)
              go_wp2_with fail
              (refine wp_region_in (Ch No _) (by kernel_rfl) (by kernel_rfl) (Ch.refl _ _) (fun _ h => ch_drawn h) ?_)
              repeat (go_big_quiet_step (with_reducible first | exact in_chp HQ1.out | exact in_chp HQ2.out | exact in_chp HQ3.out | exact in_chp HQ4.out))
              (refine wpQuiet_nil ?_; intro wq0 hw'; obtain ⟨pw, hw''⟩ := hw'; subst hw'')
              have HW := Lib.hid (P3.out.no pw.h)
              generalize pw.w = w4 at *
              clear pw y0 y1 hfe e1 e2 e3 HQ1 HQ2 HQ3 HQ4
              go_wp2_with fail
              go_roundw
              case rel => exact ⟨pre ++ [⟨2, nn, x⟩], post, (L ++ [x]), A1, c1, p + 1, m1, g, n1, Lib.hid ⟨by rw [hxp.out.1]; simp, by simp [hxp.out.2.1], by have := HM1.out.2.2; omega, HM1.out.1, HM1.out.2.1⟩, by simp, HW⟩
              case measure => simp [intOf]; omega
      by_cases h3 : kd = 3
      · subst h3
        as_aux_lemma =>
          obtain ⟨K, hK⟩ : ∃ K, trimK nn g m = K := ⟨_, rfl⟩
          have hKm : K ≤ m := by rw [← hK]; exact trimK_le _ _ _
          obtain ⟨g1, hg1⟩ : ∃ g1, g + K = g1 := ⟨_, rfl⟩
          obtain ⟨m1, hm1⟩ : ∃ m1, m - K = m1 := ⟨_, rfl⟩
          have hnm : n - g = m := by omega
          have HA := Lib.hid (fun w => by have := RTrim_any (A := A) (c := c) (n := n) (gone := g) (cap := cap) (by omega) (by omega) nn w; rw [hnm, hK, hg1] at this; exact this)
          have HB := Lib.hid (fun w' (h : Py W w' jb xb cap m g (L.drop g) n g1 L A c) => by have := pyTrim h nn (by omega) (by omega); rw [hK, hg1, hm1, List.drop_drop, hg1] at this; exact this)
          have HM1 : Hid (g1 + m1 = n ∧ m1 ≤ cap) := Lib.hid ⟨by omega, by have := HC.out.2.1; omega⟩
          have hg61 : g1 ≤ 60 := by omega
          have hm61 : m1 ≤ 60 := by omega
          unfold RJv at HA
          clear hK hg1 hm1 hnm hgm hKm
          go_wp2_with fail
          refine (HA.out _).mono ?_
          rintro e w1 ⟨rfl, h1⟩
          have H1 := Lib.hid (And.intro h1 trivial)
          clear h1 HA
          have HPP := Lib.hid (HPO.out.1.put (H1.out.1.alloc (.cells #[.slice A n c, .int .i64 g1, .int .i64 cap] 30)) (n' := n) (g' := g1) (c' := c) HPO.out.1.nn (HPO.out.1.rw.no (H1.out.1.alloc _)) (fun a ha => .inr ha))
          have HOB : Hid (Blk ((((w1.alloc (.cells #[.slice A n c, .int .i64 g1, .int .i64 cap] 30)).setCell ⟨xb, 0, none⟩ (.slice A n c)).setCell ⟨xb, 1, none⟩ (.int .i64 g1)).setCell ⟨xb, 2, none⟩ (.int .i64 cap)) ob 34 [.int .i64 3, .int .i64 nn, .int .i64 x.t, .int .i64 x.arg, .int .i64 x.tenant, .int .i64 x.person, .int .i64 x.kind, .int .i64 x.code]) := Lib.hid ((((((HPO.out.2.1.ch H1.out.1 (fun h => h)).alloc (.cells #[.slice A n c, .int .i64 g1, .int .i64 cap] 30)).set_other (p := ⟨xb, 0, none⟩) (fun h => HPO.out.2.2 h.symm) _).set_other (p := ⟨xb, 1, none⟩) (fun h => HPO.out.2.2 h.symm) _).set_other (p := ⟨xb, 2, none⟩) (fun h => HPO.out.2.2 h.symm) _))
          have HPA := Lib.hid (HPO.out.1.no (H1.out.1.alloc (.cells #[.slice A n c, .int .i64 g1, .int .i64 cap] 30)))
          have z0 := HPA.out.bx.cell 0
          have z1 := HPA.out.bx.cell 1
          have z2 := HPA.out.bx.cell 2
          have z3 := HPA.out.bx.frozen 0
          have z4 := HPA.out.bx.frozen 1
          have z5 := HPA.out.bx.frozen 2
          have z6 := HPA.out.bx.lt
          simp only [List.getElem?_cons_zero, List.getElem?_cons_succ] at z0 z1 z2
          clear a1 a2 a3 a4 a5 a6 a7 x0 x1 x2 k0 k1 k2 k3 k4 k5 k6 k7 hob
          go_upto_region 26 with fail
          clear z0 z1 z2 z3 z4 z5 z6 HPA
          generalize ((((w1.alloc (.cells #[.slice A n c, .int .i64 g1, .int .i64 cap] 30)).setCell ⟨xb, 0, none⟩ (.slice A n c)).setCell ⟨xb, 1, none⟩ (.int .i64 g1)).setCell ⟨xb, 2, none⟩ (.int .i64 cap)) = w2 at *
          have a1 := HOB.out.cell 1
          have a2 := HOB.out.cell 2
          have a3 := HOB.out.cell 3
          have a4 := HOB.out.cell 4
          have a5 := HOB.out.cell 5
          have a6 := HOB.out.cell 6
          have a7 := HOB.out.cell 7
          simp only [List.getElem?_cons_zero, List.getElem?_cons_succ] at a1 a2 a3 a4 a5 a6 a7
          go_wp2_with fail
          refine (HB.out _ HPP.out).mono ?_
          rintro e w3 ⟨rfl, p3⟩
          have P3 := Lib.hid p3
          have hgm := HM1.out.1
          clear p3 HB HPP HOB a1 a2 a3 a4 a5 a6 a7 H1
          have HQ1 := Lib.hid (fun w' (h : Ch No w3 w') => pyLen (P3.out.no h))
          have HQ2 := Lib.hid (fun w' (h : Ch No w3 w') => pyFirst (P3.out.no h) (by omega) ((g1 : Int) + 1) rfl)
          have HQ3 := Lib.hid (fun w' (h : Ch No w3 w') => pyNext (P3.out.no h) (by omega) (by omega) ((n : Int) + 1) (by omega))
          obtain ⟨fb, hfb⟩ : ∃ fb, decide (m1 = cap) = fb := ⟨_, rfl⟩
          have HQ4 := Lib.hid (fun w' (h : Ch No w3 w') => pyFull (P3.out.no h) fb hfb)
          have hfe : ((m1 : Int) == (cap : Int)) = fb := by rw [← hfb]; exact beq_nat _ _
          have e1 : IntKind.i64.wrap ((n : Int) - (g1 : Int)) = (m1 : Int) := by rw [IntWalk.i64_in _ (by omega)]; omega
          have e2 : IntKind.i64.wrap ((g1 : Int) + 1) = (g1 : Int) + 1 := IntWalk.i64_in _ (by omega)
          have e3 : IntKind.i64.wrap ((n : Int) + 1) = (n : Int) + 1 := IntWalk.i64_in _ (by omega)
          have HGM := Lib.hid hgm
          clear hgm hfb
          have y0 := in_cell (P3.out.bx.cell 0)
          have y1 := in_cell (P3.out.bx.cell 1)
          go_wp2_with fail
          (refine wp_region_in (Ch No _) (by kernel_rfl) (by kernel_rfl) (Ch.refl _ _) (fun _ h => ch_drawn h) ?_)
          repeat (go_big_quiet_step (with_reducible first | exact in_chp HQ1.out | exact in_chp HQ2.out | exact in_chp HQ3.out | exact in_chp HQ4.out))
          (refine wpQuiet_nil ?_; intro wq0 hw'; obtain ⟨pw, hw''⟩ := hw'; subst hw'')
          have HW := Lib.hid (P3.out.no pw.h)
          generalize pw.w = w4 at *
          clear pw y0 y1 hfe e1 e2 e3 HQ1 HQ2 HQ3 HQ4
          go_wp2_with fail
          go_roundw
          case rel => exact ⟨pre ++ [⟨3, nn, x⟩], post, L, A, c, p + 1, m1, g1, n, Lib.hid ⟨by rw [hxp.out.1]; simp, by simp [hxp.out.2.1], by have := HC.out.2.2.1; omega, HM1.out.1, HM1.out.2⟩, by simp, HW⟩
          case measure => simp [intOf]; omega
      have q0 : (kd == 0) = false := by simpa using h0
      have q1 : (kd == 1) = false := by simpa using h1
      have q2 : (kd == 2) = false := by simpa using h2
      have q3 : (kd == 3) = false := by simpa using h3
      clear h0 h1 h2 h3
      go_upto_region 27 with fail
      have P3 := Lib.hid HPO.out.1
      clear HPO a1 a2 a3 a4 a5 a6 a7 x0 x1 x2 k0 k1 k2 k3 k4 k5 k6 k7 hob
      generalize (wr.alloc (.cells #[.int .i64 kd, .int .i64 nn, .int .i64 x.t, .int .i64 x.arg, .int .i64 x.tenant, .int .i64 x.person, .int .i64 x.kind, .int .i64 x.code] 34)) = w3 at *
      have HQ1 := Lib.hid (fun w' (h : Ch No w3 w') => pyLen (P3.out.no h))
      have HQ2 := Lib.hid (fun w' (h : Ch No w3 w') => pyFirst (P3.out.no h) (by omega) ((g : Int) + 1) rfl)
      have HQ3 := Lib.hid (fun w' (h : Ch No w3 w') => pyNext (P3.out.no h) (by omega) (by omega) ((n : Int) + 1) (by omega))
      obtain ⟨fb, hfb⟩ : ∃ fb, decide (m = cap) = fb := ⟨_, rfl⟩
      have HQ4 := Lib.hid (fun w' (h : Ch No w3 w') => pyFull (P3.out.no h) fb hfb)
      have hfe : ((m : Int) == (cap : Int)) = fb := by rw [← hfb]; exact beq_nat _ _
      have e1 : IntKind.i64.wrap ((n : Int) - (g : Int)) = (m : Int) := by rw [IntWalk.i64_in _ (by omega)]; omega
      have e2 : IntKind.i64.wrap ((g : Int) + 1) = (g : Int) + 1 := IntWalk.i64_in _ (by omega)
      have e3 : IntKind.i64.wrap ((n : Int) + 1) = (n : Int) + 1 := IntWalk.i64_in _ (by omega)
      have HGM := Lib.hid hgm
      clear hgm hfb
      have y0 := in_cell (P3.out.bx.cell 0)
      have y1 := in_cell (P3.out.bx.cell 1)
      go_wp2_with fail
      (refine wp_region_in (Ch No _) (by kernel_rfl) (by kernel_rfl) (Ch.refl _ _) (fun _ h => ch_drawn h) ?_)
      repeat (go_big_quiet_step (with_reducible first | exact in_chp HQ1.out | exact in_chp HQ2.out | exact in_chp HQ3.out | exact in_chp HQ4.out))
      (refine wpQuiet_nil ?_; intro wq0 hw'; obtain ⟨pw, hw''⟩ := hw'; subst hw'')
      have HW := Lib.hid (P3.out.no pw.h)
      generalize pw.w = w4 at *
      clear pw y0 y1 hfe e1 e2 e3 HQ1 HQ2 HQ3 HQ4
      go_wp2_with fail
      go_roundw
      case rel => exact ⟨pre ++ [⟨kd, nn, x⟩], post, L, A, c, p + 1, m, g, n, Lib.hid ⟨by rw [hxp.out.1]; simp, by simp [hxp.out.2.1], by have := HC.out.2.2.1; omega, HC.out.1, HC.out.2.1⟩, by simp, HW⟩
      case measure => simp [intOf]; omega

set_option maxRecDepth 100000 in
theorem journalPlays_walk (W : World) (a0 : Int) (A1 : Option Addr) (n1 c1 : Nat) (a2 a3 a4 : Int) (_w0 : (Lit.int .i64 a0).wf = true) (R1 : Rd Try.prog W 8 22 [.slice A1 n1 c1]) (_w2 : (Lit.int .i64 a2).wf = true) (_w3 : (Lit.int .i64 a3).wf = true) (_w4 : (Lit.int .i64 a4).wf = true) :
    Calls Try.prog 3 #[.int .i64 a0, .slice A1 n1 c1, .int .i64 a2, .int .i64 a3, .int .i64 a4] W fun e w' => e = .returned (.bool true) ∧ Below W.heap.size W w' := by
  obtain ⟨A, c, xs, hv, hx0, hl0⟩ := rd_jos R1
  obtain ⟨rfl, rfl, rfl⟩ := Value.slice.inj hv
  exact (journalPlays_core W a0 _ _ xs a2 a3 a4 hx0 (by omega)).mono fun _ _ ⟨h1, h2⟩ => ⟨h1, h2.same⟩
end Go.Proofs.Ytflpelacjdnplaa
