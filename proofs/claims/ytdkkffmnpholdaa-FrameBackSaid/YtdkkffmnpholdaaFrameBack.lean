/- FrameBack: what is wrapped is found, in order, however a stream is cut: the walk. -/
import Derived.Test.YtdkkffmnpholdaaFrameLeft
namespace Go.Proofs.Ytdkkffmnpholdaa
open Go.RowKit

theorem spl_wrap {bs : List (List Int)} (h : ∀ b ∈ bs, b.length ≤ 1024) : Spl (bs.flatMap wrp) bs [] 0 := by
  induction bs with
  | nil => exact .short (by unfold nxt; rw [if_pos (by simp)])
  | cons b bs ih =>
    rw [List.flatMap_cons]
    exact .ok (nxt_wrp b _ (h b (by simp))) (ih fun c hc => h c (List.mem_cons_of_mem _ hc))
theorem spl_cut {bs : List (List Int)} (h : ∀ b ∈ bs, b.length ≤ 1024) : ∀ k, k ≤ (bs.flatMap wrp).length → ∃ pre post l, bs = pre ++ post ∧ Spl ((bs.flatMap wrp).take k) pre l 0 ∧ Spl (l ++ (bs.flatMap wrp).drop k) post [] 0 := by
  induction bs with
  | nil =>
    intro k hk
    refine ⟨[], [], [], rfl, ?_, ?_⟩
    · simp only [List.flatMap_nil, List.take_nil]
      exact .short (by unfold nxt; rw [if_pos (by simp)])
    · simp only [List.flatMap_nil, List.drop_nil, List.append_nil]
      exact .short (by unfold nxt; rw [if_pos (by simp)])
  | cons b bs ih =>
    intro k hk
    have hb := h b (by simp)
    have hbs : ∀ c ∈ bs, c.length ≤ 1024 := fun c hc => h c (List.mem_cons_of_mem _ hc)
    by_cases hlt : k < b.length + 2
    · refine ⟨[], b :: bs, ((b :: bs).flatMap wrp).take k, rfl, ?_, ?_⟩
      · refine .short ?_
        rw [List.flatMap_cons, List.take_append_of_le_length (by rw [wrp_len]; omega)]
        exact nxt_cut b hb k hlt
      · rw [List.take_append_drop]
        exact spl_wrap h
    · have hl : (wrp b).length = b.length + 2 := wrp_len b
      obtain ⟨pre, post, l, h1, h2, h3⟩ := ih hbs (k - (b.length + 2)) (by rw [List.flatMap_cons, List.length_append, hl] at hk; omega)
      refine ⟨b :: pre, post, l, by rw [h1]; rfl, ?_, ?_⟩
      · rw [List.flatMap_cons, List.take_append, hl, List.take_of_length_le (by omega)]
        exact .ok (nxt_wrp b _ hb) h2
      · rw [List.flatMap_cons, List.drop_append, hl, List.drop_eq_nil_of_le (by omega), List.nil_append]
        exact h3

/-- append of as many slices of bytes as another slice has -/
theorem appB {ops : Array Oper} {Q : Exit → Act → World → Prop} {a : Act} {w : World} {rest : List Oper} {o : Oper} (hgd : o.guard = none) (s x : Operand)
    (ho : o.op = .call { callee := .builtin .append, args := #[s, x], argTypes := #[29, 29] })
    (B : Nat) (A0 : Option Addr) (c0 : Nat) (b0 : List (List Int)) (ps0 : List Prt) (hm0 : ps0.map (·.bs) = b0) (hs : a.eval s = .slice A0 b0.length c0) (hown : OwnS w B 22 (.slice A0 b0.length c0) (ps0.map Prt.enc))
    (A : Option Addr) (c : Nat) (b1 : List (List Int)) (ps1 : List Prt) (hm1 : ps1.map (·.bs) = b1) (hx : a.eval x = .slice A b1.length c) (hsrc : Cls w A (ps1.map Prt.enc))
    (hn : b0.length + b1.length ≤ 1000000) (hB : B ≤ w.heap.size)
    (h : ∀ A' c' w', OwnS w' B 22 (.slice A' (b0.length + b1.length) c') ((ps0 ++ ps1).map Prt.enc) → Ch (fun k => (Value.slice A0 b0.length c0).ownBlock = some k) w w' →
      wpList Try.prog ops Q rest (a.put o.dst (.slice A' (b0.length + b1.length) c')) w') :
    wpList Try.prog ops Q (o :: rest) a w := by
  have l0 : b0.length = ps0.length := by rw [← hm0]; simp
  have l1 : b1.length = ps1.length := by rw [← hm1]; simp
  refine appN hgd s x 29 22 ho (.slice none 0 0) 24 Try.underlying29 infoBs rfl B _ (ps0.map Prt.enc) hs hown A c (ps1.map Prt.enc) (by rw [hx, l1]; simp) hsrc (by intro u hu; obtain ⟨p, _, rfl⟩ := List.mem_map.1 hu; rfl) (by simp [maxLen]; omega) (by simp; omega) hB ?_
  intro A' c' w' h1 h2 _
  have := h A' c' w' (by rw [l0, l1]; simpa using h1) h2
  rw [l0, l1] at this
  simpa using this

theorem Rws.cls {w : World} {A : Option Addr} {vs : List Value} (h : Rws w A 1 (vs.map fun v => [v])) : Cls w A vs := by
  intro pre v post e
  obtain ⟨_, b, off, hA, hc⟩ := h (pre.map fun v => [v]) [v] (post.map fun v => [v]) (by rw [e]; simp)
  refine ⟨b, off, hA, ?_⟩
  have := hc 0 v rfl
  simpa using this
theorem rd_bytes {W : World} {n : Nat} {r : List Value} (h : Rd Try.prog W (n + 2) 22 r) : ∃ p : Prt, r = [p.enc] ∧ Cls W p.A (ints .u8 p.bs) ∧ (∀ x ∈ p.bs, isB x) ∧ p.bs.length ≤ 140737488351232 := by
  obtain ⟨v, rfl⟩ : ∃ v, r = [v] := by
    unfold Rd at h
    rw [Try.underlying22] at h
    rcases h with h | ⟨a, len, cap, rows, h, _⟩
    · exact ⟨_, h⟩
    · exact ⟨_, h⟩
  obtain ⟨A, cap, xs, rfl, hr, hw, hc, hl⟩ := slice_dec (N := n + 1) (sz := 1) (B := 1) (fun x : Int => [Value.int .u8 x]) (fun x => (Lit.int .u8 x).wf = true) h Try.underlying22 (by kernel_rfl) (by kernel_rfl) (by omega) (fun r hr => by
    obtain ⟨v, rfl⟩ : ∃ v, r = [v] := by
      unfold Rd at hr
      rw [Try.underlying5] at hr
      obtain ⟨m, h, _⟩ := hr
      exact ⟨_, h⟩
    obtain ⟨m, rfl, h2⟩ := rd_int hr Try.underlying5
    exact ⟨m, rfl, h2⟩)
  refine ⟨⟨A, cap, xs⟩, rfl, ?_, isB_of hw, by simpa using hl⟩
  refine Rws.cls ?_
  simpa [ints, Function.comp_def] using hr
theorem bds_of_rd {W : World} {n : Nat} {v : Value} (h : Rd Try.prog W (n + 3) 29 [v]) : ∃ A cap, ∃ bs : List (List Int), v = .slice A bs.length cap ∧ Bds W A bs ∧ ∀ b ∈ bs, (∀ x ∈ b, isB x) ∧ b.length ≤ 140737488351232 := by
  obtain ⟨A, cap, ps, rfl, hr, hp, hc, hl⟩ := slice_dec (N := n + 2) (sz := 1) (B := 24) (fun p : Prt => [p.enc]) (fun p => Cls W p.A (ints .u8 p.bs) ∧ (∀ x ∈ p.bs, isB x) ∧ p.bs.length ≤ 140737488351232) h Try.underlying29 (by kernel_rfl) (by kernel_rfl) (by omega) (fun r hr => rd_bytes hr)
  refine ⟨A, cap, ps.map (·.bs), by simp, ⟨ps, rfl, ?_, fun p hp' => (hp p hp').1⟩, ?_⟩
  · refine Rws.cls ?_
    simpa [Function.comp_def] using hr
  · intro b hb
    obtain ⟨p, hp', rfl⟩ := List.mem_map.1 hb
    exact (hp p hp').2

theorem and65535 (n : Int) : ∃ r : Nat, r < 65536 ∧ bits .and .i64 n 65535 = r := by
  have h := i64_mask n 16 (by decide)
  have e : ((2 : Int) ^ 16 - 1) = 65535 := rfl
  rw [e] at h
  refine ⟨(n % 65536).toNat, by omega, ?_⟩
  rw [h]
  omega

set_option maxHeartbeats 8000000 in
set_option maxRecDepth 100000 in
theorem frameBack_core (W : World) (A : Option Addr) (c : Nat) (bs : List (List Int)) (cut : Int) (hx : Bds W A bs) (hb : ∀ b ∈ bs, (∀ x ∈ b, isB x) ∧ b.length ≤ 140737488351232) (hl : bs.length ≤ 140737488351232) :
    Calls Try.prog 5 #[.slice A bs.length c, .int .i64 cut] W fun e w' => e = .returned (.bool true) ∧ Ch No W w' := by
  have HX := Lib.hid (And.intro hx hb)
  clear hx hb
  obtain ⟨r, hr, k1⟩ := and65535 cut
  go_enter Try.func5, Try.ntmps5
  go_wp2_with fail
  refine (frmAlive_any _).mono ?_
  rintro e w0 ⟨rfl, C0⟩
  have HC0 := Lib.hid C0
  clear C0
  by_cases h30 : 30 < bs.length
  · go_wp2_with fail
    go_ret
    exact ⟨rfl, HC0.out⟩
  have HS : Hid (OwnS (w0.alloc (.cells #[] 5)) w0.heap.size 5 (.slice (some ⟨w0.heap.size, 0, none⟩) 0 0) (ints .u8 []) ∧ Ch No w0 (w0.alloc (.cells #[] 5))) :=
    Lib.hid ⟨by simpa [ints] using OwnS.lit w0 w0.heap.size 5 [] (Nat.le_refl _) (by simp), (Ch.refl No w0).alloc _⟩
  go_wp2_with fail
  go_loopw [5, 7, 8, 9, 27] (fun ag _ _ _ i wr => ∃ (pre post : List (List Int)) (ac : List Int) (Ag : Option Addr) (cg : Nat), Hid (bs = pre ++ post ∧ ac = pre.flatMap wrp ∧ ∀ b ∈ pre, b.length ≤ 1024) ∧ i = .int .i64 pre.length ∧ ag = .slice Ag ac.length cg ∧ ac.length ≤ 1026 * pre.length ∧ Hid (OwnS wr w0.heap.size 5 (.slice Ag ac.length cg) (ints .u8 ac) ∧ Ch No w0 wr)) (fun _ _ _ _ i _ => bs.length - (intOf i).toNat)
  case atStart => exact ⟨[], bs, [], _, _, Lib.hid ⟨rfl, rfl, by simp⟩, rfl, rfl, by simp, HS⟩
  case round =>
    clear HS
    obtain ⟨pre, post, ac, Ag, cg, hx, rfl, rfl, hacl, hst⟩ := hrel
    cases post with
    | nil =>
      obtain rfl : pre = bs := by have := hx.out.1; simpa using this.symm
      have hall := hx.out.2.2
      have hac : ac = pre.flatMap wrp := hx.out.2.1
      have hsp : Spl ac pre [] 0 := by rw [hac]; exact spl_wrap hall
      have hab : ∀ x ∈ ac, isB x := by
        intro x hx'
        rw [hac] at hx'
        obtain ⟨b, hb, hxb⟩ := List.mem_flatMap.1 hx'
        exact wrp_isB (HX.out.2 b hb).1 x hxb
      obtain ⟨Ag', cg', e1, XA, hle⟩ := hst.out.1.slice_ints
      obtain ⟨rfl, rfl⟩ : Ag = Ag' ∧ cg = cg' := by simpa using e1
      have hcm : cg ≤ maxLen := by
        rcases hst.out.1.2 with ⟨h, _⟩ | ⟨_, _, _, h, _, _, _, h3, _⟩
        · have := (Value.slice.inj h).2.2
          omega
        · have := (Value.slice.inj h).2.2
          omega
      unfold maxLen at hcm
      have hnn := Int.emod_nonneg (r : Int) (show ((ac.length : Int) + 1) ≠ 0 by omega)
      have hlt := Int.emod_lt_of_pos (r : Int) (show (0 : Int) < (ac.length : Int) + 1 by omega)
      obtain ⟨k, hk, hkl⟩ : ∃ k : Nat, (r : Int) % ((ac.length : Int) + 1) = k ∧ k ≤ ac.length := ⟨((r : Int) % ((ac.length : Int) + 1)).toNat, by omega, by omega⟩
      clear hnn hlt
      obtain ⟨p1, p2, l1, hpp, hs1, hs2⟩ := spl_cut hall k (by rw [← hac]; exact hkl)
      rw [← hac] at hs1 hs2
      have hl1 := spl_len hs1
      obtain ⟨ys, hys⟩ : ∃ ys, l1 ++ ac.drop k = ys := ⟨_, rfl⟩
      rw [hys] at hs2
      have hl2 := spl_len hs2
      have htk : (ac.take k).length = k := by rw [List.length_take]; omega
      have hyb : ∀ x ∈ ys, isB x := by
        intro x hx'
        rw [← hys] at hx'
        rcases List.mem_append.1 hx' with h | h
        · exact (spl_mem hs1 _ (fun x hx => hab x (List.mem_of_mem_take hx))).2 x h
        · exact hab x (List.mem_of_mem_drop h)
      have hyl : ys.length ≤ 70000 := by rw [← hys]; simp; omega
      have hp1 : p1.length ≤ 30 := by have := congrArg List.length hpp; simp at this; omega
      have hp2 : p2.length ≤ 30 := by have := congrArg List.length hpp; simp at this; omega
      have hl1l : l1.length ≤ 40000 := by omega
      have q1 := FSplit_any wr Ag cg ac pre [] 0 hsp XA hab (by omega)
      have q2 := fun w' h => FSplit_any w' Ag cg (ac.take k) p1 l1 0 hs1 h (fun x hx => hab x (List.mem_of_mem_take hx)) (by omega)
      rw [htk] at q2
      have HC := Lib.hid (HC0.out.trans hst.out.2)
      have HQ := Lib.hid (And.intro q1 (And.intro q2 XA))
      have HSP := Lib.hid (And.intro hpp hs2)
      have HYS := Lib.hid hys
      have HYB := Lib.hid hyb
      have hown : k ≠ cg → ∃ g, Ag = some ⟨g, 0, none⟩ := fun hne => by
        rcases hst.out.1.2 with ⟨h, h0⟩ | ⟨g, _, _, h, _⟩
        · exfalso
          have h1 := (Value.slice.inj h).2.2
          simp at h0
          omega
        · exact ⟨g, (Value.slice.inj h).1⟩
      have HO := Lib.hid hown
      clear hall hac hsp hab e1 XA hs1 hl1 hys hs2 hl2 htk hyb q1 q2 hpp hst hown
      go_wp2_with fail
      refine HQ.out.1.mono ?_
      rintro e w2 ⟨O, co, L, cl, rfl, B2, _, h2⟩
      have H2 := Lib.hid (And.intro B2 h2)
      clear B2 h2
      go_wp2_with fail
      have q := FSame_any w2 O co pre A c pre H2.out.1 (HX.out.1.no (HC.out.trans H2.out.2)) (fun b hb => (HX.out.2 b hb).1) (fun b hb => (HX.out.2 b hb).1) (by omega)
      rw [show decide (pre = pre) = true from by simp] at q
      refine q.mono ?_
      rintro e w3 ⟨rfl, h3⟩
      have H3 := Lib.hid (And.intro (HQ.out.2.2.ch (H2.out.2.trans h3) (fun _ _ h => h)) (HC.out.trans (H2.out.2.trans h3)))
      clear q h3 H2
      by_cases hkc : k = cg
      · subst hkc
        go_wp2_with fail
        refine (HQ.out.2.1 w3 (by rw [ints_take]; exact H3.out.1.takeI _)).mono ?_
        rintro e w4 ⟨O1, co1, L1, cl1, rfl, B4, X4, h4⟩
        have H4 : Hid (Bds w4 O1 p1 ∧ Cls w4 L1 (ints .u8 l1) ∧ Cls w4 Ag (ints .u8 ac) ∧ Ch No W w4) := Lib.hid ⟨B4, X4, H3.out.1.ch h4 (fun _ _ h => h), H3.out.2.trans h4⟩
        clear B4 X4 h4 H3
        have X6 : Cls w4 Ag (ints .u8 (([] : List Int))) := by
          exact Cls.nil _ _
        have HD := Lib.hid X6
        clear X6
        go_wp2_with fail
        have w5c : Cls (w4.alloc (.cells #[.slice L1 l1.length cl1, .slice Ag 0 0] 22)) (some ⟨w4.heap.size, 0, none⟩) ([(⟨L1, cl1, l1⟩ : Prt), ⟨Ag, 0, ([] : List Int)⟩].map Prt.enc) := by
          have := Cls.lit w4 22 [.slice L1 l1.length cl1, .slice Ag 0 0]
          simpa [Prt.enc] using this
        have C5 : Ch No w4 (w4.alloc (.cells #[.slice L1 l1.length cl1, .slice Ag 0 0] 22)) := (Ch.refl No w4).alloc _
        have H5 := Lib.hid (And.intro w5c C5)
        clear w5c C5
        generalize w4.alloc (.cells #[.slice L1 l1.length cl1, .slice Ag 0 0] 22) = w5 at *
        have q := RJoin_any w5 (some ⟨w4.heap.size, 0, none⟩) 2 [⟨L1, cl1, l1⟩, ⟨Ag, 0, ([] : List Int)⟩] H5.out.1 (by
          intro p hp
          rcases List.mem_cons.1 hp with rfl | hp
          · exact H4.out.2.1.ch H5.out.2 (fun _ _ h => h)
          · obtain rfl := by simpa using hp
            exact HD.out.ch H5.out.2 (fun _ _ h => h)) (by simp) (by
          intro p hp
          rcases List.mem_cons.1 hp with rfl | hp
          · simp only; omega
          · obtain rfl := by simpa using hp
            simp)
        rw [show [(⟨L1, cl1, l1⟩ : Prt), ⟨Ag, 0, ([] : List Int)⟩].flatMap (·.bs) = ys from by rw [← HYS.out]; simp; try omega] at q
        refine q.mono ?_
        rintro e w6 ⟨A6, c6, rfl, o6, h6⟩
        obtain ⟨A6', c6', e6, X6, _⟩ := o6.slice_ints
        obtain ⟨rfl, rfl⟩ : A6 = A6' ∧ c6 = c6' := by simpa using e6
        have H6 : Hid (Bds w6 O1 p1 ∧ Cls w6 A6 (ints .u8 ys) ∧ Ch No W w6) := Lib.hid ⟨H4.out.1.no (H5.out.2.trans h6), X6, H4.out.2.2.2.trans (H5.out.2.trans h6)⟩
        clear q o6 h6 e6 X6 H5 H4 HD
        go_wp2_with fail
        refine (FSplit_any w6 A6 c6 ys p2 [] 0 HSP.out.2 H6.out.2.1 HYB.out (by omega)).mono ?_
        rintro e w7 ⟨O2, co2, L2, cl2, rfl, B7, _, h7⟩
        have H7 : Hid (Bds w7 O1 p1 ∧ Bds w7 O2 p2 ∧ Ch No W w7) := Lib.hid ⟨H6.out.1.no h7, B7, H6.out.2.2.trans h7⟩
        clear B7 h7 H6
        obtain ⟨ps1, m1, s1, t1⟩ := H7.out.1
        obtain ⟨ps2, m2, s2, t2⟩ := H7.out.2.1
        have o8 : OwnS (w7.alloc (.cells #[] 22)) w7.heap.size 22 (.slice (some ⟨w7.heap.size, 0, none⟩) ([] : List (List Int)).length 0) (([] : List Prt).map Prt.enc) := OwnS.lit w7 w7.heap.size 22 [] (Nat.le_refl _) (by simp)
        have s1' := s1.ch ((Ch.refl No w7).alloc (.cells #[] 22)) (fun _ _ h => h)
        have HT := Lib.hid (And.intro m1 (And.intro t1 (And.intro m2 (And.intro s2 t2))))
        clear m1 s1 t1 m2 s2 t2
        go_wp2_with (at_builtin; (refine wpList_unguard (by rfl) ?_; refine appB rfl _ _ rfl w7.heap.size (some ⟨w7.heap.size, 0, none⟩) 0 [] [] rfl rfl o8 O1 co1 p1 ps1 HT.out.1 rfl s1' (by simp; omega) (by simp) ?_))
        intro A8 c8 w8 o8' h8
        have C78 : Ch No w7 w8 := ((Ch.refl No w7).alloc (.cells #[] 22)).trans' h8 (fun i hi he => by
          have he' : w7.heap.size = i := by simpa [Value.ownBlock] using he
          omega)
        have H8 : Hid (OwnS w8 w7.heap.size 22 (.slice A8 p1.length c8) (ps1.map Prt.enc) ∧ Ch No w7 w8) := Lib.hid ⟨by simpa using o8', C78⟩
        clear o8 s1' o8' h8 C78
        go_wp2_with (at_builtin; (refine wpList_unguard (by rfl) ?_; refine appB rfl _ _ rfl w7.heap.size A8 c8 p1 ps1 HT.out.1 rfl H8.out.1 O2 co2 p2 ps2 HT.out.2.2.1 rfl (HT.out.2.2.2.1.ch H8.out.2 (fun _ _ h => h)) (by omega) H8.out.2.size ?_))
        intro A9 c9 w9 o9 h9
        have C79 : Ch No w7 w9 := H8.out.2.trans' h9 (fun i hi he => by have := (H8.out.1.ge i he).1; omega)
        have B9 : Bds w9 A9 (p1 ++ p2) := by
          obtain ⟨A', c', e9, X9, _⟩ := o9.slice
          have e9' : A9 = A' := (Value.slice.inj e9).1
          rw [← e9'] at X9
          refine ⟨ps1 ++ ps2, by rw [List.map_append, HT.out.1, HT.out.2.2.1], by rw [List.map_append]; exact X9, fun p hp => ?_⟩
          rcases List.mem_append.1 hp with hp | hp
          · exact (HT.out.2.1 p hp).ch C79 (fun _ _ h => h)
          · exact (HT.out.2.2.2.2 p hp).ch C79 (fun _ _ h => h)
        have q := FSame_any w9 A9 c9 (p1 ++ p2) A c pre B9 (HX.out.1.no (H7.out.2.2.trans C79)) (fun b hb => (HX.out.2 b (by rw [HSP.out.1]; exact hb)).1) (fun b hb => (HX.out.2 b hb).1) (by simp; omega)
        rw [show decide (p1 ++ p2 = pre) = true from by simpa using HSP.out.1.symm, List.length_append] at q
        have HQ9 := Lib.hid q
        have HC9 := Lib.hid (H7.out.2.2.trans C79)
        clear q o9 h9 C79 B9 H8
        go_wp2_with fail
        refine HQ9.out.mono ?_
        rintro e w10 ⟨rfl, h10⟩
        have HC10 := Lib.hid (HC9.out.trans h10)
        clear h10
        go_wp2_with fail
        go_ret
        exact ⟨rfl, HC10.out⟩
      · obtain ⟨g, rfl⟩ := HO.out hkc
        go_wp2_with fail
        refine (HQ.out.2.1 w3 (by rw [ints_take]; exact H3.out.1.takeI _)).mono ?_
        rintro e w4 ⟨O1, co1, L1, cl1, rfl, B4, X4, h4⟩
        have H4 : Hid (Bds w4 O1 p1 ∧ Cls w4 L1 (ints .u8 l1) ∧ Cls w4 (some ⟨g, 0, none⟩) (ints .u8 ac) ∧ Ch No W w4) := Lib.hid ⟨B4, X4, H3.out.1.ch h4 (fun _ _ h => h), H3.out.2.trans h4⟩
        clear B4 X4 h4 H3
        have X6 : Cls w4 (some ⟨g, k, none⟩) (ints .u8 (ac.drop k)) := by
          have := H4.out.2.2.1.dropI k
          rw [← ints_drop] at this
          simpa [addr_add] using this
        have HD := Lib.hid X6
        clear X6
        go_wp2_with fail
        have w5c : Cls (w4.alloc (.cells #[.slice L1 l1.length cl1, .slice (some ⟨g, k, none⟩) (ac.length - k) (cg - k)] 22)) (some ⟨w4.heap.size, 0, none⟩) ([(⟨L1, cl1, l1⟩ : Prt), ⟨(some ⟨g, k, none⟩), (cg - k), ac.drop k⟩].map Prt.enc) := by
          have := Cls.lit w4 22 [.slice L1 l1.length cl1, .slice (some ⟨g, k, none⟩) (ac.length - k) (cg - k)]
          simpa [Prt.enc] using this
        have C5 : Ch No w4 (w4.alloc (.cells #[.slice L1 l1.length cl1, .slice (some ⟨g, k, none⟩) (ac.length - k) (cg - k)] 22)) := (Ch.refl No w4).alloc _
        have H5 := Lib.hid (And.intro w5c C5)
        clear w5c C5
        generalize w4.alloc (.cells #[.slice L1 l1.length cl1, .slice (some ⟨g, k, none⟩) (ac.length - k) (cg - k)] 22) = w5 at *
        have q := RJoin_any w5 (some ⟨w4.heap.size, 0, none⟩) 2 [⟨L1, cl1, l1⟩, ⟨(some ⟨g, k, none⟩), (cg - k), ac.drop k⟩] H5.out.1 (by
          intro p hp
          rcases List.mem_cons.1 hp with rfl | hp
          · exact H4.out.2.1.ch H5.out.2 (fun _ _ h => h)
          · obtain rfl := by simpa using hp
            exact HD.out.ch H5.out.2 (fun _ _ h => h)) (by simp) (by
          intro p hp
          rcases List.mem_cons.1 hp with rfl | hp
          · simp only; omega
          · obtain rfl := by simpa using hp
            simp only [List.length_drop]; omega)
        rw [show [(⟨L1, cl1, l1⟩ : Prt), ⟨(some ⟨g, k, none⟩), (cg - k), ac.drop k⟩].flatMap (·.bs) = ys from by rw [← HYS.out]; simp; try omega] at q
        refine q.mono ?_
        rintro e w6 ⟨A6, c6, rfl, o6, h6⟩
        obtain ⟨A6', c6', e6, X6, _⟩ := o6.slice_ints
        obtain ⟨rfl, rfl⟩ : A6 = A6' ∧ c6 = c6' := by simpa using e6
        have H6 : Hid (Bds w6 O1 p1 ∧ Cls w6 A6 (ints .u8 ys) ∧ Ch No W w6) := Lib.hid ⟨H4.out.1.no (H5.out.2.trans h6), X6, H4.out.2.2.2.trans (H5.out.2.trans h6)⟩
        clear q o6 h6 e6 X6 H5 H4 HD
        go_wp2_with fail
        refine (FSplit_any w6 A6 c6 ys p2 [] 0 HSP.out.2 H6.out.2.1 HYB.out (by omega)).mono ?_
        rintro e w7 ⟨O2, co2, L2, cl2, rfl, B7, _, h7⟩
        have H7 : Hid (Bds w7 O1 p1 ∧ Bds w7 O2 p2 ∧ Ch No W w7) := Lib.hid ⟨H6.out.1.no h7, B7, H6.out.2.2.trans h7⟩
        clear B7 h7 H6
        obtain ⟨ps1, m1, s1, t1⟩ := H7.out.1
        obtain ⟨ps2, m2, s2, t2⟩ := H7.out.2.1
        have o8 : OwnS (w7.alloc (.cells #[] 22)) w7.heap.size 22 (.slice (some ⟨w7.heap.size, 0, none⟩) ([] : List (List Int)).length 0) (([] : List Prt).map Prt.enc) := OwnS.lit w7 w7.heap.size 22 [] (Nat.le_refl _) (by simp)
        have s1' := s1.ch ((Ch.refl No w7).alloc (.cells #[] 22)) (fun _ _ h => h)
        have HT := Lib.hid (And.intro m1 (And.intro t1 (And.intro m2 (And.intro s2 t2))))
        clear m1 s1 t1 m2 s2 t2
        go_wp2_with (at_builtin; (refine wpList_unguard (by rfl) ?_; refine appB rfl _ _ rfl w7.heap.size (some ⟨w7.heap.size, 0, none⟩) 0 [] [] rfl rfl o8 O1 co1 p1 ps1 HT.out.1 rfl s1' (by simp; omega) (by simp) ?_))
        intro A8 c8 w8 o8' h8
        have C78 : Ch No w7 w8 := ((Ch.refl No w7).alloc (.cells #[] 22)).trans' h8 (fun i hi he => by
          have he' : w7.heap.size = i := by simpa [Value.ownBlock] using he
          omega)
        have H8 : Hid (OwnS w8 w7.heap.size 22 (.slice A8 p1.length c8) (ps1.map Prt.enc) ∧ Ch No w7 w8) := Lib.hid ⟨by simpa using o8', C78⟩
        clear o8 s1' o8' h8 C78
        go_wp2_with (at_builtin; (refine wpList_unguard (by rfl) ?_; refine appB rfl _ _ rfl w7.heap.size A8 c8 p1 ps1 HT.out.1 rfl H8.out.1 O2 co2 p2 ps2 HT.out.2.2.1 rfl (HT.out.2.2.2.1.ch H8.out.2 (fun _ _ h => h)) (by omega) H8.out.2.size ?_))
        intro A9 c9 w9 o9 h9
        have C79 : Ch No w7 w9 := H8.out.2.trans' h9 (fun i hi he => by have := (H8.out.1.ge i he).1; omega)
        have B9 : Bds w9 A9 (p1 ++ p2) := by
          obtain ⟨A', c', e9, X9, _⟩ := o9.slice
          have e9' : A9 = A' := (Value.slice.inj e9).1
          rw [← e9'] at X9
          refine ⟨ps1 ++ ps2, by rw [List.map_append, HT.out.1, HT.out.2.2.1], by rw [List.map_append]; exact X9, fun p hp => ?_⟩
          rcases List.mem_append.1 hp with hp | hp
          · exact (HT.out.2.1 p hp).ch C79 (fun _ _ h => h)
          · exact (HT.out.2.2.2.2 p hp).ch C79 (fun _ _ h => h)
        have q := FSame_any w9 A9 c9 (p1 ++ p2) A c pre B9 (HX.out.1.no (H7.out.2.2.trans C79)) (fun b hb => (HX.out.2 b (by rw [HSP.out.1]; exact hb)).1) (fun b hb => (HX.out.2 b hb).1) (by simp; omega)
        rw [show decide (p1 ++ p2 = pre) = true from by simpa using HSP.out.1.symm, List.length_append] at q
        have HQ9 := Lib.hid q
        have HC9 := Lib.hid (H7.out.2.2.trans C79)
        clear q o9 h9 C79 B9 H8
        go_wp2_with fail
        refine HQ9.out.mono ?_
        rintro e w10 ⟨rfl, h10⟩
        have HC10 := Lib.hid (HC9.out.trans h10)
        clear h10
        go_wp2_with fail
        go_ret
        exact ⟨rfl, HC10.out⟩
    | cons x post =>
      have hlen : pre.length < bs.length := by rw [hx.out.1]; simp
      obtain ⟨b, off, A1, c1, rfl, hcx, X1⟩ := (HX.out.1.no (HC0.out.trans hst.out.2)).at hx.out.1
      obtain ⟨hxb, hxl⟩ := HX.out.2 x (by rw [hx.out.1]; simp)
      by_cases hlong : 1024 < x.length
      · have HQ := Lib.hid (FWrap_long wr A1 c1 x hxl hlong)
        clear X1 hxb
        go_wp2_with fail
        refine HQ.out.mono ?_
        rintro e w2 ⟨rfl, rfl⟩
        go_wp2_with fail
        go_ret
        exact ⟨ret_bool (by simp; omega), HC0.out.trans hst.out.2⟩
      · have q := FWrap_ok wr A1 c1 x X1 (by omega)
        obtain ⟨fs, hfs⟩ : ∃ fs, wrp x = fs := ⟨_, rfl⟩
        rw [hfs] at q
        have hfl : fs.length ≤ 1026 := by rw [← hfs]; simp; omega
        have HQ := Lib.hid q
        have HFS := Lib.hid hfs
        have HXL := Lib.hid hlong
        clear q hfs X1 hxb hxl hlong
        go_wp2_with fail
        refine HQ.out.mono ?_
        rintro e w2 ⟨A2, c2, rfl, o2, h2⟩
        obtain ⟨A2', c2', e2, X2, _⟩ := o2.slice_ints
        obtain ⟨rfl, rfl⟩ : A2 = A2' ∧ c2 = c2' := by simpa using e2
        have H2 := Lib.hid (And.intro (hst.out.1.ch h2 (fun _ _ h => h)) (And.intro X2 (hst.out.2.trans h2)))
        clear o2 h2 e2 X2 hst HQ
        go_wp2_with (at_builtin; refine appI rfl _ _ 22 5 rfl .u8 0 1 Try.underlying22 u8info w0.heap.size Ag cg ac rfl H2.out.1 A2 c2 fs rfl H2.out.2.1 ?hn ?hb ?hB ?_)
        case hn => simp [maxLen]; omega
        case hb => omega
        case hB => exact H2.out.2.2.size
        intro A3 c3 w3 o3 h3 _
        have HF : Hid (OwnS w3 w0.heap.size 5 (.slice A3 (ac ++ fs).length c3) (ints .u8 (ac ++ fs)) ∧ Ch No w0 w3) := Lib.hid ⟨by simpa using o3, H2.out.2.2.trans' h3 (fun i hi he => by have := (H2.out.1.ge i he).1; omega)⟩
        clear o3 h3 H2
        go_wp2_with fail
        go_roundw
        case rel => exact ⟨pre ++ [x], post, ac ++ fs, A3, c3, Lib.hid ⟨by rw [hx.out.1]; simp, by rw [hx.out.2.1, ← HFS.out]; simp, fun b hb => (List.mem_append.1 hb).elim (hx.out.2.2 b) (fun h => by rw [show b = x from by simpa using h]; have := HXL.out; omega)⟩, by simp, by simp, by simp; omega, HF⟩
        case measure => simp [intOf]; omega

theorem frameBack_walk (W : World) (a0 : Option Addr) (len0 cap0 : Nat) (a1 : Int) (rd0 : Rd Try.prog W 8 29 [.slice a0 len0 cap0]) (_w1 : (Lit.int .i64 a1).wf = true) :
    Calls Try.prog 5 #[.slice a0 len0 cap0, .int .i64 a1] W fun e w' => e = .returned (.bool true) ∧ Below W.heap.size W w' := by
  obtain ⟨A, c, bs, e, hB, hb⟩ := bds_of_rd rd0
  have hl : bs.length ≤ 140737488351232 := by
    unfold Rd at rd0
    rw [Try.underlying29] at rd0
    have hB : Try.prog.bytesOf 22 = 24 := by kernel_rfl
    rcases rd0 with h | ⟨a, len, cap, rows, h, _, _, h2, _⟩
    · have h1 : Value.slice a0 len0 cap0 = .slice none 0 0 := by simpa using h
      rw [e] at h1
      have := (Value.slice.inj h1).2.1
      omega
    · have h1 : Value.slice a0 len0 cap0 = .slice (some a) len cap := by simpa using h
      rw [e] at h1
      have := (Value.slice.inj h1).2.1
      rw [hB] at h2
      unfold reachBytes at h2
      omega
  rw [e]
  exact (frameBack_core W A c bs a1 hB hb hl).mono fun _ _ ⟨h1, h2⟩ => ⟨h1, h2.same⟩
end Go.Proofs.Ytdkkffmnpholdaa
