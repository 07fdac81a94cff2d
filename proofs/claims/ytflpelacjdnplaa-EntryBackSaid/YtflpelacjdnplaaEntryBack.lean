/- EntryBack: what is written is read as it; their order is that of their bytes: the walk. -/
import Derived.Test.YtflpelacjdnplaaEntEq
import Derived.Test.YtflpelacjdnplaaEntBytes
import Derived.Test.YtflpelacjdnplaaEntAlive
import Derived.Test.YtflpelacjdnplaaStep
import Derived.Deep.Cut
namespace Go.Proofs.Ytflpelacjdnplaa
open Go.RowKit

/-- the least of four -/
def min4 (a b c d : Int) : Int := if d < (if c < (if b < a then b else a) then c else (if b < a then b else a)) then d else (if c < (if b < a then b else a) then c else (if b < a then b else a))
theorem min4_pos (a b c d : Int) : 0 ≤ min4 a b c d ↔ (0 ≤ a ∧ 0 ≤ b) ∧ 0 ≤ c ∧ 0 ≤ d := by
  unfold min4
  (repeat' split) <;> omega
theorem run_min4 (ts : Array TypeId) (t : TypeId) (a b c d : Int) (w : World) : (Builtin.min_ ts t #[.int .i64 a, .int .i64 b, .int .i64 c, .int .i64 d]).run Try.prog w = .ok (.int .i64 (min4 a b c d)) w := by
  simp [Builtin.min_, Builtin.min2, min4]
/-- the bytes of the entry before, as the loop holds them -/
def LastOk (wr : World) (al la : Value) (pre : List Ent) : Prop :=
  (pre = [] ∧ la = .slice none 0 0) ∨ ∃ pre' y g cg, pre = pre' ++ [y] ∧ la = .slice (some ⟨g, 0, none⟩) 20 cg ∧ Cls wr (some ⟨g, 0, none⟩) (ints .u8 (encB y)) ∧ ∀ k, al.ownBlock = some k → k ≠ g
theorem LastOk.no {w w' : World} {al la : Value} {pre : List Ent} (h : LastOk w al la pre) (hc : Ch No w w') : LastOk w' al la pre := by
  rcases h with h | ⟨p, y, g, cg, h1, h2, h3, h4⟩
  · exact .inl h
  · exact .inr ⟨p, y, g, cg, h1, h2, h3.ch hc (fun _ _ h => h), h4⟩

theorem LastOk.ch {S : Nat → Prop} {w w' : World} {al la : Value} {pre : List Ent} (h : LastOk w al la pre) (hc : Ch S w w') (hS : ∀ g, (∀ k, al.ownBlock = some k → k ≠ g) → ¬ S g) : LastOk w' al la pre := by
  rcases h with h | ⟨p, y, g, cg, h1, h2, h3, h4⟩
  · exact .inl h
  · exact .inr ⟨p, y, g, cg, h1, h2, h3.ch hc (fun a ha => by cases ha; exact hS g h4), h4⟩
theorem EBox.chS {S : Nat → Prop} {w w' : World} {b : Nat} {x : Ent} (h : EBox w b x) (hc : Ch S w w') (hS : ¬ S b) : EBox w' b x := by
  obtain ⟨h0, h1, h2, h3, h4, h5⟩ := h
  exact ⟨hc.cell h0 hS, hc.cell h1 hS, hc.cell h2 hS, hc.cell h3 hS, hc.cell h4 hS, hc.cell h5 hS⟩
theorem appK {P : Program} {ops : Array Oper} {Q : Exit → Act → World → Prop} {a : Act} {w : World} {rest : List Oper} {o : Oper} (hgd : o.guard = none) (s x : Operand) (t e : TypeId)
    (ho : o.op = .call { callee := .builtin .append, args := #[s, x], argTypes := #[t, t] }) (k : IntKind) (z : Int) (bytes : Nat)
    (ht : P.underlying t = some (.slice e)) (hinfo : (P.info? e).map (fun i => (i.zero, i.size, i.bytes)) = some (some (.int k z), 1, bytes))
    (B : Nat) (A0 : Option Addr) (c0 n : Nat) (ys : List Int) (hyn : ys.length = n) (hs : a.eval s = .slice A0 n c0) (hown : OwnS w B e (.slice A0 n c0) (ints k ys)) (A : Option Addr) (c m : Nat) (xs : List Int) (hxm : xs.length = m) (hx : a.eval x = .slice A m c) (hsrc : Cls w A (ints k xs))
    (hn : n + m ≤ maxLen) (hb : (n + m) * bytes ≤ 140737488355328) (hB : B ≤ w.heap.size)
    (h : ∀ A' c' w', OwnS w' B e (.slice A' (n + m) c') (ints k (ys ++ xs)) → Ch (fun i => (Value.slice A0 n c0).ownBlock = some i) w w' → (∀ i, (Value.slice A' (n + m) c').ownBlock = some i → (Value.slice A0 n c0).ownBlock = some i ∨ w.heap.size ≤ i) → wpList P ops Q rest (a.put o.dst (.slice A' (n + m) c')) w') :
    wpList P ops Q (o :: rest) a w := by
  subst hyn
  subst hxm
  refine appI hgd s x t e ho k z bytes ht hinfo B A0 c0 ys hs hown A c xs hx hsrc hn hb hB ?_
  intro A' c' w' h1 h2 h3
  rw [List.length_append] at h1 h3
  exact h A' c' w' h1 h2 h3

set_option maxHeartbeats 16000000 in
set_option maxRecDepth 100000 in
theorem entryBack_core (W : World) (A : Option Addr) (c : Nat) (xs : List Ent) (Ab : Option Addr) (cb : Nat) (b : List Int) (hx : Rws W A 6 (xs.map Ent.enc)) (hws : ∀ y ∈ xs, wfE y) (hxl : xs.length ≤ 140737488351232) (hb : Cls W Ab (ints .u8 b)) (hbb : ∀ z ∈ b, isB z) (hbc : b.length ≤ cb) (hbl : b.length ≤ 140737488351232) :
    Calls Try.prog 9 #[.slice A xs.length c, .slice Ab b.length cb] W fun e w' => e = .returned (.bool true) ∧ Ch No W w' := by
  have al := fun w => entAlive_any w
  obtain ⟨N, hN⟩ : ∃ N, xs.length = N := ⟨_, rfl⟩
  obtain ⟨M, hM⟩ : ∃ M, b.length = M := ⟨_, rfl⟩
  have HX := Lib.hid (And.intro hN (And.intro hx hws))
  have HB := Lib.hid (And.intro hM (And.intro hb hbb))
  rw [hN] at hxl ⊢
  rw [hM] at hbl hbc ⊢
  clear hN hM hx hws hb hbb
  by_cases h20 : 20 < N
  · go_enter Try.func9, Try.ntmps9
    go_wp2_with fail
    refine (al _).mono ?_
    rintro e w1 ⟨rfl, h1⟩
    have H1 := Lib.hid h1
    clear h1 al
    go_wp2_with fail
    go_ret
    exact ⟨rfl, H1.out⟩
  by_cases h300 : 300 < M
  · go_enter Try.func9, Try.ntmps9
    go_wp2_with fail
    refine (al _).mono ?_
    rintro e w1 ⟨rfl, h1⟩
    have H1 := Lib.hid h1
    clear h1 al
    go_wp2_with fail
    go_ret
    exact ⟨rfl, H1.out⟩
  have HWE := Lib.hid (fun (y : Ent) (hy : okE y = true) w => EWrite_own y w hy)
  have HWB := Lib.hid (fun (y : Ent) (hy : okE y = false) w => EWrite_bad y w hy)
  have HCK := Lib.hid (fun (y : Ent) w => Check_any y w)
  have HLE := Lib.hid (fun (x y : Ent) w => Less_any x y w)
  unfold Ent.val at HWE HWB HCK HLE
  go_enter Try.func9, Try.ntmps9
  go_wp2_with fail
  refine (al _).mono ?_
  rintro e w1 ⟨rfl, h1⟩
  have S0 : Hid (OwnS (w1.alloc (.cells #[] 5)) W.heap.size 5 (.slice (some ⟨w1.heap.size, 0, none⟩) 0 0) (ints .u8 (allB [])) ∧ Ch No W (w1.alloc (.cells #[] 5))) :=
    Lib.hid ⟨by simpa [ints, allB] using OwnS.lit w1 W.heap.size 5 [] h1.size (by simp), h1.alloc _⟩
  clear h1 al
  go_wp2_with fail
  go_loopw [5, 6, 7, 8, 9, 10, 11, 12, 33] (fun al la _ _ _ _ _ _ i wr => ∃ (pre post : List Ent) (p : Nat), Hid (xs = pre ++ post ∧ (∀ y ∈ pre, okE y = true) ∧ pre.length = p) ∧ i = .int .i64 p ∧ Hid (∃ A1 c1, al = .slice A1 (20 * p) c1 ∧ OwnS wr W.heap.size 5 al (ints .u8 (allB pre)) ∧ Ch No W wr) ∧ Hid (LastOk wr al la pre)) (fun _ _ _ _ _ _ _ _ i _ => N - (intOf i).toNat)
  case atStart => exact ⟨[], xs, 0, Lib.hid ⟨rfl, by simp, rfl⟩, rfl, Lib.hid ⟨_, _, rfl, S0.out⟩, Lib.hid (.inl ⟨rfl, rfl⟩)⟩
  case round =>
    clear S0
    obtain ⟨pre, post, p, hxp, rfl, hst, hla⟩ := hrel
    obtain ⟨A1, c1, rfl, hown, hch⟩ := hst.out
    have HST := Lib.hid (And.intro hown hch)
    have hsz := hch.size
    clear hown hch hst
    have hln := congrArg List.length hxp.out.1
    rw [HX.out.1, List.length_append, hxp.out.2.2] at hln
    have hal := allB_len pre
    rw [hxp.out.2.2] at hal
    obtain ⟨ys, hys⟩ : ∃ ys, allB pre = ys := ⟨_, rfl⟩
    rw [hys] at hal HST
    have HA := Lib.hid (And.intro hal hys)
    clear hal hys
    cases post with
    | nil =>
      simp at hln
      have hn1 : N ≤ p := by omega
      have hn2 : p ≤ N := by omega
      have hp20 : p ≤ 20 := by omega
      clear hln
      have hpre : pre = xs := by
        have h1 := hxp.out.1
        simpa using h1.symm
      have hok : ∀ y ∈ pre, okE y = true ∧ wfE y := fun y hy => ⟨hxp.out.2.1 y hy, HX.out.2.2 y (by rw [← hpre]; exact hy)⟩
      have hbat : bat ys = pre := by
        have := bat_all pre hok []
        rw [HA.out.2, List.append_nil] at this
        rw [this, bat_nil (by simp), List.append_nil]
      have hyb : ∀ z ∈ ys, isB z := fun z hz => allB_isB pre z (by rw [HA.out.2]; exact hz)
      have kB := fun (w' : World) A' c' (h : Cls w' A' (ints .u8 ys)) (hc' : ys.length ≤ c') => batch_any w' A' c' ys h hyb (by rw [HA.out.1]; omega) hc' pre hbat.symm 1000
      have HKB : Hid (∀ (w' : World) A' c', Cls w' A' (ints .u8 ys) → 20 * p ≤ c' → Calls Try.prog 33 #[.slice A' (20 * p) c', .int .i64 1000] w' fun e w'' => ∃ A2 c2, e = .returned (.tuple #[.slice A2 p c2, .bool true]) ∧ Rws w'' A2 6 (pre.map Ent.enc) ∧ Ch No w' w'') := Lib.hid (fun w' A' c' h hc' => by
        have hk := kB w' A' c' h (by rw [HA.out.1]; exact hc')
        rw [HA.out.1] at hk
        refine hk.mono ?_
        rintro e w'' ⟨v, rfl, hv, h2⟩
        rw [List.take_of_length_le (by rw [hxp.out.2.2]; simp; omega)] at hv
        obtain ⟨A2, c2, rfl⟩ := row_shape hv
        rw [hxp.out.2.2] at hv ⊢
        exact ⟨A2, c2, rfl, rowE_rws hv hxp.out.2.2.symm, h2⟩)
      have HPX := Lib.hid hpre
      clear kB hbat hyb hok hpre
      have hcl := HST.out.1.cls
      rw [ints_length, HA.out.1] at hcl
      have HCL := Lib.hid (And.intro hcl.1 hcl.2.1)
      clear hcl
      go_wp2_with fail
      refine (HKB.out _ _ _ HCL.out.1 HCL.out.2).mono ?_
      rintro e w3 ⟨A3, c3, rfl, s3, h3⟩
      have H3 := Lib.hid (And.intro (HST.out.2.trans h3) s3)
      clear h3 s3 HCL HKB HST
      go_wp2_with fail
      have heq : Hid (∀ (z : Ent) (w : World), (Op.equalIn 10000 32 (.agg #[.int .i64 z.t, .int .i64 z.arg, .int .i64 z.tenant, .int .i64 z.person, .int .i64 z.kind, .int .i64 z.code]) (.agg #[.int .i64 z.t, .int .i64 z.arg, .int .i64 z.tenant, .int .i64 z.person, .int .i64 z.kind, .int .i64 z.code])).run Try.prog w = .ok true w) :=
        Lib.hid (fun z w => by have := eqE_run z z w; simpa only [decide_true] using this)
      go_loopw [15, 132] (fun _ i wr => ∃ (q1 q2 : List Ent) (q : Nat), Hid (pre = q1 ++ q2 ∧ q1.length = q) ∧ i = .int .i64 q ∧ Hid (Ch No w3 wr)) (fun _ i _ => p - (intOf i).toNat)
      case atStart => exact ⟨[], pre, 0, Lib.hid ⟨rfl, rfl⟩, rfl, Lib.hid (Ch.refl _ _)⟩
      case round =>
        obtain ⟨q1, q2, q, hq, rfl, hw⟩ := hrel
        have hln2 := congrArg List.length hq.out.1
        rw [hxp.out.2.2, List.length_append, hq.out.2] at hln2
        cases q2 with
        | cons a q2 =>
          rw [List.length_cons] at hln2
          have hqp : q < p := by omega
          clear hln2
          obtain ⟨g8, o8, rfl, k0, k1, k2, k3, k4, k5⟩ := (H3.out.2.no hw.out).ent hq.out.1
          obtain ⟨g9, o9, rfl, r0, r1, r2, r3, r4, r5⟩ := (HX.out.2.1.no (H3.out.1.trans hw.out)).ent (by rw [← HPX.out]; exact hq.out.1)
          rw [hq.out.2] at k0 k1 k2 k3 k4 k5 r0 r1 r2 r3 r4 r5
          have hea := heq.out a
          go_wp2_with fail
          go_region
          go_wp2_with fail
          go_roundw
          case rel => exact ⟨q1 ++ [a], q2, q + 1, Lib.hid ⟨by rw [hq.out.1]; simp, by simp [hq.out.2]⟩, by simp, Lib.hid hw.out.drew⟩
          case measure => simp [intOf]; omega
        | nil =>
          simp at hln2
          have hqp : p ≤ q := by omega
          clear hln2
          have H4 := Lib.hid (H3.out.1.trans hw.out)
          have hrd := ERead_any wr Ab cb b (HB.out.2.1.ch H4.out (fun _ _ h => h)) HB.out.2.2
          have hen : (readE b).2 = 0 → encB (readE b).1 = b := fun h => read_bytes HB.out.2.2 (Prod.ext rfl h)
          have hok2 : (readE b).2 = 0 → okE (readE b).1 = true := fun h => by
            obtain ⟨_, h2, h3⟩ := readE_ok h
            rw [h3]; exact h2
          have hz2 : (readE b).2 ≠ 0 → (readE b).1 = .zero ∧ 0 < (readE b).2 := fun h => ⟨readE_bad h, readE_pos h⟩
          rw [HB.out.1] at hrd
          obtain ⟨z, hz⟩ : ∃ z, (readE b).1 = z := ⟨_, rfl⟩
          obtain ⟨er, her⟩ : ∃ er, (readE b).2 = er := ⟨_, rfl⟩
          rw [hz, her] at hrd hen hok2 hz2
          unfold Ent.val at hrd
          have HR := Lib.hid hrd
          clear hrd hz her
          by_cases he0 : er = 0
          · have hWz := HWE.out z (hok2 he0)
            rw [hen he0] at hWz
            have hSm : ∀ (w' : World) A' c' A'' c'' (m' : Nat), m' = M → Cls w' A' (ints .u8 b) → Cls w' A'' (ints .u8 b) → Calls Try.prog 35 #[.slice A' m' c', .slice A'' M c''] w' fun e w'' => e = .returned (.bool true) ∧ w' = w'' := fun w' A' c' A'' c'' m' hm h1 h2 => by
              subst hm
              have := Same_any w' A' c' b A'' c'' b h1 h2 HB.out.2.2 HB.out.2.2
              simpa only [decide_true, HB.out.1] using this
            have hbl20 := encB_length z
            rw [hen he0, HB.out.1] at hbl20
            have HZ := Lib.hid (And.intro hWz hSm)
            subst he0
            have hM1 : M ≤ 20 := by omega
            have hM2 : 20 ≤ M := by omega
            have HM20 := Lib.hid hbl20
            clear hWz hSm hen hok2 hz2 hbl20
            go_wp2_with fail
            refine HR.out.mono ?_
            rintro e w5 ⟨rfl, h5⟩
            have hH5 := H4.out.trans (h5.alloc (.cells z.enc.toArray 32))
            have bz : EBox (w5.alloc (.cells z.enc.toArray 32)) w5.heap.size z := (Blk.new w5 32 z.enc).ebox
            simp only [Ent.enc] at hH5 bz
            obtain ⟨a0, a1, a2, a3, a4, a5⟩ := bz
            have H5 := Lib.hid hH5
            clear h5 hH5
            go_wp2_with fail
            refine (HZ.out.1 _).mono ?_
            rintro e w6 ⟨g6, c6, rfl, _, s6, _, h6⟩
            have H6 := Lib.hid (And.intro (H5.out.trans h6) s6)
            clear h6 s6 H5 a0 a1 a2 a3 a4 a5
            go_wp2_with fail
            refine (HZ.out.2 w6 (some ⟨g6, 0, none⟩) c6 Ab cb 20 (by omega) H6.out.2 (HB.out.2.1.ch H6.out.1 (fun _ _ h => h))).mono ?_
            rintro e w7 ⟨rfl, rfl⟩
            go_wp2_with fail
            go_ret
            exact ⟨rfl, H6.out.1⟩
          · obtain ⟨hz0, hep⟩ := hz2 he0
            subst hz0
            clear hen hok2 hz2 he0
            have hea := heq.out Ent.zero
            simp only [Ent.zero] at hea HR
            go_wp2_with fail
            refine HR.out.mono ?_
            rintro e w5 ⟨rfl, h5⟩
            have H5 := Lib.hid (H4.out.trans (h5.alloc (.cells #[.int .i64 0, .int .i64 0, .int .i64 0, .int .i64 0, .int .i64 0, .int .i64 0] 32)))
            clear h5
            go_wp2_with fail
            go_ret
            exact ⟨rfl, H5.out⟩
    | cons x post =>
      rw [List.length_cons] at hln
      obtain ⟨gy, oy, rfl, k0, k1, k2, k3, k4, k5⟩ := (HX.out.2.1.no HST.out.2).ent hxp.out.1
      rw [hxp.out.2.2] at k0 k1 k2 k3 k4 k5
      have hlt : p < N := by omega
      have hp20 : p ≤ 20 := by omega
      clear hln
      have hwx : wfE x := HX.out.2.2 x (by rw [hxp.out.1]; simp)
      have hBx : EBox (wr.alloc (.cells x.enc.toArray 32)) wr.heap.size x := (Blk.new wr 32 x.enc).ebox
      have hCx : Ch No wr (wr.alloc (.cells x.enc.toArray 32)) := (Ch.refl No wr).alloc _
      simp only [Ent.enc] at hBx hCx
      have hbs : wr.heap.size < (wr.alloc (.cells x.enc.toArray 32)).heap.size := by simp
      simp only [Ent.enc] at hbs
      have hA1 := fun k h => (HST.out.1.ge k h).2
      obtain ⟨bx, hbx⟩ : ∃ bx, wr.heap.size = bx := ⟨_, rfl⟩
      rw [hbx] at hBx hbs hA1
      have HA1 := Lib.hid (And.intro hbs hA1)
      clear hbs hA1
      cases hox : okE x with
      | false =>
        have hWB := fun w => HWB.out x hox w
        have hCK := fun w => HCK.out x w
        rw [show errE x = 23 from by unfold errE; rw [hox]; rfl] at hCK
        clear hox
        go_wp2_with fail
        refine (hWB _).mono ?_
        rintro e w7 ⟨rfl, h7⟩
        obtain ⟨a0, a1, a2, a3, a4, a5⟩ := hBx.no h7
        have H7 := Lib.hid ((HST.out.2.trans hCx).trans h7)
        clear h7 hWB k0 k1 k2 k3 k4 k5 hCx hBx
        go_wp2_with fail
        refine (hCK _).mono ?_
        rintro e w8 ⟨rfl, h8⟩
        have H8 := Lib.hid (H7.out.trans h8)
        clear h8 hCK
        go_wp2_with fail
        go_ret
        exact ⟨rfl, H8.out⟩
      | true =>
        have hWE := fun w => HWE.out x hox w
        have hzl := encB_length x
        have hzb := encB_isB x
        have hsn := allB_snoc pre x
        rw [HA.out.2] at hsn
        have hre := readE_encB x hwx.1 hwx.2 hox
        have hrd := fun (w' : World) A' c' h => ERead_any w' A' c' (encB x) h hzb
        rw [hre] at hrd
        obtain ⟨zs, hzs⟩ : ∃ zs, encB x = zs := ⟨_, rfl⟩
        rw [hzs] at hWE hzl hsn hrd
        rw [hzl] at hrd
        unfold Ent.val at hrd
        have hea := eqE_run x x
        simp only [decide_true] at hea
        have HZ := Lib.hid (And.intro hzl (And.intro hsn (And.intro hox (And.intro hzs (And.intro hrd hwx)))))
        clear hox hzl hzb hsn hre hzs hrd hwx
        go_wp2_with fail
        refine (hWE _).mono ?_
        rintro e w7 ⟨g7, c7, rfl, o7, s7, l7, h7⟩
        have h7' : Ch No wr w7 := hCx.trans h7
        have hg7 := o7.ge g7 (by simp [Value.ownBlock])
        have hA1 := HA1.out.2
        have HG := Lib.hid (And.intro (Nat.lt_of_lt_of_le HA1.out.1 hg7.1) (And.intro hg7.2 hA1))
        have H7 := Lib.hid (And.intro (HST.out.1.ch h7' (fun _ _ h => h)) (And.intro (HST.out.2.trans h7') (And.intro s7 (And.intro (hBx.no h7) (hla.out.no h7')))))
        clear h7 h7' s7 o7 l7 hg7 hA1 HA1 hWE k0 k1 k2 k3 k4 k5 hCx hBx HST hla
        clear hbx
        go_wp2_with fail
        refine (HZ.out.2.2.2.2.1 _ _ _ H7.out.2.2.1).mono ?_
        rintro e w8 ⟨rfl, h8⟩
        have h8' : Ch No w7 (w8.alloc (.cells x.enc.toArray 32)) := h8.alloc _
        have hw9s := h8'.size
        have hBy : EBox (w8.alloc (.cells x.enc.toArray 32)) w8.heap.size x := (Blk.new w8 32 x.enc).ebox
        simp only [Ent.enc] at h8' hBy hw9s
        have HW9 := Lib.hid hw9s
        clear hw9s
        have H8 := Lib.hid (And.intro (H7.out.1.ch h8' (fun _ _ h => h)) (And.intro (H7.out.2.1.trans h8') (And.intro (H7.out.2.2.1.ch h8' (fun _ _ h => h)) (And.intro (H7.out.2.2.2.1.no h8') (H7.out.2.2.2.2.no h8')))))
        obtain ⟨a0, a1, a2, a3, a4, a5⟩ := H8.out.2.2.2.1
        obtain ⟨d0, d1, d2, d3, d4, d5⟩ := hBy
        clear h8 h8' H7
        go_upto_region 16 with fail
        clear hea d0 d1 d2 d3 d4 d5 a0 a1 a2 a3 a4 a5
        generalize w8.alloc (.cells #[.int .i64 x.t, .int .i64 x.arg, .int .i64 x.tenant, .int .i64 x.person, .int .i64 x.kind, .int .i64 x.code] 32) = w9 at *
        generalize w8.heap.size = b9 at *
        have hw9 : g7 < w9.heap.size := Nat.lt_of_lt_of_le HG.out.2.1 HW9.out
        go_wp2_with (at_builtin; refine appK rfl (.tmp 60) (.tmp 61) 58 5 rfl .u8 0 1 Try.underlying58 u8info W.heap.size A1 c1 (20 * p) ys HA.out.1 rfl H8.out.1 (some ⟨g7, 0, none⟩) c7 20 zs HZ.out.1 rfl H8.out.2.2.1 ?hn ?hb ?hB ?_)
        case hn => simp [maxLen]; omega
        case hb => omega
        case hB => exact H8.out.2.1.size
        intro A10 cc10 w10 o10 h10 n10
        have hge1 : ∀ k, (Value.slice A1 (20 * p) c1).ownBlock = some k → W.heap.size ≤ k ∧ k < bx := fun k hk => ⟨(H8.out.1.ge k hk).1, HG.out.2.2 k hk⟩
        have hbg := HG.out.1
        have c10 : Ch No W w10 := H8.out.2.1.trans' h10 (fun i hi he => by have := (hge1 i he).1; omega)
        have hbx : EBox w10 bx x := H8.out.2.2.2.1.chS h10 (fun he => by have := (hge1 _ he).2; omega)
        have z10 : Cls w10 (some ⟨g7, 0, none⟩) (ints .u8 zs) := H8.out.2.2.1.ch h10 (fun a ha he => by cases ha; have := (hge1 _ he).2; simp at this; omega)
        have n7 : ∀ k, (Value.slice A10 (20 * p + 20) cc10).ownBlock = some k → k ≠ g7 := fun k hk => by
          rcases n10 k hk with h | h
          · have := (hge1 _ h).2; omega
          · omega
        have HN := Lib.hid (And.intro c10 (And.intro o10 (And.intro z10 n7)))
        have hla10 := H8.out.2.2.2.2.ch h10 (fun k hk he => hk k he rfl)
        have hHX := HX.out.2.1.no c10
        clear h10 n10 hge1 hbg o10 H8 hw9 HW9
        obtain ⟨a0, a1, a2, a3, a4, a5⟩ := hbx
        replace a0 := in_cell a0
        replace a1 := in_cell a1
        replace a2 := in_cell a2
        replace a3 := in_cell a3
        replace a4 := in_cell a4
        replace a5 := in_cell a5
        rcases hla10 with ⟨hp0, hu6⟩ | ⟨pre', y, g, cg, hpre, rfl, zy, hyn⟩
        · have hp1 : ¬ 0 < p := by
            have := hxp.out.2.2
            rw [hp0] at this
            simp at this
            omega
          have hp2 : ¬ (0 : Int) < (p : Int) := by omega
          clear hu6 hHX z10 hp0 c10 n7
          go_wp2_with fail
          (refine wp_region_in (Ch No _) (by kernel_rfl) (by kernel_rfl) (Ch.refl _ _) (fun _ h => ch_drawn h) ?_)
          repeat (go_big_quiet_step (fail))
          (refine wpQuiet_nil ?_; intro wq0 hw'; obtain ⟨pw, hw''⟩ := hw'; subst hw'')
          have HW := Lib.hid pw.h
          generalize pw.w = w12 at *
          clear pw
          have HF := Lib.hid (And.intro (HN.out.1.trans HW.out) (And.intro (HN.out.2.1.ch HW.out (fun _ _ h => h)) (And.intro (HN.out.2.2.1.ch HW.out (fun _ _ h => h)) HN.out.2.2.2)))
          clear HN HW a0 a1 a2 a3 a4 a5
          clear hp1 hp2
          go_wp2_with fail
          go_roundw
          case rel => exact ⟨pre ++ [x], post, p + 1, Lib.hid ⟨by rw [hxp.out.1]; simp, fun z hz => (List.mem_append.1 hz).elim (hxp.out.2.1 z) (fun h => by rw [List.mem_singleton.1 h]; exact HZ.out.2.2.1), by simp [hxp.out.2.2]⟩, by simp, Lib.hid ⟨A10, cc10, rfl, by have := HF.out.2.1; rw [← HZ.out.2.1] at this; exact this, HF.out.1⟩, Lib.hid (.inr ⟨pre, x, g7, c7, rfl, rfl, by rw [HZ.out.2.2.2.1]; exact HF.out.2.2.1, HF.out.2.2.2⟩)⟩
          case measure => simp [intOf]; omega
        · obtain ⟨q, hq⟩ : ∃ q, pre'.length = q := ⟨_, rfl⟩
          have hpq : p = q + 1 := by
            have := hxp.out.2.2
            rw [hpre, List.length_append, hq] at this
            simpa using this.symm
          obtain ⟨g8, o8, hA8, d0, d1, d2, d3, d4, d5⟩ := hHX.ent (pre := pre') (a := y) (post := x :: post) (by rw [hxp.out.1, hpre]; simp)
          obtain ⟨rfl, rfl⟩ : gy = g8 ∧ oy = o8 := by simpa using hA8
          rw [hq] at d0 d1 d2 d3 d4 d5
          replace d0 := in_cell d0
          replace d1 := in_cell d1
          replace d2 := in_cell d2
          replace d3 := in_cell d3
          replace d4 := in_cell d4
          replace d5 := in_cell d5
          have e1 : IntKind.i64.wrap ((p : Int) - 1) = (q : Int) := by rw [IntWalk.i64_in _ (by omega)]; omega
          have e2 : (p : Int) - 1 = (q : Int) := by omega
          have e3 : 0 < p := by omega
          have e4 : (0 : Int) < (p : Int) := by omega
          have e5 : q < N := by omega
          have e6 : (q : Int) < (N : Int) := by omega
          have hmn := fun ts t w => run_min4 ts t x.tenant x.person y.tenant y.person w
          have hmp := (min4_pos x.tenant x.person y.tenant y.person).1
          have hok := hxp.out.2.1 y (by rw [hpre]; simp)
          have hwy : wfE y := HX.out.2.2 y (by rw [hxp.out.1, hpre]; simp)
          have hls : 0 ≤ x.arg → 0 ≤ y.arg → 0 ≤ min4 x.tenant x.person y.tenant y.person → Op.bytesLess (strOfNums (encB y)).toList (strOfNums zs).toList = lessE y x := fun h1 h2 h3 => by
            rw [← HZ.out.2.2.2.1, bytesLess_str (by rw [encB_length, encB_length]) (encB_isB y) (encB_isB x)]
            have hm := hmp h3
            exact less_bytes hok HZ.out.2.2.1 hwy HZ.out.2.2.2.2.2 ⟨h2, hm.2⟩ ⟨h1, hm.1⟩
          have hL := fun w => HLE.out y x w
          have s1 : ∀ pp : In (Ch No w10), (convert 58 9 (.slice (some ⟨g, 0, none⟩) 20 cg)).run Try.prog pp.w = .ok (.string (strOfNums (encB y))) pp.w := fun pp => by
            have := conv_bytes pp.w _ cg (encB y) (zy.ch pp.h (fun _ _ h => h))
            rwa [encB_length] at this
          have s2 : ∀ pp : In (Ch No w10), (convert 58 9 (.slice (some ⟨g7, 0, none⟩) 20 c7)).run Try.prog pp.w = .ok (.string (strOfNums zs)) pp.w := fun pp => by
            have := conv_bytes pp.w _ c7 zs (z10.ch pp.h (fun _ _ h => h))
            rwa [HZ.out.1] at this
          generalize strOfNums (encB y) = sy at *
          generalize strOfNums zs = sx at *
          generalize lessE y x = lb at *
          generalize min4 x.tenant x.person y.tenant y.person = mn at *
          have HL := Lib.hid hL
          have hcs : (¬ 0 ≤ x.arg) ∨ (0 ≤ x.arg ∧ ¬ 0 ≤ y.arg) ∨ (0 ≤ x.arg ∧ 0 ≤ y.arg ∧ ¬ 0 ≤ mn) ∨ (0 ≤ x.arg ∧ 0 ≤ y.arg ∧ 0 ≤ mn ∧ Op.bytesLess sy.toList sx.toList = lb) := by
            by_cases h1 : 0 ≤ x.arg
            · by_cases h2 : 0 ≤ y.arg
              · by_cases h3 : 0 ≤ mn
                · exact .inr (.inr (.inr ⟨h1, h2, h3, hls h1 h2 h3⟩))
                · exact .inr (.inr (.inl ⟨h1, h2, h3⟩))
              · exact .inr (.inl ⟨h1, h2⟩)
            · exact .inl h1
          clear hL hls hmp hok hwy hpq hq hA8 hpre hHX zy z10 hyn c10 n7
          rcases hcs with h1 | ⟨h1, h2⟩ | ⟨h1, h2, h3⟩ | ⟨h1, h2, h3, h4⟩
          · clear s1 s2 hmn
            replace h1 : decide (0 ≤ x.arg) = false := decide_eq_false h1
            go_wp2_with fail
            (refine wp_region_in (Ch No _) (by kernel_rfl) (by kernel_rfl) (Ch.refl _ _) (fun _ h => ch_drawn h) ?_)
            repeat (go_big_quiet_step (fail))
            (refine wpQuiet_nil ?_; intro wq0 hw'; obtain ⟨pw, hw''⟩ := hw'; subst hw'')
            have HW := Lib.hid pw.h
            generalize pw.w = w12 at *
            clear pw
            have HF := Lib.hid (And.intro (HN.out.1.trans HW.out) (And.intro (HN.out.2.1.ch HW.out (fun _ _ h => h)) (And.intro (HN.out.2.2.1.ch HW.out (fun _ _ h => h)) HN.out.2.2.2)))
            clear HN HW a0 a1 a2 a3 a4 a5
            clear d0 d1 d2 d3 d4 d5 e1 e2 e3 e4 e5 e6 h1
            go_wp2_with fail
            go_roundw
            case rel => exact ⟨pre ++ [x], post, p + 1, Lib.hid ⟨by rw [hxp.out.1]; simp, fun z hz => (List.mem_append.1 hz).elim (hxp.out.2.1 z) (fun h => by rw [List.mem_singleton.1 h]; exact HZ.out.2.2.1), by simp [hxp.out.2.2]⟩, by simp, Lib.hid ⟨A10, cc10, rfl, by have := HF.out.2.1; rw [← HZ.out.2.1] at this; exact this, HF.out.1⟩, Lib.hid (.inr ⟨pre, x, g7, c7, rfl, rfl, by rw [HZ.out.2.2.2.1]; exact HF.out.2.2.1, HF.out.2.2.2⟩)⟩
            case measure => simp [intOf]; omega
          · clear s1 s2 hmn
            replace h2 : decide (0 ≤ y.arg) = false := decide_eq_false h2
            go_wp2_with fail
            (refine wp_region_in (Ch No _) (by kernel_rfl) (by kernel_rfl) (Ch.refl _ _) (fun _ h => ch_drawn h) ?_)
            repeat (go_big_quiet_step (fail))
            (refine wpQuiet_nil ?_; intro wq0 hw'; obtain ⟨pw, hw''⟩ := hw'; subst hw'')
            have HW := Lib.hid pw.h
            generalize pw.w = w12 at *
            clear pw
            have HF := Lib.hid (And.intro (HN.out.1.trans HW.out) (And.intro (HN.out.2.1.ch HW.out (fun _ _ h => h)) (And.intro (HN.out.2.2.1.ch HW.out (fun _ _ h => h)) HN.out.2.2.2)))
            clear HN HW a0 a1 a2 a3 a4 a5
            clear d0 d1 d2 d3 d4 d5 e1 e2 e3 e4 e5 e6 h1 h2
            go_wp2_with fail
            go_roundw
            case rel => exact ⟨pre ++ [x], post, p + 1, Lib.hid ⟨by rw [hxp.out.1]; simp, fun z hz => (List.mem_append.1 hz).elim (hxp.out.2.1 z) (fun h => by rw [List.mem_singleton.1 h]; exact HZ.out.2.2.1), by simp [hxp.out.2.2]⟩, by simp, Lib.hid ⟨A10, cc10, rfl, by have := HF.out.2.1; rw [← HZ.out.2.1] at this; exact this, HF.out.1⟩, Lib.hid (.inr ⟨pre, x, g7, c7, rfl, rfl, by rw [HZ.out.2.2.2.1]; exact HF.out.2.2.1, HF.out.2.2.2⟩)⟩
            case measure => simp [intOf]; omega
          · clear s1 s2
            replace h3 : decide (0 ≤ mn) = false := decide_eq_false h3
            go_wp2_with fail
            (refine wp_region_in (Ch No _) (by kernel_rfl) (by kernel_rfl) (Ch.refl _ _) (fun _ h => ch_drawn h) ?_)
            repeat (go_big_quiet_step (fail))
            (refine wpQuiet_nil ?_; intro wq0 hw'; obtain ⟨pw, hw''⟩ := hw'; subst hw'')
            have HW := Lib.hid pw.h
            generalize pw.w = w12 at *
            clear pw
            have HF := Lib.hid (And.intro (HN.out.1.trans HW.out) (And.intro (HN.out.2.1.ch HW.out (fun _ _ h => h)) (And.intro (HN.out.2.2.1.ch HW.out (fun _ _ h => h)) HN.out.2.2.2)))
            clear HN HW a0 a1 a2 a3 a4 a5
            clear d0 d1 d2 d3 d4 d5 e1 e2 e3 e4 e5 e6 h1 h2 h3 hmn
            go_wp2_with fail
            go_roundw
            case rel => exact ⟨pre ++ [x], post, p + 1, Lib.hid ⟨by rw [hxp.out.1]; simp, fun z hz => (List.mem_append.1 hz).elim (hxp.out.2.1 z) (fun h => by rw [List.mem_singleton.1 h]; exact HZ.out.2.2.1), by simp [hxp.out.2.2]⟩, by simp, Lib.hid ⟨A10, cc10, rfl, by have := HF.out.2.1; rw [← HZ.out.2.1] at this; exact this, HF.out.1⟩, Lib.hid (.inr ⟨pre, x, g7, c7, rfl, rfl, by rw [HZ.out.2.2.2.1]; exact HF.out.2.2.1, HF.out.2.2.2⟩)⟩
            case measure => simp [intOf]; omega
          · go_wp2_with fail
            (refine wp_region_in (Ch No _) (by kernel_rfl) (by kernel_rfl) (Ch.refl _ _) (fun _ h => ch_drawn h) ?_)
            repeat (go_big_quiet_step (exact in_ch (by with_reducible exact HL.out _)))
            (refine wpQuiet_nil ?_; intro wq0 hw'; obtain ⟨pw, hw''⟩ := hw'; subst hw'')
            have HW := Lib.hid pw.h
            generalize pw.w = w12 at *
            clear pw
            have HF := Lib.hid (And.intro (HN.out.1.trans HW.out) (And.intro (HN.out.2.1.ch HW.out (fun _ _ h => h)) (And.intro (HN.out.2.2.1.ch HW.out (fun _ _ h => h)) HN.out.2.2.2)))
            clear HN HW a0 a1 a2 a3 a4 a5
            clear d0 d1 d2 d3 d4 d5 e1 e2 e3 e4 e5 e6 h1 h2 h3 h4 hmn s1 s2
            go_wp2_with fail
            go_roundw
            case rel => exact ⟨pre ++ [x], post, p + 1, Lib.hid ⟨by rw [hxp.out.1]; simp, fun z hz => (List.mem_append.1 hz).elim (hxp.out.2.1 z) (fun h => by rw [List.mem_singleton.1 h]; exact HZ.out.2.2.1), by simp [hxp.out.2.2]⟩, by simp, Lib.hid ⟨A10, cc10, rfl, by have := HF.out.2.1; rw [← HZ.out.2.1] at this; exact this, HF.out.1⟩, Lib.hid (.inr ⟨pre, x, g7, c7, rfl, rfl, by rw [HZ.out.2.2.2.1]; exact HF.out.2.2.1, HF.out.2.2.2⟩)⟩
            case measure => simp [intOf]; omega
set_option maxRecDepth 100000 in
theorem entryBack_walk (W : World) (A0 : Option Addr) (n0 c0 : Nat) (Ab : Option Addr) (cb : Nat) (b : List Int) (R0 : Rd Try.prog W 8 45 [.slice A0 n0 c0]) (hx : Cls W Ab (ints .u8 b)) (hc : b.length ≤ cb) (hl : b.length * 1 ≤ 140737488351232) (hw : ∀ x ∈ b, (Lit.int .u8 x).wf = true) :
    Calls Try.prog 9 #[.slice A0 n0 c0, .slice Ab b.length cb] W fun e w' => e = .returned (.bool true) ∧ Below W.heap.size W w' := by
  obtain ⟨A, c, xs, hv, hx0, hws, hl0⟩ := rd_ents R0
  obtain ⟨rfl, rfl, rfl⟩ := Value.slice.inj hv
  exact (entryBack_core W _ _ xs Ab cb b hx0 hws (by omega) hx (fun z hz => by have := bounds_u8 (hw z hz); unfold isB; omega) hc (by omega)).mono fun _ _ ⟨h1, h2⟩ => ⟨h1, h2.same⟩
end Go.Proofs.Ytflpelacjdnplaa
