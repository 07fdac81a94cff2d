/- EntryTurns: an entry with a byte turned is another one, or none: the walk. -/
import Derived.Test.YtflpelacjdnplaaEntEq
import Derived.Test.YtflpelacjdnplaaEntAlive
import Derived.Deep.Cut
import Derived.Deep.OwnRows
import Derived.Deep.RegionHeld3
import Derived.Test.YtflpelacjdnplaaStep
namespace Go.Proofs.Ytflpelacjdnplaa
open Go.RowKit

theorem setI {w : World} {B g n c : Nat} {e : TypeId} {vs : List Value} (h : OwnS w B e (.slice (some ⟨g, 0, none⟩) n c) vs) (i : Nat) (u : Value) : Cls (w.setCell ⟨g, i, none⟩ u) (some ⟨g, 0, none⟩) (vs.set i u) := by
  rcases h.2 with ⟨h1, _⟩ | ⟨g', cap, cur, h1, _, hg, _, _, _, ht⟩
  · simp at h1
  · have hgg : g' = g := by have := (Value.slice.inj h1).1; simp at this; exact this.symm
    subst hgg
    have hb : Blk w g' e cur.toList := by unfold Blk; simpa using hg
    have hb2 := hb.set i u
    intro pre v post ee
    refine ⟨g', 0, rfl, ?_⟩
    rw [Nat.zero_add, hb2.cell pre.length]
    have hj : (vs.set i u)[pre.length]? = some v := by rw [ee]; simp
    have hl : pre.length < vs.length := by
      have := (List.getElem?_eq_some_iff.1 hj).1
      simpa using this
    have hcl : vs.length ≤ cur.toList.length := by
      have := congrArg List.length ht
      simp at this ⊢
      omega
    rw [List.getElem?_set] at hj ⊢
    split
    · rename_i hi
      rw [if_pos hi] at hj
      rw [if_pos (by omega)]
      rw [if_pos (by omega)] at hj
      exact hj
    · rename_i hi
      rw [if_neg hi] at hj
      rw [← hj, ← ht]
      rw [List.getElem?_take_of_lt (by omega)]

/-- bytes of no entry -/
def badB : List Int := 255 :: List.replicate 19 0
theorem badB_read : (readE badB).2 ≠ 0 := by decide +kernel
theorem badB_isB : ∀ b ∈ badB, isB b := by unfold badB isB; simp
theorem bat_bad (l : List Ent) (h : ∀ x ∈ l, okE x = true ∧ wfE x) : bat (allB l ++ (badB ++ allB l)) = l := by
  rw [bat_all l h, bat_nil, List.append_nil]
  rintro ⟨_, h2⟩
  rw [List.take_left' (by rfl)] at h2
  exact badB_read h2
theorem bat_short (l : List Ent) (h : ∀ x ∈ l, okE x = true ∧ wfE x) : bat (allB l ++ badB.take 19) = l := by
  rw [bat_all l h, bat_nil, List.append_nil]
  rintro ⟨h1, _⟩
  simp [badB] at h1
theorem batch_len (w : World) (A : Option Addr) (c n p : Nat) (b : List Int) (l : List Ent) (h : Cls w A (ints .u8 b)) (hb : ∀ z ∈ b, isB z) (hn : b.length = n) (hnl : n ≤ 10000) (hc : n ≤ c) (hl : bat b = l) (hp : l.length = p) :
    Calls Try.prog 33 #[.slice A n c, .int .i64 1000] w fun e w' => ∃ A' c', e = .returned (.tuple #[.slice A' p c', .bool true]) ∧ Ch No w w' := by
  subst hn
  have hbl := bat_len b
  refine (batch_any w A c b h hb (by omega) hc l hl.symm 1000).mono ?_
  rintro e w' ⟨v, rfl, hv, h⟩
  rw [List.take_of_length_le (by rw [hl] at hbl; simp; omega)] at hv
  obtain ⟨A', c', rfl⟩ := row_shape hv
  exact ⟨A', c', by rw [hp], h⟩

set_option maxHeartbeats 8000000 in
set_option maxRecDepth 100000 in
theorem entryTurns_core (W : World) (A : Option Addr) (c : Nat) (xs : List Ent) (x : Ent) (at0 : Int) (tn : Nat) (hx : Rws W A 6 (xs.map Ent.enc)) (hwx : wfE x) (hws : ∀ y ∈ xs, wfE y) (hxl : xs.length ≤ 140737488351232) (htn : tn < 256) :
    Calls Try.prog 11 #[.slice A xs.length c, x.val, .int .i64 at0, .int .u8 tn] W fun e w' => e = .returned (.bool true) ∧ Ch No W w' := by
  have al := fun w => entAlive_any w
  have B1 : EBox (W.alloc (.cells x.enc.toArray 32)) W.heap.size x := (Blk.new W 32 x.enc).ebox
  have C1 : Ch No W (W.alloc (.cells x.enc.toArray 32)) := (Ch.refl No W).alloc _
  simp only [Ent.enc] at B1 C1
  obtain ⟨N, hN⟩ : ∃ N, xs.length = N := ⟨_, rfl⟩
  rw [hN] at hxl ⊢
  by_cases h10 : 10 < N
  · clear hN hx B1
    unfold Ent.val
    go_enter Try.func11, Try.ntmps11
    go_wp2_with fail
    refine (al _).mono ?_
    rintro e w1 ⟨rfl, h1⟩
    have H1 := Lib.hid (C1.trans h1)
    clear h1 C1 al
    go_wp2_with fail
    go_ret
    exact ⟨rfl, H1.out⟩
  cases ho : okE x with
  | false =>
    have kW := fun w => EWrite_bad x w ho
    clear hx hN
    unfold Ent.val at kW ⊢
    go_enter Try.func11, Try.ntmps11
    go_wp2_with fail
    refine (al _).mono ?_
    rintro e w1 ⟨rfl, h1⟩
    obtain ⟨a0, a1, a2, a3, a4, a5⟩ := B1.no h1
    have H1 := Lib.hid (C1.trans h1)
    clear h1 C1 al B1
    go_wp2_with fail
    refine (kW _).mono ?_
    rintro e w2 ⟨rfl, h2⟩
    have H2 := Lib.hid (H1.out.trans h2)
    clear h2 H1
    go_wp2_with fail
    go_ret
    exact ⟨rfl, H2.out⟩
  | true =>
    have kW := fun w => EWrite_own x w ho
    have hbl := encB_length x
    have hbb := encB_isB x
    have hre := readE_encB x hwx.1 hwx.2 ho
    have hrb : ∀ b, (∀ z ∈ b, isB z) → readE b = (x, 0) → encB x = b := fun b h1 h2 => read_bytes h1 h2
    obtain ⟨bs, hbs⟩ : ∃ bs, encB x = bs := ⟨_, rfl⟩
    rw [hbs] at kW hbl hbb hre hrb
    obtain ⟨m, hm, hme⟩ : ∃ m : Nat, m < 256 ∧ bits .and .i64 at0 255 = m := by
      have h := i64_mask at0 8 (by decide)
      have e : ((2 : Int) ^ 8 - 1) = 255 := rfl
      rw [e] at h
      exact ⟨(at0 % 2 ^ 8).toNat, by omega, by rw [h]; omega⟩
    obtain ⟨i, hi, hmi⟩ : ∃ i : Nat, i < 20 ∧ (m : Int).tmod 20 = i := ⟨m % 20, by omega, by rw [Int.tmod_eq_emod_of_nonneg (by omega)]; omega⟩
    obtain ⟨u, hu⟩ : ∃ u : Nat, bs[i]? = some (u : Int) := by
      have h1 : i < bs.length := by omega
      have h2 := hbb bs[i] (List.getElem_mem _)
      unfold isB at h2
      exact ⟨bs[i].toNat, by rw [List.getElem?_eq_getElem h1]; congr 1; omega⟩
    have hub : u < 256 := by
      have := hbb u (List.mem_of_getElem? hu)
      unfold isB at this
      omega
    obtain ⟨v, hv⟩ : ∃ v, u ^^^ tn = v := ⟨_, rfl⟩
    have hvb : v < 256 := by rw [← hv]; exact Nat.xor_lt_two_pow (n := 8) hub htn
    have hxor : bits .xor .u8 (u : Int) (tn : Int) = (v : Int) := by
      rw [← hv]
      exact u8_xor_nat u tn hub htn
    have hsb : ∀ z ∈ bs.set i (v : Int), isB z := fun z hz => by
      rcases List.mem_or_eq_of_mem_set hz with h | h
      · exact hbb z h
      · subst h; unfold isB; omega
    have kR := fun w A c h => ERead_any w A c (bs.set i (v : Int)) h hsb
    rw [show (bs.set i (v : Int)).length = 20 from by simp [hbl]] at kR
    obtain ⟨z, hz⟩ : ∃ z, (readE (bs.set i (v : Int))).1 = z := ⟨_, rfl⟩
    obtain ⟨er, her⟩ : ∃ er, (readE (bs.set i (v : Int))).2 = er := ⟨_, rfl⟩
    have hcase : (tn = 0 ∧ z = x ∧ er = 0) ∨ (0 < tn ∧ 0 < er) ∨ (0 < tn ∧ er = 0 ∧ z ≠ x) := by
      rcases Nat.eq_zero_or_pos tn with h0 | h0
      · left
        have hvu : v = u := by rw [← hv, h0, Nat.xor_zero]
        have hset : bs.set i (v : Int) = bs := by
          rw [hvu]
          have h1 : i < bs.length := by omega
          have h2 : (u : Int) = bs[i] := by rw [List.getElem?_eq_getElem h1] at hu; exact (Option.some.inj hu).symm
          rw [h2, List.set_getElem_self]
        rw [hset, hre] at hz her
        exact ⟨h0, hz.symm, her.symm⟩
      · right
        by_cases he : er = 0
        · right
          refine ⟨h0, he, fun hzx => ?_⟩
          have hb := hrb (bs.set i (v : Int)) hsb (Prod.ext (by rw [hz, hzx]) (by rw [her, he]))
          have h1 : i < bs.length := by omega
          have h2 : (bs.set i (v : Int))[i]? = some (v : Int) := by rw [List.getElem?_set]; simp [h1]
          rw [← hb, hu] at h2
          have : u = v := by have := Option.some.inj h2; omega
          rw [← hv] at this
          have h3 : tn = 0 := by
            have h4 := congrArg (fun q => u ^^^ q) this
            simp only [Nat.xor_self] at h4
            rw [← Nat.xor_assoc, Nat.xor_self, Nat.zero_xor] at h4
            exact h4.symm
          omega
        · left
          exact ⟨h0, by rw [← her] at he ⊢; exact readE_pos he⟩
    rw [hz, her] at kR
    have hcu : (ints .u8 bs)[i]? = some (.int .u8 u) := by simp [ints, hu]
    have hsi : (ints .u8 bs).set i (.int .u8 v) = ints .u8 (bs.set i (v : Int)) := by simp [ints, List.map_set]
    have hq : ∀ w, (Op.equalIn 10000 32 (.agg #[.int .i64 z.t, .int .i64 z.arg, .int .i64 z.tenant, .int .i64 z.person, .int .i64 z.kind, .int .i64 z.code]) (.agg #[.int .i64 x.t, .int .i64 x.arg, .int .i64 x.tenant, .int .i64 x.person, .int .i64 x.kind, .int .i64 x.code])).run Try.prog w = .ok (decide (z = x)) w := fun w => eqE_run z x w
    obtain ⟨L, hLL⟩ : ∃ L, bs.length = L := ⟨_, rfl⟩
    have HX := Lib.hid (And.intro hN (And.intro hx hws))
    have HI := Lib.hid (And.intro hcu (And.intro hsi hbl))
    have HW := Lib.hid (And.intro kW kR)
    clear hN hx hcu hsi hsb hbb hre hrb hbs hu hv kW kR hz her hbl hLL hws hwx ho L
    unfold Ent.val at HW ⊢
    go_enter Try.func11, Try.ntmps11
    go_wp2_with fail
    refine (al _).mono ?_
    rintro e w1 ⟨rfl, h1⟩
    obtain ⟨b1, hb1⟩ : ∃ b, W.heap.size = b := ⟨_, rfl⟩
    rw [hb1] at B1 ⊢
    have HB := Lib.hid (And.intro (C1.trans h1) (And.intro (B1.no h1) hb1))
    clear h1 C1 al B1 hb1
    obtain ⟨a0, a1, a2, a3, a4, a5⟩ := HB.out.2.1
    go_wp2_with fail
    refine (HW.out.1 _).mono ?_
    rintro e w2 ⟨g, cg, rfl, o2, s2, l2, h2⟩
    have hgb := o2.ge g rfl
    have hb1g : b1 < g := Nat.lt_of_lt_of_le HB.out.2.1.lt hgb.1
    have hcl := o2.frozen i
    have hci : w2.cell? ⟨g, i, none⟩ = some (.int .u8 u) := by
      obtain ⟨b', off', e', hc'⟩ := s2.get i (by rw [HI.out.2.2]; exact hi)
      cases e'
      have h3 := HI.out.1
      rw [List.getElem?_eq_getElem (by simp [HI.out.2.2]; exact hi)] at h3
      have h4 := Option.some.inj h3
      simp only [ints, List.getElem_map] at h4
      rw [h4, Nat.zero_add] at hc'
      exact hc'
    have hO : Ch (Only g) w2 (w2.setCell ⟨g, i, none⟩ (.int .u8 v)) := (Ch.refl (Only g) w2).setCell (p := ⟨g, i, none⟩) (fun _ => rfl) _
    have s3 := setI o2 i (.int .u8 v)
    rw [HI.out.2.1] at s3
    have HB2 := Lib.hid (And.intro ((HB.out.1.trans h2).rd0 (by have := HB.out.2.2; omega) hO) (And.intro ((HB.out.2.1.no h2).ch hO (by intro h; have h' : b1 = g := h; omega)) s3))
    clear o2 s2 h2 hgb hO s3 HB a0 a1 a2 a3 a4 a5
    go_upto_region 9 with fail
    generalize w2.setCell ⟨g, i, none⟩ (.int .u8 v) = w3 at *
    clear hcl hci
    go_wp2_with fail
    refine (HW.out.2 _ _ _ HB2.out.2.2).mono ?_
    rintro e w4 ⟨rfl, h4⟩
    have h4' : Ch No w3 (w4.alloc (.cells z.enc.toArray 32)) := h4.alloc _
    have Bz : EBox (w4.alloc (.cells z.enc.toArray 32)) w4.heap.size z := (Blk.new w4 32 z.enc).ebox
    simp only [Ent.enc] at h4' Bz
    have HB4 := Lib.hid (HB2.out.1.trans h4')
    obtain ⟨a0, a1, a2, a3, a4, a5⟩ := HB2.out.2.1.no h4'
    obtain ⟨d0, d1, d2, d3, d4, d5⟩ := Bz
    clear h4 h4' HB2
    go_upto_region 10 with fail
    generalize w4.alloc (.cells #[.int .i64 z.t, .int .i64 z.arg, .int .i64 z.tenant, .int .i64 z.person, .int .i64 z.kind, .int .i64 z.code] 32) = w5 at *
    generalize w4.heap.size = b4 at *
    have HWE := Lib.hid (fun (y : Ent) (hy : okE y = true) w => EWrite_own y w hy)
    have HWB := Lib.hid (fun (y : Ent) (hy : okE y = false) w => EWrite_bad y w hy)
    unfold Ent.val at HWE HWB
    rcases hcase with ⟨htz, hzx, he⟩ | ⟨htz, he⟩ | ⟨htz, he, hzx⟩
    all_goals
      first
        | (have hd : decide (z = x) = true := decide_eq_true hzx
           simp only [hd] at hq
           clear hd hzx
           replace htz : tn ≤ 0 := by omega
           subst he
           go_upto_region 12 with fail)
        | (have hd : decide (z = x) = false := decide_eq_false hzx
           simp only [hd] at hq
           clear hd hzx
           subst he
           go_upto_region 12 with fail)
        | go_upto_region 12 with fail
    all_goals
      clear hq a0 a1 a2 a3 a4 a5 d0 d1 d2 d3 d4 d5 HW HI
      have S0 : Hid (OwnS (w5.alloc (.cells #[] 5)) W.heap.size 5 (.slice (some ⟨w5.heap.size, 0, none⟩) 0 0) (ints .u8 (allB [])) ∧ Ch No W (w5.alloc (.cells #[] 5))) :=
        Lib.hid ⟨by simpa [ints, allB] using OwnS.lit w5 W.heap.size 5 [] HB4.out.size (by simp), HB4.out.alloc _⟩
      go_wp2_with fail
      go_loopw [13, 14, 16, 17, 18, 82] (fun out n _ _ _ i wr => ∃ (pre post : List Ent) (p : Nat), Hid (xs = pre ++ post ∧ (∀ y ∈ pre, okE y = true) ∧ pre.length = p) ∧ i = .int .i64 p ∧ n = .int .i64 p ∧ Hid (∃ A1 c1, out = .slice A1 (20 * p) c1 ∧ OwnS wr W.heap.size 5 out (ints .u8 (allB pre)) ∧ Ch No W wr)) (fun _ _ _ _ _ i _ => N - (intOf i).toNat)
      case atStart => exact ⟨[], xs, 0, Lib.hid ⟨rfl, by simp, rfl⟩, rfl, rfl, Lib.hid ⟨_, _, rfl, S0.out⟩⟩
      case round =>
        clear S0 HB4
        obtain ⟨pre, post, p, hxp, rfl, rfl, hst⟩ := hrel
        obtain ⟨A1, c1, rfl, hown, hch⟩ := hst.out
        have HST := Lib.hid (And.intro hown hch)
        have hsz := hch.size
        clear hown hch hst
        have hln := congrArg List.length hxp.out.1
        rw [HX.out.1, List.length_append, hxp.out.2.2] at hln
        have hal := allB_len pre
        rw [hxp.out.2.2] at hal
        obtain ⟨ys, hys⟩ : ∃ ys, allB pre = ys := ⟨_, rfl⟩
        rw [hys] at hal HST
        have HA := Lib.hid (And.intro hal hys)
        clear hal hys
        cases post with
        | nil =>
          simp at hln
          have hn1 : N ≤ p := by omega
          have hp10 : p ≤ 10 := by omega
          clear hln
          have hpre : pre = xs := by
            have h1 := hxp.out.1
            simpa using h1.symm
          have hok : ∀ y ∈ pre, okE y = true ∧ wfE y := fun y hy => ⟨hxp.out.2.1 y hy, HX.out.2.2 y (by rw [← hpre]; exact hy)⟩
          have kB := fun (w' : World) A' c' (h : Cls w' A' (ints .u8 (ys ++ (badB ++ ys)))) (hc' : 20 * p + 20 + 20 * p ≤ c') => batch_len w' A' c' (20 * p + 20 + 20 * p) p (ys ++ (badB ++ ys)) pre h (by
              intro b hb
              rcases List.mem_append.1 hb with hb | hb
              · rw [← HA.out.2] at hb; exact allB_isB pre b hb
              · rcases List.mem_append.1 hb with hb | hb
                · exact badB_isB b hb
                · rw [← HA.out.2] at hb; exact allB_isB pre b hb)
            (by rw [List.length_append, List.length_append, HA.out.1, show badB.length = 20 from rfl]; omega) (by omega) hc' (by rw [← HA.out.2]; exact bat_bad pre hok) hxp.out.2.2
          have kS := fun (n : Nat) (hnn : n = 20 * p + 19) (w' : World) A' c' (h : Cls w' A' (ints .u8 (ys ++ badB.take 19))) (hc' : n ≤ c') => batch_len w' A' c' n p (ys ++ badB.take 19) pre h (by
              intro b hb
              rcases List.mem_append.1 hb with hb | hb
              · rw [← HA.out.2] at hb; exact allB_isB pre b hb
              · exact badB_isB b (List.mem_of_mem_take hb))
            (by rw [List.length_append, HA.out.1, show (badB.take 19).length = 19 from rfl, hnn]) (by omega) hc' (by rw [← HA.out.2]; exact bat_short pre hok) hxp.out.2.2
          have HKB := Lib.hid (And.intro kB kS)
          obtain ⟨zb, hzb⟩ : ∃ zb : List Value, zb = List.replicate 20 (.int .u8 0) := ⟨_, rfl⟩
          have hmk : ∀ w, (Instr.makeSlice 58 (.int .i64 20) (.int .i64 20)).run Try.prog w = .ok (.slice (some ⟨w.heap.size, 0, none⟩) 20 20) (w.alloc (.cells zb.toArray 5)) := fun w => by
            have h := run_make_row' (P := Try.prog) 58 5 (.int .u8 0) 1 Try.underlying58 u8info rfl .i64 .i64 20 (by decide) (by decide) w
            have e : madeCells #[Value.int .u8 0] 20 = (List.replicate 20 (Value.int .u8 0)).toArray := by kernel_rfl
            rw [e] at h
            rw [hzb]
            exact h
          have hzs : zb.set 0 (.int .u8 255) = ints .u8 badB := by rw [hzb]; rfl
          have hz0 : zb[0]? = some (.int .u8 0) := by rw [hzb]; rfl
          have B9 := Blk.new wr 5 zb
          have c9 : (wr.alloc (.cells zb.toArray 5)).cell? ⟨wr.heap.size, 0, none⟩ = some (.int .u8 0) := by rw [B9.cell 0]; exact hz0
          have f9 := B9.frozen 0
          have B10 := Blk.new wr 5 (zb.set 0 (.int .u8 255))
          have H10 : Cls (wr.alloc (.cells (zb.set 0 (.int .u8 255)).toArray 5)) (some ⟨wr.heap.size, 0, none⟩) (ints .u8 badB) := by rw [← hzs]; exact B10.cls
          have C10 : Ch No wr (wr.alloc (.cells (zb.set 0 (.int .u8 255)).toArray 5)) := (Ch.refl No wr).alloc _
          have HW9 : Hid (Ch No W (wr.alloc (.cells (zb.set 0 (.int .u8 255)).toArray 5)) ∧ Cls (wr.alloc (.cells (zb.set 0 (.int .u8 255)).toArray 5)) (some ⟨wr.heap.size, 0, none⟩) (ints .u8 badB) ∧ Cls (wr.alloc (.cells (zb.set 0 (.int .u8 255)).toArray 5)) A1 (ints .u8 ys) ∧ ys.length = 20 * p ∧ badB.length = 20) :=
            Lib.hid ⟨HST.out.2.trans C10, H10, HST.out.1.cls.1.ch C10 (fun _ _ h => h), HA.out.1, rfl⟩
          clear B9 B10 H10 C10 hzs hz0 hzb kB kS hok hpre
          go_upto_region 25 with fail
          clear c9 f9 hmk
          generalize wr.alloc (.cells (zb.set 0 (.int .u8 255)).toArray 5) = w9 at *
          generalize wr.heap.size = b9 at *
          have hA9 : Ch No w9 (w9.alloc (.cells #[] 5)) := (Ch.refl No w9).alloc _
          go_wp2_with (at_builtin; refine appJ rfl (.tmp 103) (.tmp 104) 58 5 rfl .u8 0 1 Try.underlying58 u8info w9.heap.size (some ⟨w9.heap.size, 0, none⟩) 0 0 [] rfl rfl (OwnS.lit w9 w9.heap.size 5 [] (Nat.le_refl _) (by simp)) A1 c1 (20 * p) ys HW9.out.2.2.2.1 rfl (HW9.out.2.2.1.ch hA9 (fun _ _ h => h)) ?hn ?hb ?hB ?_)
          case hn => simp [maxLen]; omega
          case hb => omega
          case hB => simp
          intro A10 c10 w10 o10 h10
          have h10' : Ch No w9 w10 := hA9.trans' h10 (fun i hi he => by simp [Value.ownBlock] at he; omega)
          have HX10 := Lib.hid (And.intro h10' o10)
          clear h10 h10' o10 hA9
          go_wp2_with (at_builtin; refine appJ rfl (.tmp 105) (.tmp 106) 58 5 rfl .u8 0 1 Try.underlying58 u8info w9.heap.size A10 c10 (20 * p) ys HW9.out.2.2.2.1 rfl HX10.out.2 (some ⟨b9, 0, none⟩) 20 20 badB rfl rfl (HW9.out.2.1.ch HX10.out.1 (fun _ _ h => h)) ?hn ?hb ?hB ?_)
          case hn => simp [maxLen]; omega
          case hb => omega
          case hB => exact HX10.out.1.size
          intro A11 c11 w11 o11 h11
          have HX11 := Lib.hid (And.intro (HX10.out.1.own HX10.out.2 h11 (Nat.le_refl _)) o11)
          clear o11 h11 HX10
          go_wp2_with (at_builtin; refine appJ rfl (.tmp 107) (.tmp 108) 58 5 rfl .u8 0 1 Try.underlying58 u8info w9.heap.size A11 c11 (20 * p + 20) (ys ++ badB) (by simp [HW9.out.2.2.2.1, HW9.out.2.2.2.2]) rfl HX11.out.2 A1 c1 (20 * p) ys HW9.out.2.2.2.1 rfl (HW9.out.2.2.1.ch HX11.out.1 (fun _ _ h => h)) ?hn ?hb ?hB ?_)
          case hn => simp [maxLen]; omega
          case hb => omega
          case hB => exact HX11.out.1.size
          intro A12 c12 w12 o12 h12
          have HX12 := Lib.hid (And.intro (HX11.out.1.own HX11.out.2 h12 (Nat.le_refl _)) o12.cls)
          clear o12 h12 HX11
          go_wp2_with fail
          refine (HKB.out.1 _ _ _ HX12.out.2.1 (by rw [HX12.out.2.2.2]; exact HX12.out.2.2.1)).mono ?_
          rintro e w13 ⟨A13, c13, rfl, h13⟩
          have hC13 := HX12.out.1.trans h13
          have HW13 := Lib.hid (And.intro (HW9.out.1.trans hC13) (And.intro (HW9.out.2.1.ch hC13 (fun _ _ h => h)) (HW9.out.2.2.1.ch hC13 (fun _ _ h => h))))
          have HWL := Lib.hid HW9.out.2.2.2
          clear h13 hC13 HX12 HW9
          go_upto_region 26 with fail
          have hA13 : Ch No w13 (w13.alloc (.cells #[] 5)).drew := ((Ch.refl No w13).alloc _).drew
          go_region_held3 (fun _ => True) (trivial) (first
            | (refine step_app0 (by rfl) (.tmp 114) (.tmp 115) 58 5 (by rfl) .u8 0 1 Try.underlying58 u8info w13.heap.size (some ⟨w13.heap.size, 0, none⟩) 0 (by rfl) (OwnS.lit w13 w13.heap.size 5 [] (Nat.le_refl _) (by simp)) A1 c1 (20 * p) ys HWL.out.1 (by rfl) (HW13.out.2.2.ch hA13 (fun _ _ h => h)) (by simp [maxLen]; omega) (by omega) (by simp) ?_; intro A14 c14 w14 o14 h14; have HX14 : Hid (Ch No w13 w14 ∧ OwnS w14 w13.heap.size 5 (.slice A14 (20 * p) c14) (ints .u8 ys)) := Lib.hid ⟨hA13.trans' h14 (fun i hi he => by simp [Value.ownBlock] at he; omega), o14⟩; clear o14 h14)
            | (refine step_appI (by rfl) (.tmp 116) (.tmp 118) 58 5 (by rfl) .u8 0 1 Try.underlying58 u8info w13.heap.size A14 c14 (20 * p) ys HWL.out.1 (by rfl) HX14.out.2 (some ⟨b9, 0, none⟩) 20 19 (badB.take 19) rfl (by rfl) (by rw [ints_take]; exact (HW13.out.2.1.ch HX14.out.1 (fun _ _ h => h)).takeI 19) (by simp [maxLen]; omega) (by omega) HX14.out.1.size ?_; intro A15 c15 w15 o15 h15; have HX15 := Lib.hid (And.intro (HX14.out.1.own HX14.out.2 h15 (Nat.le_refl _)) o15.cls); clear o15 h15)
            | (go_at_call 33; refine (HKB.out.2 _ ?_ _ A15 c15 HX15.out.2.1 ?_).mono ?_; (omega); (have q := HX15.out.2.2.1; have q2 := HX15.out.2.2.2; omega); rintro e w16 ⟨A16, c16, rfl, h16⟩; have HX16 := Lib.hid (And.intro (HX15.out.1.trans h16) trivial); clear h16))
          have HF := Lib.hid (HW13.out.1.trans HX16.out.1)
          clear HX16 HX15 HX14
          go_wp2_with fail
          go_ret
          exact ⟨rfl, HF.out⟩
        | cons y post =>
          rw [List.length_cons] at hln
          obtain ⟨gy, oy, rfl, k0, k1, k2, k3, k4, k5⟩ := (HX.out.2.1.no HST.out.2).ent hxp.out.1
          rw [hxp.out.2.2] at k0 k1 k2 k3 k4 k5
          have hlt : p < N := by omega
          have hp10 : p ≤ 10 := by omega
          clear hln
          have hHy : Ch No wr (wr.alloc (.cells y.enc.toArray 32)) := (Ch.refl No wr).alloc _
          cases hoy : okE y with
          | false =>
            have hWB := fun w => HWB.out y hoy w
            clear hHy hoy
            go_wp2_with fail
            refine (hWB _).mono ?_
            rintro e w7 ⟨rfl, h7⟩
            have H7 := Lib.hid ((HST.out.2.alloc (.cells y.enc.toArray 32)).trans h7)
            clear h7 hWB k0 k1 k2 k3 k4 k5
            go_wp2_with fail
            go_ret
            exact ⟨rfl, H7.out⟩
          | true =>
            have hWE := fun w => HWE.out y hoy w
            have hzl := encB_length y
            have hsn := allB_snoc pre y
            rw [HA.out.2] at hsn
            obtain ⟨zs, hzs⟩ : ∃ zs, encB y = zs := ⟨_, rfl⟩
            rw [hzs] at hWE hzl hsn
            have HZ := Lib.hid (And.intro hzl (And.intro hsn hoy))
            clear hHy hoy hzl hsn hzs
            go_wp2_with fail
            refine (hWE _).mono ?_
            rintro e w7 ⟨g7, c7, rfl, _, s7, l7, h7⟩
            have h7' : Ch No wr w7 := ((Ch.refl No wr).alloc (.cells y.enc.toArray 32)).trans h7
            have H7 := Lib.hid (And.intro (HST.out.1.ch h7' (fun _ _ h => h)) (And.intro (HST.out.2.trans h7') s7))
            clear h7 h7' s7 hWE k0 k1 k2 k3 k4 k5
            go_wp2_with (at_builtin; refine appI rfl (.tmp 93) (.tmp 94) 58 5 rfl .u8 0 1 Try.underlying58 u8info W.heap.size A1 c1 ys ?hs ?ho (some ⟨g7, 0, none⟩) c7 zs ?hx H7.out.2.2 ?hn ?hb ?hB ?_)
            case hs => rw [HA.out.1]; rfl
            case ho => rw [HA.out.1]; exact H7.out.1
            case hx => rw [HZ.out.1]; rfl
            case hn => rw [HA.out.1, HZ.out.1]; simp [maxLen]; omega
            case hb => rw [HA.out.1, HZ.out.1]; omega
            case hB => exact H7.out.2.1.size
            intro A8 c8 w8 o8 h8 _
            have hge : ∀ k, (Value.slice A1 ys.length c1).ownBlock = some k → W.heap.size ≤ k := fun k hk => (H7.out.1.ge k (by rw [HA.out.1] at hk; exact hk)).1
            have H8 : Hid (OwnS w8 W.heap.size 5 (.slice A8 (ys.length + zs.length) c8) (ints .u8 (allB (pre ++ [y]))) ∧ Ch No W w8) := by
              refine Lib.hid ⟨?_, H7.out.2.1.trans' h8 (fun i hi he => by have := hge i he; omega)⟩
              rw [HZ.out.2.1]
              simpa using o8
            clear o8 h8 hge H7
            go_wp2_with fail
            go_roundw
            case rel => exact ⟨pre ++ [y], post, p + 1, Lib.hid ⟨by rw [hxp.out.1]; simp, by intro q hq; rcases List.mem_append.1 hq with hq | hq; exact hxp.out.2.1 q hq; rw [List.mem_singleton.1 hq]; exact HZ.out.2.2, by simp [hxp.out.2.2]⟩, by simp, by simp, Lib.hid ⟨_, _, by rw [HA.out.1, HZ.out.1, Nat.mul_add], H8.out⟩⟩
            case measure => simp [intOf]; omega

set_option maxRecDepth 100000 in
theorem entryTurns_walk (W : World) (A0 : Option Addr) (n0 c0 : Nat) (cs1 : Array Value) (a2 a3 : Int) (R0 : Rd Try.prog W 8 45 [.slice A0 n0 c0]) (R1 : Rd Try.prog W 8 32 cs1.toList) (_w2 : (Lit.int .i64 a2).wf = true) (w3 : (Lit.int .u8 a3).wf = true) :
    Calls Try.prog 11 #[.slice A0 n0 c0, .agg cs1, .int .i64 a2, .int .u8 a3] W fun e w' => e = .returned (.bool true) ∧ Below W.heap.size W w' := by
  obtain ⟨A, c, xs, hv, hx, hws, hl⟩ := rd_ents R0
  obtain ⟨rfl, rfl, rfl⟩ := Value.slice.inj hv
  obtain ⟨x, hxx, hwx⟩ := rd_ent R1
  have h1 : cs1 = x.enc.toArray := by rw [← hxx]
  subst h1
  obtain ⟨tn, rfl, htn⟩ := wf_u8 w3
  exact (entryTurns_core W _ _ xs x a2 tn hx hwx hws (by omega) htn).mono fun _ _ ⟨h1, h2⟩ => ⟨h1, h2.same⟩
end Go.Proofs.Ytflpelacjdnplaa
