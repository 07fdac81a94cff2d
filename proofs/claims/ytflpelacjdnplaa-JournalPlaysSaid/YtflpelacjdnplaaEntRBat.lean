/- entry: the reference's Batch: what it comes to. -/
import Derived.Test.YtflpelacjdnplaaEntAll
import Derived.Test.YtflpelacjdnplaaEntRRead
namespace Go.Proofs.Ytflpelacjdnplaa
open Go.RowKit

theorem infoRe : (Try.prog.info? 37).map (fun i => (i.zero, i.size, i.bytes)) = some (some Ent.zero.val, 6, 48) := by kernel_rfl
/-- bytes that are left, as the loop holds them -/
structure Lft (B : Nat) (wr : World) (b rest : List Int) (A : Option Addr) (c : Nat) (pre : List Ent) : Prop where
  bt : bat b = pre ++ bat rest
  cls : Cls wr A (ints .u8 rest)
  isb : ∀ x ∈ rest, isB x
  le : rest.length ≤ c
  blk : rest = [] ∨ ∀ a, A = some a → a.block < B
theorem Lft.next {B : Nat} {wr w' : World} {b rest : List Int} {A A2 : Option Addr} {c c2 : Nat} {pre : List Ent} {x : Ent} (h : Lft B wr b rest A c pre) (hc : Cls w' A (ints .u8 rest)) (h1 : 20 ≤ rest.length) (h2 : readE (rest.take 20) = (x, 0))
    (hA : (c = 20 ∧ A2 = A) ∨ A2 = A.map (·.add 20)) (hc2 : c2 = c - 20) : Lft B w' b (rest.drop 20) A2 c2 (pre ++ [x]) := by
  have hl := h.le
  have hbk := h.blk.resolve_left (by intro h0; rw [h0] at h1; simp at h1)
  refine ⟨?_, ?_, fun y hy => h.isb y (List.mem_of_mem_drop hy), by rw [List.length_drop]; omega, ?_⟩
  · rw [h.bt, bat_cons h1 (by rw [h2]), h2]
    simp
  · rcases hA with ⟨h1, rfl⟩ | rfl
    · rw [List.drop_eq_nil_of_le (by omega)]
      exact Cls.nil _ _
    · rw [ints_drop]
      exact hc.dropI 20
  · right
    rcases hA with ⟨h1, rfl⟩ | rfl
    · exact hbk
    · rintro a ha
      obtain ⟨a0, h0, rfl⟩ := Option.map_eq_some_iff.1 ha
      have := hbk a0 h0
      unfold Addr.add
      split <;> exact this
theorem Lft.keep {B : Nat} {S : Nat → Prop} {wr w' : World} {b rest : List Int} {A : Option Addr} {c : Nat} {pre : List Ent} (h : Lft B wr b rest A c pre) (hc : Ch S wr w') (hS : ∀ k, S k → B ≤ k) : Lft B w' b rest A c pre := by
  refine ⟨h.bt, ?_, h.isb, h.le, h.blk⟩
  rcases h.blk with h0 | h0
  · rw [h0]; exact Cls.nil _ _
  · exact h.cls.ch hc (fun a ha hs => by have := hS _ hs; have := h0 a ha; omega)

set_option maxHeartbeats 8000000 in
set_option maxRecDepth 100000 in
theorem RBatch_any (w : World) (A : Option Addr) (c : Nat) (b : List Int) (h : Cls w A (ints .u8 b)) (hb : ∀ x ∈ b, isB x) (hbc : b.length ≤ c) (hbl : b.length ≤ 1000000) :
    Calls Try.prog 34 #[.slice A b.length c] w fun e w' => ∃ A' c', e = .returned (.slice A' (bat b).length c') ∧ w'.ownsRow w.heap.size 37 6 (.slice A' (bat b).length c') (bat b).length (flatE (bat b)) ∧ Ch No w w' := by
  have hbt := bat_len b
  have HL0 : Hid (Lft w.heap.size w b b A c []) := Lib.hid ⟨rfl, h, hb, hbc, by
    cases b with
    | nil => exact .inl rfl
    | cons y ys => exact .inr (fun a ha => (cls_block h ha).resolve_left (by simp [ints]))⟩
  obtain ⟨m, hm⟩ : ∃ m, b.length = m := ⟨_, rfl⟩
  rw [hm] at hbl hbt
  obtain ⟨N, hN⟩ : ∃ N, (bat b).length = N := ⟨_, rfl⟩
  rw [hN] at hbt ⊢
  have HN := Lib.hid hN
  have HM := Lib.hid hm
  rw [hm]
  clear h hb hbc hm hN
  go_enter Try.func34, Try.ntmps34
  go_wp2_with fail
  have S0 : Hid ((w.alloc (.cells #[] 37)).ownsRow w.heap.size 37 6 (.slice (some ⟨w.heap.size, 0, none⟩) 0 0) 0 (flatE []) ∧ Ch No w (w.alloc (.cells #[] 37))) :=
    Lib.hid ⟨World.ownsRow_lit (base := w.heap.size) (e := 37) (size := 6) w #[] 0 (Nat.le_refl _) (by simp) rfl, (Ch.refl No w).alloc _⟩
  have HL1 : Hid (Lft w.heap.size (w.alloc (.cells #[] 37)) b b A c []) := Lib.hid (HL0.out.keep S0.out.2 (fun _ h => h.elim))
  clear HL0
  go_loopw [0, 3, 4, 5] (fun bv out _ _ wr => ∃ (pre : List Ent) (rest : List Int) (A1 : Option Addr) (c1 m1 p1 : Nat), bv = .slice A1 m1 c1 ∧ Hid (rest.length = m1) ∧ Hid (Lft w.heap.size wr b rest A1 c1 pre) ∧ m1 + 20 * p1 = m ∧ Hid (pre.length = p1) ∧ Hid (wr.ownsRow w.heap.size 37 6 out p1 (flatE pre) ∧ Ch No w wr)) (fun bv _ _ _ _ => match bv with | .slice _ n _ => n | _ => 0)
  case atStart => exact ⟨[], b, A, c, m, 0, rfl, HM, HL1, by omega, Lib.hid rfl, S0⟩
  case round =>
    clear S0 HL1
    obtain ⟨pre, rest, A1, c1, m1, p1, rfl, hm1, hl, hmm, hp1, hst⟩ := hrel
    obtain ⟨Ao, co, rfl⟩ := row_shape hst.out.1
    have hcm := hl.out.le
    rw [hm1.out] at hcm
    have hsz := hst.out.2.size
    by_cases h20 : 20 ≤ m1
    · obtain ⟨ab, ao, hA1, _⟩ := hl.out.cls.get 0 (by rw [hm1.out]; omega)
      subst hA1
      have hlx : (rest.take 20).length = 20 := by rw [List.length_take, hm1.out]; omega
      have hrd := RRead_any wr (some ⟨ab, ao, none⟩) c1 (rest.take 20) (by rw [ints_take]; exact hl.out.cls.takeI 20) (fun x hx => hl.out.isb x (List.mem_of_mem_take hx)) (by rw [hlx]; omega)
      rw [hlx] at hrd
      obtain ⟨x, hx⟩ : ∃ x, (readE (rest.take 20)).1 = x := ⟨_, rfl⟩
      obtain ⟨er, her⟩ : ∃ er, (readE (rest.take 20)).2 = er := ⟨_, rfl⟩
      rw [hx, her] at hrd
      simp only [Ent.val] at hrd
      have HR := Lib.hid (And.intro hrd (And.intro hx her))
      clear hrd hx her hlx
      go_wp2_with fail
      refine HR.out.1.mono ?_
      rintro e w1 ⟨rfl, h1⟩
      have hC : Ch No wr (w1.alloc (.cells x.enc.toArray 37)) := h1.alloc _
      have hbx : EBox (w1.alloc (.cells x.enc.toArray 37)) w1.heap.size x := (Blk.new w1 37 x.enc).ebox
      have hz1 : w.heap.size ≤ (w1.alloc (.cells x.enc.toArray 37)).heap.size := Nat.le_trans hsz hC.size
      simp only [Ent.enc] at hC hbx hz1
      obtain ⟨a0, a1, a2, a3, a4, a5⟩ := hbx
      clear h1
      by_cases he0 : er = 0
      · subst he0
        have H2 : Hid (20 ≤ rest.length ∧ readE (rest.take 20) = (x, 0)) := Lib.hid ⟨by rw [hm1.out]; exact h20, Prod.ext HR.out.2.1 HR.out.2.2⟩
        clear HR
        have hrow := rowN_ch hst.out.1 hC (fun _ _ h => h)
        have HH := Lib.hid (And.intro hrow (hst.out.2.trans hC))
        have HC := Lib.hid hC
        clear hrow hC
        go_upto_region 6 with fail
        generalize w1.alloc (.cells #[.int .i64 x.t, .int .i64 x.arg, .int .i64 x.tenant, .int .i64 x.person, .int .i64 x.kind, .int .i64 x.code] 37) = w2 at *
        generalize w1.heap.size = xb at *
        go_wp2_with (at_builtin; refine appR rfl _ _ 28 37 rfl Ent.zero.val 6 48 Try.underlying28 infoRe rfl (by decide) w.heap.size (.slice Ao p1 co) p1 (flatE pre) x.enc rfl HH.out.1 w2.heap.size 1 rfl rfl rfl (enc_one x) ?hn ?hb hz1 ?_)
        case hn => simp [maxLen]; omega
        case hb => omega
        intro g1 co1 w3 o3 h3 _
        have hge : ∀ k, (Value.slice Ao p1 co).ownBlock = some k → w.heap.size ≤ k := fun k hk => (HH.out.1.lt k hk).1
        have HO : Hid (w3.ownsRow w.heap.size 37 6 (.slice (some ⟨g1, 0, none⟩) (p1 + 1) co1) (p1 + 1) (flatE (pre ++ [x])) ∧ Ch No w w3) :=
          Lib.hid ⟨by rw [flatE_snoc]; exact o3, HH.out.2.trans' h3 (fun i hi he => by have := hge i he; omega)⟩
        have HLK := Lib.hid ((hl.out.keep HC.out (fun _ h => h.elim)).keep h3 hge)
        have HP1 : Hid ((pre ++ [x]).length = p1 + 1) := Lib.hid (by simp [hp1.out])
        clear o3 h3 hge hst HH HC
        by_cases hc20 : c1 = 20
        · have hm20 : m1 = 20 := by omega
          have HN1 : Hid (Lft w.heap.size w3 b (rest.drop 20) (some ⟨ab, ao, none⟩) 0 (pre ++ [x])) := Lib.hid (HLK.out.next HLK.out.cls H2.out.1 H2.out.2 (.inl ⟨hc20, rfl⟩) (by omega))
          have HD : Hid ((rest.drop 20).length = 0) := Lib.hid (by rw [List.length_drop, hm1.out]; omega)
          subst hc20
          subst hm20
          go_wp2_with fail
          go_roundw
          case rel => exact ⟨pre ++ [x], rest.drop 20, _, _, 0, p1 + 1, rfl, HD, HN1, by omega, HP1, HO⟩
          case measure => simp
        · have HN1 : Hid (Lft w.heap.size w3 b (rest.drop 20) (some ⟨ab, ao + 20, none⟩) (c1 - 20) (pre ++ [x])) := Lib.hid (HLK.out.next HLK.out.cls H2.out.1 H2.out.2 (.inr (by simp [addr_add])) rfl)
          have HD : Hid ((rest.drop 20).length = m1 - 20) := Lib.hid (by rw [List.length_drop, hm1.out])
          go_wp2_with fail
          go_roundw
          case rel => exact ⟨pre ++ [x], rest.drop 20, _, _, m1 - 20, p1 + 1, rfl, HD, HN1, by omega, HP1, HO⟩
          case measure => simp; omega
      · have he1 : 0 < er := by have := readE_pos (b := rest.take 20) (by rw [HR.out.2.2]; exact he0); rw [HR.out.2.2] at this; exact this
        have hfin : bat b = pre := by
          rw [hl.out.bt, bat_nil (fun h => he0 (by rw [← HR.out.2.2]; exact h.2)), List.append_nil]
        have HF : Hid (bat b = pre ∧ pre.length = N) := Lib.hid ⟨hfin, by rw [← hfin]; exact HN.out⟩
        have hpN : p1 = N := by rw [← hp1.out]; exact HF.out.2
        have HE : Hid ((w1.alloc (.cells #[.int .i64 x.t, .int .i64 x.arg, .int .i64 x.tenant, .int .i64 x.person, .int .i64 x.kind, .int .i64 x.code] 37)).ownsRow w.heap.size 37 6 (.slice Ao p1 co) p1 (flatE pre) ∧ Ch No w (w1.alloc (.cells #[.int .i64 x.t, .int .i64 x.arg, .int .i64 x.tenant, .int .i64 x.person, .int .i64 x.kind, .int .i64 x.code] 37))) := Lib.hid ⟨rowN_ch hst.out.1 hC (fun _ _ h => h), hst.out.2.trans hC⟩
        clear hC he0 HR hfin
        go_wp2_with fail
        go_ret
        exact ⟨Ao, co, by rw [← hpN]; rfl, by rw [← hpN, HF.out.1]; exact HE.out.1, HE.out.2⟩
    · have hfin : bat b = pre := by
        rw [hl.out.bt, bat_nil (fun h => h20 (by rw [← hm1.out]; exact h.1)), List.append_nil]
      have hpN : p1 = N := by rw [← hp1.out, ← HN.out, hfin]
      have HF : Hid (bat b = pre) := Lib.hid hfin
      clear hfin
      go_wp2_with fail
      go_ret
      exact ⟨Ao, co, by rw [← hpN]; rfl, by rw [← hpN, HF.out]; exact hst.out.1, hst.out.2⟩
end Go.Proofs.Ytflpelacjdnplaa
