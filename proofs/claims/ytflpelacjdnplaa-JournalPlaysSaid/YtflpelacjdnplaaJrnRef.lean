/- journal: the reference's functions: what they come to. -/
import Derived.Test.YtflpelacjdnplaaJrnEnt
import Derived.Test.YtflpelacjdnplaaEntIn
import Derived.Test.YtflpelacjdnplaaRefs
import Derived.Test.YtflpelacjdnplaaTill
namespace Go.Proofs.Ytflpelacjdnplaa
open Go.RowKit

theorem infoRe2 : (Try.prog.info? 37).map (fun i => (i.zero, i.size, i.bytes)) = some (some Ent.zero.val, 6, 48) := by kernel_rfl
theorem flatE_get {l : List Ent} {j : Nat} {u : Value} (h : (flatE l)[j]? = some u) : ∃ P a Q i, l = P ++ a :: Q ∧ i < 6 ∧ j = P.length * 6 + i ∧ a.enc[i]? = some u := by
  have hj := (List.getElem?_eq_some_iff.1 h).1
  rw [flatE_len] at hj
  have hq : j / 6 < l.length := by omega
  have e : l = l.take (j / 6) ++ l[j / 6] :: l.drop (j / 6 + 1) := by simp
  have hP : (l.take (j / 6)).length = j / 6 := by rw [List.length_take]; omega
  refine ⟨l.take (j / 6), l[j / 6], l.drop (j / 6 + 1), j % 6, e, by omega, by rw [hP]; omega, ?_⟩
  rw [← flatE_at (l.take (j / 6)) (l.drop (j / 6 + 1)) l[j / 6] (j % 6) (by omega), ← e, hP, ← h]
  congr 1
  omega
theorem flatE_one (l : List Ent) (u : Value) (h : u ∈ flatE l) : u.oneCell' = true := by
  unfold flatE at h
  obtain ⟨a, _, h⟩ := List.mem_flatMap.1 h
  exact enc_one a u h
theorem rws_src {w : World} {A : Option Addr} {L : List Ent} (h : Rws w A 6 (L.map Ent.enc)) : (∀ j u, (flatE L)[j]? = some u → ∃ ad, A = some ad ∧ w.cell? (ad.add j) = some u) ∧ (A = none → flatE L = []) := by
  constructor
  · intro j u hj
    obtain ⟨P, a, Q, i, e, hi, hj', ha⟩ := flatE_get hj
    obtain ⟨_, b, off, hA, hc⟩ := h (P.map Ent.enc) a.enc (Q.map Ent.enc) (by rw [e]; simp)
    refine ⟨_, hA, ?_⟩
    have h1 := hc i u ha
    rw [List.length_map, Nat.add_assoc, ← hj'] at h1
    unfold Addr.add
    split
    · rename_i hz
      subst hz
      simpa using h1
    · exact h1
  · intro hA
    cases L with
    | nil => rfl
    | cons a L =>
      obtain ⟨_, b, off, hA', _⟩ := h [] a.enc (L.map Ent.enc) rfl
      rw [hA] at hA'
      cases hA'
theorem Rws.chS {S : Nat → Prop} {w w' : World} {A : Option Addr} {sz : Nat} {rows : List (List Value)} (h : Rws w A sz rows) (hc : Ch S w w') (hS : ∀ a, A = some a → ¬ S a.block) : Rws w' A sz rows := by
  intro pre r post e
  obtain ⟨h1, b, off, hA, h2⟩ := h pre r post e
  exact ⟨h1, b, off, hA, fun j v hj => hc.cell (h2 j v hj) (show ¬ S b from hS ⟨b, off, none⟩ hA)⟩
/-- the reference's journal by value -/
def RJv (A : Option Addr) (n c gone cap : Nat) : Value := .agg #[.slice A n c, .int .i64 gone, .int .i64 cap]

section
variable {w : World} {A : Option Addr} {c n gone cap : Nat} {L : List Ent}
theorem RHas_any (w : World) (i : Int) : Calls Try.prog 24 #[RJv A n c gone cap, .int .i64 i] w fun e w' => e = .returned (.bool (decide ((gone : Int) < i ∧ i ≤ n))) ∧ Ch No w w' := by
  obtain ⟨b, hb⟩ : ∃ b, decide ((gone : Int) < i ∧ i ≤ n) = b := ⟨_, rfl⟩
  have HD := Lib.hid hb
  rw [hb]
  clear hb
  unfold RJv
  by_cases h1 : (gone : Int) < i
  · by_cases h2 : i ≤ n
    · go_enter Try.func24, Try.ntmps24
      go_wp2_with fail
      go_ret
      exact ⟨ret_bool (by rw [← HD.out]; simp [h1, h2]), (Ch.refl No w).alloc _⟩
    · go_enter Try.func24, Try.ntmps24
      go_wp2_with fail
      go_ret
      exact ⟨ret_bool (by rw [← HD.out]; simp [h1, h2]), (Ch.refl No w).alloc _⟩
  · go_enter Try.func24, Try.ntmps24
    go_wp2_with fail
    go_ret
    exact ⟨ret_bool (by rw [← HD.out]; simp; omega), (Ch.refl No w).alloc _⟩

/-- the boxes of the reference's Add -/
structure RB (w0 w : World) (b0 : Nat) (A : Option Addr) (n c gone cap : Nat) (x : Ent) : Prop where
  j : Blk w b0 30 [.slice A n c, .int .i64 gone, .int .i64 cap]
  e : Blk w (b0 + 1) 37 x.enc
  z : Blk w (b0 + 1 + 1) 30 [.slice none 0 0, .int .i64 (0 : Nat), .int .i64 (0 : Nat)]
  ch : Ch No w0 w
  lo : w0.heap.size = b0
theorem RB.no {w0 w' : World} {b0 : Nat} {x : Ent} (h : RB w0 w b0 A n c gone cap x) (hc : Ch No w w') : RB w0 w' b0 A n c gone cap x :=
  ⟨h.j.ch hc (fun h => h), h.e.ch hc (fun h => h), h.z.ch hc (fun h => h), h.ch.trans hc, h.lo⟩
theorem RB.grown {w0 w' : World} {b0 : Nat} {x : Ent} (h : RB w0 w b0 A n c gone cap x) {S : Nat → Prop} (hc : Ch S w w') (hS : ∀ k, S k → b0 + 1 + 1 < k) : RB w0 w' b0 A n c gone cap x :=
  ⟨h.j.ch hc (fun h => by have := hS _ h; omega), h.e.ch hc (fun h => by have := hS _ h; omega), h.z.ch hc (fun h => by have := hS _ h; omega), h.ch.trans' hc (fun i hi hs => by have := hS _ hs; have := h.lo; omega), h.lo⟩
theorem rb_new (w : World) (A : Option Addr) (n c gone cap : Nat) (x : Ent) : RB w (((w.alloc (.cells #[.slice A n c, .int .i64 gone, .int .i64 cap] 30)).alloc (.cells x.enc.toArray 37)).alloc (.cells #[.slice none 0 0, .int .i64 (0 : Nat), .int .i64 (0 : Nat)] 30)) w.heap.size A n c gone cap x := by
  have b0 := ((Blk.new w 30 [.slice A n c, .int .i64 gone, .int .i64 cap]).alloc (.cells x.enc.toArray 37)).alloc (.cells #[.slice none 0 0, .int .i64 (0 : Nat), .int .i64 (0 : Nat)] 30)
  have b1 := (Blk.new (w.alloc (.cells #[.slice A n c, .int .i64 gone, .int .i64 cap] 30)) 37 x.enc).alloc (.cells #[.slice none 0 0, .int .i64 (0 : Nat), .int .i64 (0 : Nat)] 30)
  have b2 := Blk.new ((w.alloc (.cells #[.slice A n c, .int .i64 gone, .int .i64 cap] 30)).alloc (.cells x.enc.toArray 37)) 30 [.slice none 0 0, .int .i64 (0 : Nat), .int .i64 (0 : Nat)]
  exact ⟨by simpa using b0, by simpa using b1, by simpa using b2, (((Ch.refl No w).alloc _).alloc _).alloc _, rfl⟩

set_option maxHeartbeats 2000000 in
set_option maxRecDepth 100000 in
theorem RAdd_bad (x : Ent) (hx : okE x = false) (w : World) : Calls Try.prog 14 #[RJv A n c gone cap, x.val] w fun e w' => e = .returned (.tuple #[RJv A n c gone cap, .int .i64 0, .int .i64 23]) ∧ Ch No w w' := by
  have hB := rb_new w A n c gone cap x
  have hR := fun w => Right_any x w
  rw [hx] at hR
  have HB := Lib.hid hB
  obtain ⟨b0, hb0⟩ : ∃ b, w.heap.size = b := ⟨_, rfl⟩
  have HS := Lib.hid hb0
  have a0 := hB.e.cell 0
  have a1 := hB.e.cell 1
  have a2 := hB.e.cell 2
  have a3 := hB.e.cell 3
  have a4 := hB.e.cell 4
  have a5 := hB.e.cell 5
  simp only [Ent.enc, List.getElem?_cons_zero, List.getElem?_cons_succ] at a0 a1 a2 a3 a4 a5
  simp only [Ent.enc] at HB
  unfold RJv
  unfold Ent.val at hR ⊢
  clear hx hB hb0
  go_enter Try.func14, Try.ntmps14
  go_wp2_with fail
  refine (hR _).mono ?_
  rintro e w1 ⟨rfl, h1⟩
  have H1 := Lib.hid (HB.out.no h1)
  rw [HS.out] at H1 ⊢
  have z0 := H1.out.z.cell 0
  have z1 := H1.out.z.cell 1
  have z2 := H1.out.z.cell 2
  have f0 := H1.out.z.frozen 0
  have f1 := H1.out.z.frozen 1
  have f2 := H1.out.z.frozen 2
  have hl := H1.out.z.lt
  have j0 := H1.out.j.cell 0
  have j1 := H1.out.j.cell 1
  have j2 := H1.out.j.cell 2
  simp only [List.getElem?_cons_zero, List.getElem?_cons_succ] at z0 z1 z2 j0 j1 j2
  clear h1 HB hR a0 a1 a2 a3 a4 a5
  go_wp2_with fail
  exact bodyPost_ret (v := .tuple #[.agg #[.slice A n c, .int .i64 gone, .int .i64 cap], .int .i64 0, .int .i64 23]) (by simp [results, Try.f14, go_sem, *]) rfl ⟨rfl, ((H1.out.ch.setCell (fun h => absurd h (by rw [HS.out]; show ¬ b0 + 1 + 1 < b0; omega)) _).setCell (fun h => absurd h (by rw [HS.out]; show ¬ b0 + 1 + 1 < b0; omega)) _).setCell (fun h => absurd h (by rw [HS.out]; show ¬ b0 + 1 + 1 < b0; omega)) _⟩
set_option maxHeartbeats 2000000 in
set_option maxRecDepth 100000 in
theorem RAdd_full (x : Ent) (hx : okE x = true) (hk : (cap : Int) ≤ (n : Int) - gone) (hm : n ≤ 100000) (hg : gone ≤ 100000) (w : World) : Calls Try.prog 14 #[RJv A n c gone cap, x.val] w fun e w' => e = .returned (.tuple #[RJv A n c gone cap, .int .i64 0, .int .i64 42]) ∧ Ch No w w' := by
  have hB := rb_new w A n c gone cap x
  have hR := fun w => Right_any x w
  rw [hx] at hR
  have HB := Lib.hid hB
  obtain ⟨b0, hb0⟩ : ∃ b, w.heap.size = b := ⟨_, rfl⟩
  have HS := Lib.hid hb0
  have a0 := hB.e.cell 0
  have a1 := hB.e.cell 1
  have a2 := hB.e.cell 2
  have a3 := hB.e.cell 3
  have a4 := hB.e.cell 4
  have a5 := hB.e.cell 5
  simp only [Ent.enc, List.getElem?_cons_zero, List.getElem?_cons_succ] at a0 a1 a2 a3 a4 a5
  simp only [Ent.enc] at HB
  unfold RJv
  unfold Ent.val at hR ⊢
  clear hx hB hb0
  go_enter Try.func14, Try.ntmps14
  go_wp2_with fail
  refine (hR _).mono ?_
  rintro e w1 ⟨rfl, h1⟩
  have H1 := Lib.hid (HB.out.no h1)
  rw [HS.out] at H1 ⊢
  have z0 := H1.out.z.cell 0
  have z1 := H1.out.z.cell 1
  have z2 := H1.out.z.cell 2
  have f0 := H1.out.z.frozen 0
  have f1 := H1.out.z.frozen 1
  have f2 := H1.out.z.frozen 2
  have hl := H1.out.z.lt
  have j0 := H1.out.j.cell 0
  have j1 := H1.out.j.cell 1
  have j2 := H1.out.j.cell 2
  simp only [List.getElem?_cons_zero, List.getElem?_cons_succ] at z0 z1 z2 j0 j1 j2
  clear h1 HB hR a0 a1 a2 a3 a4 a5
  go_wp2_with fail
  exact bodyPost_ret (v := .tuple #[.agg #[.slice A n c, .int .i64 gone, .int .i64 cap], .int .i64 0, .int .i64 42]) (by simp [results, Try.f14, go_sem, *]) rfl ⟨rfl, ((H1.out.ch.setCell (fun h => absurd h (by rw [HS.out]; show ¬ b0 + 1 + 1 < b0; omega)) _).setCell (fun h => absurd h (by rw [HS.out]; show ¬ b0 + 1 + 1 < b0; omega)) _).setCell (fun h => absurd h (by rw [HS.out]; show ¬ b0 + 1 + 1 < b0; omega)) _⟩
/-- what the reference's Add has laid -/
def RNew (w : World) (L : List Ent) (x : Ent) (n gone cap : Nat) (e : Ending) (w' : World) : Prop := ∃ A' c', e = .returned (.tuple #[RJv A' (n + 1) c' gone cap, .int .i64 ((n : Int) + 1), .int .i64 0]) ∧ Rws w' A' 6 ((L ++ [x]).map Ent.enc) ∧ (∀ a, A' = some a → w.heap.size ≤ a.block ∧ a.block < w'.heap.size) ∧ Ch No w w'
set_option maxHeartbeats 8000000 in
set_option maxRecDepth 100000 in
theorem RAdd_ok (h : Rws w A 6 (L.map Ent.enc)) (hn : L.length = n) (x : Ent) (hx : okE x = true) (hk : (n : Int) - gone < cap) (hm : n ≤ 100000) (hg : gone ≤ 100000) : Calls Try.prog 14 #[RJv A n c gone cap, x.val] w fun e w' => RNew w L x n gone cap e w' := by
  have hB := rb_new w A n c gone cap x
  have hR := fun w => Right_any x w
  rw [hx] at hR
  have HB := Lib.hid (And.intro hB (h.no hB.ch))
  obtain ⟨b0, hb0⟩ : ∃ b, w.heap.size = b := ⟨_, rfl⟩
  have HS := Lib.hid hb0
  have HN := Lib.hid hn
  have a0 := hB.e.cell 0
  have a1 := hB.e.cell 1
  have a2 := hB.e.cell 2
  have a3 := hB.e.cell 3
  have a4 := hB.e.cell 4
  have a5 := hB.e.cell 5
  simp only [Ent.enc, List.getElem?_cons_zero, List.getElem?_cons_succ] at a0 a1 a2 a3 a4 a5
  simp only [Ent.enc] at HB
  unfold RJv
  unfold Ent.val at hR ⊢
  clear hx hB hb0 h hn
  go_enter Try.func14, Try.ntmps14
  go_wp2_with fail
  refine (hR _).mono ?_
  rintro e w1 ⟨rfl, h1⟩
  have R0 := Lib.hid ((HB.out.1.no h1).no (Ch.refl No w1).drew)
  have S0 := Lib.hid ((HB.out.2.no h1).no (Ch.refl No w1).drew)
  rw [HS.out] at R0 ⊢
  have j0 : w1.cell? ⟨b0, 0, none⟩ = some (.slice A n c) := R0.out.j.cell 0
  have j1 : w1.cell? ⟨b0, 1, none⟩ = some (.int .i64 gone) := R0.out.j.cell 1
  have j2 : w1.cell? ⟨b0, 2, none⟩ = some (.int .i64 cap) := R0.out.j.cell 2
  clear h1 HB hR a0 a1 a2 a3 a4 a5
  go_wp2_with fail
  refine region_till (T := fun w' => w'.cell? ⟨b0, 0, none⟩ = some (.slice A n c) ∧ EBox w' (b0 + 1) x) (s := 8) (by kernel_rfl) (fun hT => ?_) ⟨R0.out.j.cell 0, R0.out.e.ebox⟩
  clear j0 j1 j2
  -- ORDERS BEGIN
  refine wpTill_take [8] (i := 1) (v := ?v1) rfl (by kernel_rfl) (by kernel_rfl) (by kernel_rfl) (fun _ _ _ h => by cases h.1) _ _ _ _ (by kernel_rfl) (by kernel_rfl) (by kernel_rfl) (Or.inl ⟨by rfl, ?y1⟩) hT ?r1
  case y1 =>
    intro w' hw'
    obtain ⟨t0, t1, t2, t3, t4, t5, t6⟩ := hw'
    go_simp
    try with_reducible rfl
  case r1 =>
    simp only [Act.put]
    refine wpTill_take [8] (i := 2) (v := ?v2) rfl (by kernel_rfl) (by kernel_rfl) (by kernel_rfl) (fun _ _ _ h => by cases h.1) _ _ _ _ (by kernel_rfl) (by kernel_rfl) (by kernel_rfl) (Or.inl ⟨by rfl, ?y2⟩) hT ?r2
    case y2 =>
      intro w' hw'
      obtain ⟨t0, t1, t2, t3, t4, t5, t6⟩ := hw'
      go_simp
      try with_reducible rfl
    case r2 =>
      simp only [Act.put]
      refine wpTill_take [8] (i := 4) (v := ?v4) rfl (by kernel_rfl) (by kernel_rfl) (by kernel_rfl) (fun _ _ _ h => by cases h.1) _ _ _ _ (by kernel_rfl) (by kernel_rfl) (by kernel_rfl) (Or.inl ⟨by rfl, ?y4⟩) hT ?r4
      case y4 =>
        intro w' hw'
        obtain ⟨t0, t1, t2, t3, t4, t5, t6⟩ := hw'
        go_simp
        try with_reducible rfl
      case r4 =>
        simp only [Act.put]
        refine wpTill_one (rs := [0, 5]) (by kernel_rfl) (by simp) ?_
        intro i hi
        rcases (by simpa using hi : i = 0 ∨ i = 5) with rfl | rfl
        · refine wpTill_step rfl (fun K hK => ?_)
          go_simp
          have R1 := Lib.hid (R0.out.no ((Ch.refl No w1.drew).alloc (.cells #[] 37)))
          have S1 := Lib.hid (S0.out.no ((Ch.refl No w1.drew).alloc (.cells #[] 37)))
          have O1 : Hid ((w1.drew.alloc (.cells #[] 37)).ownsRow (b0 + 3) 37 6 (.slice (some ⟨w1.drew.heap.size, 0, none⟩) 0 0) 0 []) := Lib.hid (World.ownsRow_lit (base := b0 + 3) (e := 37) (size := 6) w1.drew #[] 0 (by have := R0.out.z.lt; omega) (by simp) rfl)
          refine hK.out _ _ (fun _ => ⟨R1.out.j.cell 0, R1.out.e.ebox⟩) ?_
          clear hK K
          try simp only [Act.put]
          refine wpTill_one (rs := [3, 5]) (by kernel_rfl) (by simp) ?_
          intro i hi
          rcases (by simpa using hi : i = 3 ∨ i = 5) with rfl | rfl
          · refine wpTill_step rfl (fun K hK => ?_)
            refine step_appL0 (by rfl) (.tmp 21) (.tmp 23) 28 37 (by rfl) Ent.zero.val 6 48 Try.underlying28 infoRe2 (by rfl) (by decide) (b0 + 3) (some ⟨w1.drew.heap.size, 0, none⟩) 0 (by simp [Act.eval]) O1.out A n c (flatE L) (by rfl) (by rw [flatE_len, HN.out]) (rws_src S1.out).1 (rws_src S1.out).2 (flatE_one L) (by simp [maxLen]; omega) (by omega) (by have := R1.out.z.lt; first | omega | (simp at this ⊢; omega)) ?_
            intro A2 c2 w2 o2 h2 n2
            have R2 := Lib.hid (R1.out.grown h2 (fun k hk => by have := (O1.out.lt k hk).1; omega))
            have O2 := Lib.hid o2
            clear o2 h2 n2
            refine hK.out _ _ (fun _ => ⟨R2.out.j.cell 0, R2.out.e.ebox⟩) ?_
            clear hK K
            try simp only [Act.put]
            refine wpTill_one (rs := [5]) (by kernel_rfl) (by simp) ?_
            intro i hi
            obtain rfl : i = 5 := by simpa using hi
            refine wpTill_step rfl (fun K hK => ?_)
            go_simp
            have R3 := Lib.hid (R2.out.no ((Ch.refl No w2).alloc (.cells x.enc.toArray 37)))
            have E3 : Hid (Blk (w2.alloc (.cells x.enc.toArray 37)) w2.heap.size 37 x.enc) := Lib.hid (Blk.new w2 37 x.enc)
            have O3 := Lib.hid (rowN_ch O2.out ((Ch.refl No w2).alloc (.cells x.enc.toArray 37)) (fun _ _ h => h))
            refine hK.out _ _ (fun _ => ⟨R3.out.j.cell 0, R3.out.e.ebox⟩) ?_
            clear hK K
            try simp only [Act.put]
            refine wpTill_one (rs := [6]) (by kernel_rfl) (by simp) ?_
            intro i hi
            obtain rfl : i = 6 := by simpa using hi
            refine wpTill_step rfl (fun K hK => ?_)
            refine step_appO (by rfl) (.tmp 24) (.tmp 26) 28 37 (by rfl) Ent.zero.val 6 48 Try.underlying28 infoRe2 (by rfl) (by decide) (b0 + 3) (.slice A2 n c2) n (flatE L) (by rfl) O3.out (w2.heap.size) 1 x.enc (by simp [Act.eval]) rfl (E3.out) (enc_one x) (by simp [maxLen]; omega) (by omega) (by have := R3.out.z.lt; first | omega | (simp at this ⊢; omega)) ?_
            intro A4 c4 w4 o4 g4
            have h4 : Ch (fun k => (Value.slice A2 n c2).ownBlock = some k) _ w4 := Ch.grown (Ch.refl _ _) g4 (fun k hk _ => hk)
            have R4 := Lib.hid (R3.out.grown h4 (fun k hk => by have := (O3.out.lt k hk).1; omega))
            have O4 := Lib.hid o4
            clear o4 g4 h4
            refine hK.out _ _ (fun _ => ⟨R4.out.j.cell 0, R4.out.e.ebox⟩) ?_
            clear hK K
            try simp only [Act.put]
            refine wpTill_one (rs := [7]) (by kernel_rfl) (by simp) ?_
            intro i hi
            obtain rfl : i = 7 := by simpa using hi
            refine wpTill_step rfl (fun K hK => ?_)
            go_simp
            refine hK.out _ _ (fun _ => ⟨R4.out.j.cell 0, R4.out.e.ebox⟩) ?_
            clear hK K
            try simp only [Act.put]
            refine wpTill_one (rs := [8]) (by kernel_rfl) (by simp) ?_
            intro i hi
            obtain rfl : i = 8 := by simpa using hi
            have z0 := R4.out.j.cell 0
            have zf := R4.out.j.frozen 0
            refine wpTill_step rfl (fun K hK => ?_)
            go_simp
            refine hK.out _ _ (fun h => nomatch (show true = false from h)) ?_
            clear hK K
            try simp only [Act.put]
            refine wpTill_done (by kernel_rfl) ⟨rfl, ?_⟩ _
            have HO := Lib.hid (And.intro O4.out R4.out)
            clear z0 zf
            generalize w4 = w9 at *
            generalize A4 = A9 at *
            generalize c4 = c9 at *
            have hc9 : Ch (fun k => k = b0) w9 (w9.setCell ⟨b0, 0, none⟩ (.slice A9 (n + 1) c9)) := (Ch.refl (fun k => k = b0) w9).setCell (p := ⟨b0, 0, none⟩) (fun _ => rfl) _
            have HF := Lib.hid (And.intro (HO.out.2.j.set 0 (.slice A9 (n + 1) c9)) (And.intro (HO.out.2.z.ch hc9 (by omega)) (And.intro (HO.out.2.ch.trans' hc9 (fun i hi hs => by have := HO.out.2.lo; omega)) (rowN_ch HO.out.1 hc9 (fun k hk hs => by have := (HO.out.1.lt k hk).1; omega)))))
            clear hc9 HO
            generalize w9.setCell ⟨b0, 0, none⟩ (.slice A9 (n + 1) c9) = w10 at *
            have j0 := HF.out.1.cell 0
            have j1 := HF.out.1.cell 1
            have j2 := HF.out.1.cell 2
            have z0 := HF.out.2.1.cell 0
            have z1 := HF.out.2.1.cell 1
            have z2 := HF.out.2.1.cell 2
            have f0 := HF.out.2.1.frozen 0
            have f1 := HF.out.2.1.frozen 1
            have f2 := HF.out.2.1.frozen 2
            have hl := HF.out.2.1.lt
            simp only [List.set_cons_zero, List.getElem?_cons_zero, List.getElem?_cons_succ] at j0 j1 j2 z0 z1 z2
            go_wp2_with fail
            go_region
            go_wp2_with fail
            have hE : Ch (fun k => k = b0 + 1 + 1) w10 (((w10.setCell ⟨b0 + 1 + 1, 0, none⟩ (.slice A9 (n + 1) c9)).setCell ⟨b0 + 1 + 1, 1, none⟩ (.int .i64 gone)).setCell ⟨b0 + 1 + 1, 2, none⟩ (.int .i64 cap)).drew := ((((Ch.refl (fun k => k = b0 + 1 + 1) w10).setCell (p := ⟨b0 + 1 + 1, 0, none⟩) (fun _ => rfl) _).setCell (p := ⟨b0 + 1 + 1, 1, none⟩) (fun _ => rfl) _).setCell (p := ⟨b0 + 1 + 1, 2, none⟩) (fun _ => rfl) _).drew
            have hrw := rowN_ch HF.out.2.2.2 hE (fun k hk hs => by have := (HF.out.2.2.2.lt k hk).1; omega)
            rw [← flatE_snoc] at hrw
            refine bodyPost_ret (v := .tuple #[.agg #[.slice A9 (n + 1) c9, .int .i64 gone, .int .i64 cap], .int .i64 ((n : Int) + 1), .int .i64 0]) (by simp [results, Try.f14, go_sem, *]) rfl ?_
            unfold RNew
            refine ⟨A9, c9, rfl, rowE_rws hrw (by rw [List.length_append, HN.out]; rfl), fun a ha => ?_, HF.out.2.2.1.trans' hE (fun i hi hs => by rw [HS.out] at hi; omega)⟩
            have h9 := hrw.lt a.block (by rw [ha]; rfl)
            rw [HS.out]
            exact ⟨by omega, h9.2⟩
          · refine wpTill_step rfl (fun K hK => ?_)
            go_simp
            have R5 := Lib.hid (R1.out.no ((Ch.refl No (w1.drew.alloc (.cells #[] 37))).alloc (.cells x.enc.toArray 37)))
            have S5 := Lib.hid (S1.out.no ((Ch.refl No (w1.drew.alloc (.cells #[] 37))).alloc (.cells x.enc.toArray 37)))
            have E5 : Hid (Blk ((w1.drew.alloc (.cells #[] 37)).alloc (.cells x.enc.toArray 37)) (w1.drew.alloc (.cells #[] 37)).heap.size 37 x.enc) := Lib.hid (Blk.new (w1.drew.alloc (.cells #[] 37)) 37 x.enc)
            have O5 := Lib.hid (rowN_ch O1.out ((Ch.refl No (w1.drew.alloc (.cells #[] 37))).alloc (.cells x.enc.toArray 37)) (fun _ _ h => h))
            refine hK.out _ _ (fun _ => ⟨R5.out.j.cell 0, R5.out.e.ebox⟩) ?_
            clear hK K
            try simp only [Act.put]
            refine wpTill_one (rs := [3]) (by kernel_rfl) (by simp) ?_
            intro i hi
            obtain rfl : i = 3 := by simpa using hi
            refine wpTill_step rfl (fun K hK => ?_)
            refine step_appL0 (by rfl) (.tmp 21) (.tmp 23) 28 37 (by rfl) Ent.zero.val 6 48 Try.underlying28 infoRe2 (by rfl) (by decide) (b0 + 3) (some ⟨w1.drew.heap.size, 0, none⟩) 0 (by simp [Act.eval]) O5.out A n c (flatE L) (by rfl) (by rw [flatE_len, HN.out]) (rws_src S5.out).1 (rws_src S5.out).2 (flatE_one L) (by simp [maxLen]; omega) (by omega) (by have := R5.out.z.lt; first | omega | (simp at this ⊢; omega)) ?_
            intro A6 c6 w6 o6 h6 n6
            have R6 := Lib.hid (R5.out.grown h6 (fun k hk => by have := (O5.out.lt k hk).1; omega))
            have E6 := Lib.hid (E5.out.ch h6 (fun hk => by have h9 : some _ = some _ := hk; simp at h9; try omega))
            have O6 := Lib.hid o6
            clear o6 h6 n6
            refine hK.out _ _ (fun _ => ⟨R6.out.j.cell 0, R6.out.e.ebox⟩) ?_
            clear hK K
            try simp only [Act.put]
            refine wpTill_one (rs := [6]) (by kernel_rfl) (by simp) ?_
            intro i hi
            obtain rfl : i = 6 := by simpa using hi
            refine wpTill_step rfl (fun K hK => ?_)
            refine step_appO (by rfl) (.tmp 24) (.tmp 26) 28 37 (by rfl) Ent.zero.val 6 48 Try.underlying28 infoRe2 (by rfl) (by decide) (b0 + 3) (.slice A6 n c6) n (flatE L) (by rfl) O6.out ((w1.drew.alloc (.cells #[] 37)).heap.size) 1 x.enc (by simp [Act.eval]) rfl (E6.out) (enc_one x) (by simp [maxLen]; omega) (by omega) (by have := R6.out.z.lt; first | omega | (simp at this ⊢; omega)) ?_
            intro A7 c7 w7 o7 g7
            have h7 : Ch (fun k => (Value.slice A6 n c6).ownBlock = some k) _ w7 := Ch.grown (Ch.refl _ _) g7 (fun k hk _ => hk)
            have R7 := Lib.hid (R6.out.grown h7 (fun k hk => by have := (O6.out.lt k hk).1; omega))
            have O7 := Lib.hid o7
            clear o7 g7 h7
            refine hK.out _ _ (fun _ => ⟨R7.out.j.cell 0, R7.out.e.ebox⟩) ?_
            clear hK K
            try simp only [Act.put]
            refine wpTill_one (rs := [7]) (by kernel_rfl) (by simp) ?_
            intro i hi
            obtain rfl : i = 7 := by simpa using hi
            refine wpTill_step rfl (fun K hK => ?_)
            go_simp
            refine hK.out _ _ (fun _ => ⟨R7.out.j.cell 0, R7.out.e.ebox⟩) ?_
            clear hK K
            try simp only [Act.put]
            refine wpTill_one (rs := [8]) (by kernel_rfl) (by simp) ?_
            intro i hi
            obtain rfl : i = 8 := by simpa using hi
            have z0 := R7.out.j.cell 0
            have zf := R7.out.j.frozen 0
            refine wpTill_step rfl (fun K hK => ?_)
            go_simp
            refine hK.out _ _ (fun h => nomatch (show true = false from h)) ?_
            clear hK K
            try simp only [Act.put]
            refine wpTill_done (by kernel_rfl) ⟨rfl, ?_⟩ _
            have HO := Lib.hid (And.intro O7.out R7.out)
            clear z0 zf
            generalize w7 = w9 at *
            generalize A7 = A9 at *
            generalize c7 = c9 at *
            have hc9 : Ch (fun k => k = b0) w9 (w9.setCell ⟨b0, 0, none⟩ (.slice A9 (n + 1) c9)) := (Ch.refl (fun k => k = b0) w9).setCell (p := ⟨b0, 0, none⟩) (fun _ => rfl) _
            have HF := Lib.hid (And.intro (HO.out.2.j.set 0 (.slice A9 (n + 1) c9)) (And.intro (HO.out.2.z.ch hc9 (by omega)) (And.intro (HO.out.2.ch.trans' hc9 (fun i hi hs => by have := HO.out.2.lo; omega)) (rowN_ch HO.out.1 hc9 (fun k hk hs => by have := (HO.out.1.lt k hk).1; omega)))))
            clear hc9 HO
            generalize w9.setCell ⟨b0, 0, none⟩ (.slice A9 (n + 1) c9) = w10 at *
            have j0 := HF.out.1.cell 0
            have j1 := HF.out.1.cell 1
            have j2 := HF.out.1.cell 2
            have z0 := HF.out.2.1.cell 0
            have z1 := HF.out.2.1.cell 1
            have z2 := HF.out.2.1.cell 2
            have f0 := HF.out.2.1.frozen 0
            have f1 := HF.out.2.1.frozen 1
            have f2 := HF.out.2.1.frozen 2
            have hl := HF.out.2.1.lt
            simp only [List.set_cons_zero, List.getElem?_cons_zero, List.getElem?_cons_succ] at j0 j1 j2 z0 z1 z2
            go_wp2_with fail
            go_region
            go_wp2_with fail
            have hE : Ch (fun k => k = b0 + 1 + 1) w10 (((w10.setCell ⟨b0 + 1 + 1, 0, none⟩ (.slice A9 (n + 1) c9)).setCell ⟨b0 + 1 + 1, 1, none⟩ (.int .i64 gone)).setCell ⟨b0 + 1 + 1, 2, none⟩ (.int .i64 cap)).drew := ((((Ch.refl (fun k => k = b0 + 1 + 1) w10).setCell (p := ⟨b0 + 1 + 1, 0, none⟩) (fun _ => rfl) _).setCell (p := ⟨b0 + 1 + 1, 1, none⟩) (fun _ => rfl) _).setCell (p := ⟨b0 + 1 + 1, 2, none⟩) (fun _ => rfl) _).drew
            have hrw := rowN_ch HF.out.2.2.2 hE (fun k hk hs => by have := (HF.out.2.2.2.lt k hk).1; omega)
            rw [← flatE_snoc] at hrw
            refine bodyPost_ret (v := .tuple #[.agg #[.slice A9 (n + 1) c9, .int .i64 gone, .int .i64 cap], .int .i64 ((n : Int) + 1), .int .i64 0]) (by simp [results, Try.f14, go_sem, *]) rfl ?_
            unfold RNew
            refine ⟨A9, c9, rfl, rowE_rws hrw (by rw [List.length_append, HN.out]; rfl), fun a ha => ?_, HF.out.2.2.1.trans' hE (fun i hi hs => by rw [HS.out] at hi; omega)⟩
            have h9 := hrw.lt a.block (by rw [ha]; rfl)
            rw [HS.out]
            exact ⟨by omega, h9.2⟩
        · refine wpTill_step rfl (fun K hK => ?_)
          go_simp
          have R8 := Lib.hid (R0.out.no ((Ch.refl No w1.drew).alloc (.cells x.enc.toArray 37)))
          have S8 := Lib.hid (S0.out.no ((Ch.refl No w1.drew).alloc (.cells x.enc.toArray 37)))
          have E8 : Hid (Blk (w1.drew.alloc (.cells x.enc.toArray 37)) w1.drew.heap.size 37 x.enc) := Lib.hid (Blk.new w1.drew 37 x.enc)
          refine hK.out _ _ (fun _ => ⟨R8.out.j.cell 0, R8.out.e.ebox⟩) ?_
          clear hK K
          try simp only [Act.put]
          refine wpTill_one (rs := [0]) (by kernel_rfl) (by simp) ?_
          intro i hi
          obtain rfl : i = 0 := by simpa using hi
          refine wpTill_step rfl (fun K hK => ?_)
          go_simp
          have R9 := Lib.hid (R8.out.no ((Ch.refl No (w1.drew.alloc (.cells x.enc.toArray 37))).alloc (.cells #[] 37)))
          have S9 := Lib.hid (S8.out.no ((Ch.refl No (w1.drew.alloc (.cells x.enc.toArray 37))).alloc (.cells #[] 37)))
          have O9 : Hid (((w1.drew.alloc (.cells x.enc.toArray 37)).alloc (.cells #[] 37)).ownsRow (b0 + 3) 37 6 (.slice (some ⟨(w1.drew.alloc (.cells x.enc.toArray 37)).heap.size, 0, none⟩) 0 0) 0 []) := Lib.hid (World.ownsRow_lit (base := b0 + 3) (e := 37) (size := 6) (w1.drew.alloc (.cells x.enc.toArray 37)) #[] 0 (by have := R8.out.z.lt; omega) (by simp) rfl)
          have E9 := Lib.hid (E8.out.alloc (.cells #[] 37))
          refine hK.out _ _ (fun _ => ⟨R9.out.j.cell 0, R9.out.e.ebox⟩) ?_
          clear hK K
          try simp only [Act.put]
          refine wpTill_one (rs := [3]) (by kernel_rfl) (by simp) ?_
          intro i hi
          obtain rfl : i = 3 := by simpa using hi
          refine wpTill_step rfl (fun K hK => ?_)
          refine step_appL0 (by rfl) (.tmp 21) (.tmp 23) 28 37 (by rfl) Ent.zero.val 6 48 Try.underlying28 infoRe2 (by rfl) (by decide) (b0 + 3) (some ⟨(w1.drew.alloc (.cells x.enc.toArray 37)).heap.size, 0, none⟩) 0 (by simp [Act.eval]) O9.out A n c (flatE L) (by rfl) (by rw [flatE_len, HN.out]) (rws_src S9.out).1 (rws_src S9.out).2 (flatE_one L) (by simp [maxLen]; omega) (by omega) (by have := R9.out.z.lt; first | omega | (simp at this ⊢; omega)) ?_
          intro A10 c10 w10 o10 h10 n10
          have R10 := Lib.hid (R9.out.grown h10 (fun k hk => by have := (O9.out.lt k hk).1; omega))
          have E10 := Lib.hid (E9.out.ch h10 (fun hk => by have h9 : some _ = some _ := hk; simp at h9; try omega))
          have O10 := Lib.hid o10
          clear o10 h10 n10
          refine hK.out _ _ (fun _ => ⟨R10.out.j.cell 0, R10.out.e.ebox⟩) ?_
          clear hK K
          try simp only [Act.put]
          refine wpTill_one (rs := [6]) (by kernel_rfl) (by simp) ?_
          intro i hi
          obtain rfl : i = 6 := by simpa using hi
          refine wpTill_step rfl (fun K hK => ?_)
          refine step_appO (by rfl) (.tmp 24) (.tmp 26) 28 37 (by rfl) Ent.zero.val 6 48 Try.underlying28 infoRe2 (by rfl) (by decide) (b0 + 3) (.slice A10 n c10) n (flatE L) (by rfl) O10.out (w1.drew.heap.size) 1 x.enc (by simp [Act.eval]) rfl (E10.out) (enc_one x) (by simp [maxLen]; omega) (by omega) (by have := R10.out.z.lt; first | omega | (simp at this ⊢; omega)) ?_
          intro A11 c11 w11 o11 g11
          have h11 : Ch (fun k => (Value.slice A10 n c10).ownBlock = some k) _ w11 := Ch.grown (Ch.refl _ _) g11 (fun k hk _ => hk)
          have R11 := Lib.hid (R10.out.grown h11 (fun k hk => by have := (O10.out.lt k hk).1; omega))
          have O11 := Lib.hid o11
          clear o11 g11 h11
          refine hK.out _ _ (fun _ => ⟨R11.out.j.cell 0, R11.out.e.ebox⟩) ?_
          clear hK K
          try simp only [Act.put]
          refine wpTill_one (rs := [7]) (by kernel_rfl) (by simp) ?_
          intro i hi
          obtain rfl : i = 7 := by simpa using hi
          refine wpTill_step rfl (fun K hK => ?_)
          go_simp
          refine hK.out _ _ (fun _ => ⟨R11.out.j.cell 0, R11.out.e.ebox⟩) ?_
          clear hK K
          try simp only [Act.put]
          refine wpTill_one (rs := [8]) (by kernel_rfl) (by simp) ?_
          intro i hi
          obtain rfl : i = 8 := by simpa using hi
          have z0 := R11.out.j.cell 0
          have zf := R11.out.j.frozen 0
          refine wpTill_step rfl (fun K hK => ?_)
          go_simp
          refine hK.out _ _ (fun h => nomatch (show true = false from h)) ?_
          clear hK K
          try simp only [Act.put]
          refine wpTill_done (by kernel_rfl) ⟨rfl, ?_⟩ _
          have HO := Lib.hid (And.intro O11.out R11.out)
          clear z0 zf
          generalize w11 = w9 at *
          generalize A11 = A9 at *
          generalize c11 = c9 at *
          have hc9 : Ch (fun k => k = b0) w9 (w9.setCell ⟨b0, 0, none⟩ (.slice A9 (n + 1) c9)) := (Ch.refl (fun k => k = b0) w9).setCell (p := ⟨b0, 0, none⟩) (fun _ => rfl) _
          have HF := Lib.hid (And.intro (HO.out.2.j.set 0 (.slice A9 (n + 1) c9)) (And.intro (HO.out.2.z.ch hc9 (by omega)) (And.intro (HO.out.2.ch.trans' hc9 (fun i hi hs => by have := HO.out.2.lo; omega)) (rowN_ch HO.out.1 hc9 (fun k hk hs => by have := (HO.out.1.lt k hk).1; omega)))))
          clear hc9 HO
          generalize w9.setCell ⟨b0, 0, none⟩ (.slice A9 (n + 1) c9) = w10 at *
          have j0 := HF.out.1.cell 0
          have j1 := HF.out.1.cell 1
          have j2 := HF.out.1.cell 2
          have z0 := HF.out.2.1.cell 0
          have z1 := HF.out.2.1.cell 1
          have z2 := HF.out.2.1.cell 2
          have f0 := HF.out.2.1.frozen 0
          have f1 := HF.out.2.1.frozen 1
          have f2 := HF.out.2.1.frozen 2
          have hl := HF.out.2.1.lt
          simp only [List.set_cons_zero, List.getElem?_cons_zero, List.getElem?_cons_succ] at j0 j1 j2 z0 z1 z2
          go_wp2_with fail
          go_region
          go_wp2_with fail
          have hE : Ch (fun k => k = b0 + 1 + 1) w10 (((w10.setCell ⟨b0 + 1 + 1, 0, none⟩ (.slice A9 (n + 1) c9)).setCell ⟨b0 + 1 + 1, 1, none⟩ (.int .i64 gone)).setCell ⟨b0 + 1 + 1, 2, none⟩ (.int .i64 cap)).drew := ((((Ch.refl (fun k => k = b0 + 1 + 1) w10).setCell (p := ⟨b0 + 1 + 1, 0, none⟩) (fun _ => rfl) _).setCell (p := ⟨b0 + 1 + 1, 1, none⟩) (fun _ => rfl) _).setCell (p := ⟨b0 + 1 + 1, 2, none⟩) (fun _ => rfl) _).drew
          have hrw := rowN_ch HF.out.2.2.2 hE (fun k hk hs => by have := (HF.out.2.2.2.lt k hk).1; omega)
          rw [← flatE_snoc] at hrw
          refine bodyPost_ret (v := .tuple #[.agg #[.slice A9 (n + 1) c9, .int .i64 gone, .int .i64 cap], .int .i64 ((n : Int) + 1), .int .i64 0]) (by simp [results, Try.f14, go_sem, *]) rfl ?_
          unfold RNew
          refine ⟨A9, c9, rfl, rowE_rws hrw (by rw [List.length_append, HN.out]; rfl), fun a ha => ?_, HF.out.2.2.1.trans' hE (fun i hi hs => by rw [HS.out] at hi; omega)⟩
          have h9 := hrw.lt a.block (by rw [ha]; rfl)
          rw [HS.out]
          exact ⟨by omega, h9.2⟩
  -- ORDERS END
set_option maxHeartbeats 4000000 in
set_option maxRecDepth 100000 in
theorem RTrim_any (hgn : gone ≤ n) (hm : n ≤ 100000) (upto : Int) (w : World) : Calls Try.prog 16 #[RJv A n c gone cap, .int .i64 upto] w fun e w' => e = .returned (.tuple #[RJv A n c (gone + trimK upto gone (n - gone)) cap, .int .i64 (trimK upto gone (n - gone))]) ∧ Ch No w w' := by
  obtain ⟨K, hK⟩ : ∃ K, trimK upto gone (n - gone) = K := ⟨_, rfl⟩
  have h1 : ∀ i : Nat, i < K → gone + i < n ∧ (gone : Int) + i < upto := by intro i hi; rw [← hK] at hi; unfold trimK at hi; omega
  have h2 : ∀ i : Nat, K ≤ i → i ≤ K → n ≤ gone + i ∨ upto ≤ (gone : Int) + i := by intro i hi _; rw [← hK] at hi; unfold trimK at hi; omega
  have hKn : gone + K ≤ n := by rw [← hK]; unfold trimK; omega
  have HL := Lib.hid (And.intro h1 h2)
  rw [hK]
  clear h1 h2 hK
  unfold RJv
  obtain ⟨b0, hb0⟩ : ∃ b, w.heap.size = b := ⟨_, rfl⟩
  have HS := Lib.hid hb0
  have HB : Hid (Blk ((w.alloc (.cells #[.slice A n c, .int .i64 gone, .int .i64 cap] 30)).alloc (.cells #[.slice none 0 0, .int .i64 0, .int .i64 0] 30)) b0 30 [.slice A n c, .int .i64 ((gone : Int) + (0 : Nat)), .int .i64 cap] ∧ Blk ((w.alloc (.cells #[.slice A n c, .int .i64 gone, .int .i64 cap] 30)).alloc (.cells #[.slice none 0 0, .int .i64 0, .int .i64 0] 30)) (b0 + 1) 30 [.slice none 0 0, .int .i64 0, .int .i64 0] ∧ Ch No w ((w.alloc (.cells #[.slice A n c, .int .i64 gone, .int .i64 cap] 30)).alloc (.cells #[.slice none 0 0, .int .i64 0, .int .i64 0] 30))) := Lib.hid (by
    rw [← hb0]
    refine ⟨?_, ?_, ((Ch.refl No w).alloc _).alloc _⟩
    · have := (Blk.new w 30 [.slice A n c, .int .i64 gone, .int .i64 cap]).alloc (.cells #[.slice none 0 0, .int .i64 0, .int .i64 0] 30)
      simpa using this
    · have := Blk.new (w.alloc (.cells #[.slice A n c, .int .i64 gone, .int .i64 cap] 30)) 30 [.slice none 0 0, .int .i64 0, .int .i64 0]
      simpa using this)
  go_enter Try.func16, Try.ntmps16
  go_wp2_with fail
  clear hb0
  go_loopw [6] (fun nv wr => ∃ i : Nat, i ≤ K ∧ nv = .int .i64 i ∧ Hid (Blk wr b0 30 [.slice A n c, .int .i64 ((gone : Int) + i), .int .i64 cap] ∧ Blk wr (b0 + 1) 30 [.slice none 0 0, .int .i64 0, .int .i64 0] ∧ Ch No w wr)) (fun nv _ => K - (intOf nv).toNat)
  case atStart => exact ⟨0, Nat.zero_le _, rfl, HB⟩
  case round =>
    clear HB
    obtain ⟨i, hi, rfl, hb⟩ := hrel
    have k0 := hb.out.1.cell 0
    have k1 := hb.out.1.cell 1
    have k2 := hb.out.1.cell 2
    have k3 := hb.out.1.frozen 1
    have hl := hb.out.1.lt
    simp only [List.getElem?_cons_zero, List.getElem?_cons_succ] at k0 k1 k2
    by_cases hiK : i < K
    · have hx := HL.out.1 i hiK
      have hx1 : (gone : Int) + i < n := by omega
      have hx2 := hx.2
      clear hx
      have HN : Hid (Blk (wr.setCell ⟨b0, 1, none⟩ (.int .i64 ((gone : Int) + i + 1))) b0 30 [.slice A n c, .int .i64 ((gone : Int) + (i + 1 : Nat)), .int .i64 cap] ∧ Blk (wr.setCell ⟨b0, 1, none⟩ (.int .i64 ((gone : Int) + i + 1))) (b0 + 1) 30 [.slice none 0 0, .int .i64 0, .int .i64 0] ∧ Ch No w (wr.setCell ⟨b0, 1, none⟩ (.int .i64 ((gone : Int) + i + 1)))) := Lib.hid (by
        refine ⟨?_, hb.out.2.1.set_other (by simp) _, hb.out.2.2.setCell (fun h => by have := HS.out; simp at h; omega) _⟩
        have := hb.out.1.set 1 (.int .i64 ((gone : Int) + i + 1))
        rw [show (gone : Int) + (i + 1 : Nat) = (gone : Int) + i + 1 from by omega]
        simpa using this)
      go_wp2_with fail
      go_roundw
      case rel => exact ⟨i + 1, by omega, by simp, HN⟩
      case measure => simp [intOf]; omega
    · have hiK2 : i = K := by omega
      have z0 := hb.out.2.1.cell 0
      have z1 := hb.out.2.1.cell 1
      have z2 := hb.out.2.1.cell 2
      have f0 := hb.out.2.1.frozen 0
      have f1 := hb.out.2.1.frozen 1
      have f2 := hb.out.2.1.frozen 2
      have hl2 := hb.out.2.1.lt
      simp only [List.getElem?_cons_zero, List.getElem?_cons_succ] at z0 z1 z2
      have hx := HL.out.2 i (by omega) hi
      have HK := Lib.hid hiK2
      clear hiK hiK2
      by_cases hx1 : (gone : Int) + i < n
      · have hx2 : ¬ (gone : Int) + i < upto := by omega
        clear hx
        go_wp2_with fail
        refine bodyPost_ret (v := .tuple #[.agg #[.slice A n c, .int .i64 ((gone : Int) + i), .int .i64 cap], .int .i64 i]) (by simp [results, Try.f16, go_sem, *]) rfl ?_
        exact ⟨by rw [← HK.out], ((hb.out.2.2.setCell (fun h => by have := HS.out; simp at h; omega) _).setCell (fun h => by have := HS.out; simp at h; omega) _).setCell (fun h => by have := HS.out; simp at h; omega) _⟩
      · clear hx
        go_wp2_with fail
        refine bodyPost_ret (v := .tuple #[.agg #[.slice A n c, .int .i64 ((gone : Int) + i), .int .i64 cap], .int .i64 i]) (by simp [results, Try.f16, go_sem, *]) rfl ?_
        exact ⟨by rw [← HK.out], ((hb.out.2.2.setCell (fun h => by have := HS.out; simp at h; omega) _).setCell (fun h => by have := HS.out; simp at h; omega) _).setCell (fun h => by have := HS.out; simp at h; omega) _⟩
theorem take_snocN (S : List Int) (z : Int) (N : Nat) : (S ++ [z]).take N = if (S.take N).length < N then S.take N ++ [z] else S.take N := by
  by_cases h : S.length < N
  · rw [List.take_of_length_le (by simp; omega), List.take_of_length_le (l := S) (by omega), if_pos h]
  · rw [List.take_append_of_le_length (by omega), if_neg (by rw [List.length_take]; omega)]
set_option maxHeartbeats 4000000 in
set_option maxRecDepth 100000 in
theorem RPage_any (h : Rws w A 6 (L.map Ent.enc)) (hn : L.length = n) (hgn : gone ≤ n) (hm : n ≤ 100000) (tenant f k : Int) : Calls Try.prog 27 #[RJv A n c gone cap, .int .i64 tenant, .int .i64 f, .int .i64 k] w fun e w' => ∃ A1 c1, e = .returned (.slice A1 (pageJ gone (L.drop gone) tenant f k).length c1) ∧ Cls w' A1 (ints .i64 (pageJ gone (L.drop gone) tenant f k)) ∧ Ch No w w' := by
  obtain ⟨D, hD⟩ : ∃ D, L.drop gone = D := ⟨_, rfl⟩
  obtain ⟨N, hN⟩ : ∃ N, pageN k = N := ⟨_, rfl⟩
  obtain ⟨d, hd⟩ : ∃ d, n - gone = d := ⟨_, rfl⟩
  have hDl : D.length = d := by rw [← hD, List.length_drop, hn, hd]
  have hH := fun w => RHeld_any k 0 16 w (by omega)
  rw [show max 0 (min k 16) = (N : Int) from by rw [← hN]; unfold pageN; omega] at hH
  have hpg : pageJ gone D tenant f k = (selJ tenant f (numJ gone D d)).take N := by unfold pageJ; rw [hN, hDl]
  rw [hD, hpg]
  have HX := Lib.hid (And.intro hD (And.intro hDl (And.intro hn h)))
  have HH := Lib.hid hH
  have hdn : gone + d = n := by omega
  have hN16 : N ≤ 16 := by rw [← hN]; unfold pageN; omega
  obtain ⟨b0, hb0⟩ : ∃ b, w.heap.size = b := ⟨_, rfl⟩
  have HS : Hid (Blk ((w.alloc (.cells #[.slice A n c, .int .i64 gone, .int .i64 cap] 30)).alloc (.cells #[] 3)) b0 30 [.slice A n c, .int .i64 gone, .int .i64 cap] ∧ OwnS ((w.alloc (.cells #[.slice A n c, .int .i64 gone, .int .i64 cap] 30)).alloc (.cells #[] 3)) (b0 + 1) 3 (.slice (some ⟨b0 + 1, 0, none⟩) 0 0) (ints .i64 []) ∧ Ch No w ((w.alloc (.cells #[.slice A n c, .int .i64 gone, .int .i64 cap] 30)).alloc (.cells #[] 3))) := Lib.hid (by
    rw [← hb0]
    refine ⟨(Blk.new w 30 [.slice A n c, .int .i64 gone, .int .i64 cap]).alloc _, ?_, ((Ch.refl No w).alloc _).alloc _⟩
    have := OwnS.lit (w.alloc (.cells #[.slice A n c, .int .i64 gone, .int .i64 cap] 30)) (w.heap.size + 1) 3 [] (by simp) (by simp)
    simpa [ints] using this)
  have HB0 := Lib.hid hb0
  unfold RJv
  clear hD hDl hN hd hH hpg hn h
  go_enter Try.func27, Try.ntmps27
  go_wp2_with fail
  clear hb0
  go_loopw [9, 10] (fun ov iv wr => ∃ (j q : Nat) (i : Int) (A1 : Option Addr) (c1 : Nat), j ≤ d ∧ iv = .int .i64 i ∧ Hid ((gone : Int) + 1 + j = i) ∧ ov = .slice A1 q c1 ∧ Hid (((selJ tenant f (numJ gone D j)).take N).length = q ∧ Blk wr b0 30 [.slice A n c, .int .i64 gone, .int .i64 cap] ∧ OwnS wr (b0 + 1) 3 (.slice A1 q c1) (ints .i64 ((selJ tenant f (numJ gone D j)).take N)) ∧ Ch No w wr)) (fun _ iv _ => n + 1 - (intOf iv).toNat)
  case atStart => exact ⟨0, 0, _, _, _, Nat.zero_le _, rfl, Lib.hid (by simp), rfl, Lib.hid ⟨by simp [numJ, selJ], HS.out.1, by simpa [numJ, selJ] using HS.out.2.1, HS.out.2.2⟩⟩
  case round =>
    clear HS
    obtain ⟨j, q, i, A1, c1, hj, rfl, hij, rfl, hst⟩ := hrel
    have hi := hij.out
    have k0 := hst.out.2.1.cell 0
    simp only [List.getElem?_cons_zero] at k0
    by_cases hjd : j < d
    · obtain ⟨x, hx⟩ : ∃ x, L[gone + j]? = some x := by
        have : gone + j < L.length := by rw [HX.out.2.2.1]; omega
        exact ⟨_, List.getElem?_eq_getElem this⟩
      have hxD : ∃ h : j < D.length, D[j] = x := by
        have := hx
        rw [← List.getElem?_drop, HX.out.1] at this
        exact List.getElem?_eq_some_iff.1 this
      obtain ⟨hjl, hxe⟩ := hxD
      have hsn := selJ_snoc tenant f (numJ gone D j) ((gone : Int) + 1 + j, D[j])
      rw [← numJ_succ gone D j hjl, hxe] at hsn
      obtain ⟨S, hS⟩ : ∃ S, selJ tenant f (numJ gone D j) = S := ⟨_, rfl⟩
      rw [hS] at hst hsn
      have htk := take_snocN S ((gone : Int) + 1 + j) N
      rw [hst.out.1] at htk
      obtain ⟨pre, post, hsp, hpl⟩ : ∃ pre post, L = pre ++ x :: post ∧ pre.length = gone + j := by
        obtain ⟨hl, rfl⟩ := List.getElem?_eq_some_iff.1 hx
        exact ⟨L.take (gone + j), L.drop (gone + j + 1), by simp, by rw [List.length_take]; omega⟩
      obtain ⟨g, o, hA, y0, y1, y2, y3, y4, y5⟩ := (HX.out.2.2.2.no hst.out.2.2.2).ent hsp
      subst hA
      rw [hpl] at y2
      rw [hi] at hsn htk
      obtain ⟨b, hb⟩ : ∃ b, gone + j = b := ⟨_, rfl⟩
      rw [hb] at y2
      have hib : i - 1 = (b : Int) := by omega
      have hib2 : IntKind.i64.wrap (i - 1) = (b : Int) := by rw [hib]; exact IntWalk.i64_in _ (by omega)
      have hbn : b < n := by omega
      have hin : i ≤ n := by omega
      have hi1 : 1 ≤ i := by omega
      have hqN : q ≤ N := by rw [← hst.out.1, List.length_take]; omega
      have HI := Lib.hid (And.intro hi hb)
      by_cases hT : (decide (f ≤ i) && (decide (tenant ≤ -2) || decide (x.tenant = tenant))) = true ∧ q < N
      · have HR : Hid ((selJ tenant f (numJ gone D (j + 1))).take N = S.take N ++ [i]) := Lib.hid (by rw [hsn, if_pos hT.1, htk, if_pos hT.2])
        obtain ⟨hT1, hqn⟩ := hT
        simp only [Bool.and_eq_true, Bool.or_eq_true, decide_eq_true_eq] at hT1
        obtain ⟨hf, ht⟩ := hT1
        clear hsn htk hxe hx hi hb hsp hpl y0 y1 y3 y4 y5 hS
        have HSL := Lib.hid hst.out.1
        by_cases ht2 : tenant < -1
        · clear ht
          go_wp2_with (first | (go_at_call 41; refine (HH.out _).mono ?_; rintro e w2 ⟨rfl, rfl⟩) | (at_builtin; refine app1k rfl (.tmp 47) (.tmp 49) 44 3 rfl .i64 0 8 Try.underlying44 intInfo (b0 + 1) A1 c1 q (S.take N) hst.out.1 i rfl hst.out.2.2.1 1 rfl ?hn1 ?hb1 ?hB1 ?_))
          case hn1 => simp [maxLen]; omega
          case hb1 => omega
          case hB1 => exact hst.out.2.1.lt
          intro A4 c4 w4 o4 h4 n4
          have HW : Hid (Blk w4 b0 30 [.slice (some ⟨g, o, none⟩) n c, .int .i64 gone, .int .i64 cap] ∧ Ch No w w4) := Lib.hid ⟨hst.out.2.1.ch h4 (fun hk => by have := (hst.out.2.2.1.ge _ hk).1; omega), hst.out.2.2.2.trans' h4 (fun y hy hk => by have := (hst.out.2.2.1.ge _ hk).1; have := HB0.out; omega)⟩
          have HO := Lib.hid o4
          clear o4 h4 n4 hst
          go_wp2_with fail
          go_roundw
          case rel => exact ⟨j + 1, q + 1, _, _, _, by omega, rfl, Lib.hid (by have := HI.out.1; omega), rfl, Lib.hid ⟨by rw [HR.out, List.length_append, HSL.out]; rfl, HW.out.1, by rw [HR.out]; exact HO.out, HW.out.2⟩⟩
          case measure => simp [intOf]; omega
        · have hqq : (x.tenant == tenant) = true := by simp; omega
          clear ht
          go_wp2_with (first | (go_at_call 41; refine (HH.out _).mono ?_; rintro e w2 ⟨rfl, rfl⟩) | (at_builtin; refine app1k rfl (.tmp 47) (.tmp 49) 44 3 rfl .i64 0 8 Try.underlying44 intInfo (b0 + 1) A1 c1 q (S.take N) hst.out.1 i rfl hst.out.2.2.1 1 rfl ?hn2 ?hb2 ?hB2 ?_))
          case hn2 => simp [maxLen]; omega
          case hb2 => omega
          case hB2 => exact hst.out.2.1.lt
          intro A4 c4 w4 o4 h4 n4
          have HW : Hid (Blk w4 b0 30 [.slice (some ⟨g, o, none⟩) n c, .int .i64 gone, .int .i64 cap] ∧ Ch No w w4) := Lib.hid ⟨hst.out.2.1.ch h4 (fun hk => by have := (hst.out.2.2.1.ge _ hk).1; omega), hst.out.2.2.2.trans' h4 (fun y hy hk => by have := (hst.out.2.2.1.ge _ hk).1; have := HB0.out; omega)⟩
          have HO := Lib.hid o4
          clear o4 h4 n4 hst
          go_wp2_with fail
          go_roundw
          case rel => exact ⟨j + 1, q + 1, _, _, _, by omega, rfl, Lib.hid (by have := HI.out.1; omega), rfl, Lib.hid ⟨by rw [HR.out, List.length_append, HSL.out]; rfl, HW.out.1, by rw [HR.out]; exact HO.out, HW.out.2⟩⟩
          case measure => simp [intOf]; omega
      · have HR : Hid ((selJ tenant f (numJ gone D (j + 1))).take N = S.take N) := Lib.hid (by
          rw [hsn]
          by_cases h1 : (decide (f ≤ i) && (decide (tenant ≤ -2) || decide (x.tenant = tenant))) = true
          · rw [if_pos h1, htk, if_neg (fun h => hT ⟨h1, h⟩)]
          · rw [if_neg h1, List.append_nil])
        have hT2 : ∀ h : f ≤ i, (tenant < -1 ∨ x.tenant = tenant) → ¬ q < N := fun h1 h2 h3 => hT ⟨by simp only [Bool.and_eq_true, Bool.or_eq_true, decide_eq_true_eq]; exact ⟨h1, h2.imp (fun h => by omega) id⟩, h3⟩
        have HT2 := Lib.hid hT2
        clear hsn htk hxe hx hi hb hsp hpl y0 y1 y3 y4 y5 hS hT hT2
        by_cases hf : f ≤ i
        · by_cases ht2 : tenant < -1
          · have hqN2 := HT2.out hf (.inl ht2)
            go_wp2_with (go_at_call 41; refine (HH.out _).mono ?_; rintro e w2 ⟨rfl, rfl⟩)
            go_roundw
            case rel => exact ⟨j + 1, q, _, _, _, by omega, rfl, Lib.hid (by have := HI.out.1; omega), rfl, Lib.hid ⟨by rw [HR.out]; exact hst.out.1, hst.out.2.1, by rw [HR.out]; exact hst.out.2.2.1, hst.out.2.2.2⟩⟩
            case measure => simp [intOf]; omega
          · by_cases hx2 : x.tenant = tenant
            · have hqN2 := HT2.out hf (.inr hx2)
              have hqq : (x.tenant == tenant) = true := by simpa using hx2
              clear hx2
              go_wp2_with (go_at_call 41; refine (HH.out _).mono ?_; rintro e w2 ⟨rfl, rfl⟩)
              go_roundw
              case rel => exact ⟨j + 1, q, _, _, _, by omega, rfl, Lib.hid (by have := HI.out.1; omega), rfl, Lib.hid ⟨by rw [HR.out]; exact hst.out.1, hst.out.2.1, by rw [HR.out]; exact hst.out.2.2.1, hst.out.2.2.2⟩⟩
              case measure => simp [intOf]; omega
            · have hqq : (x.tenant == tenant) = false := by simpa using hx2
              clear hx2
              go_wp2_with (go_at_call 41; refine (HH.out _).mono ?_; rintro e w2 ⟨rfl, rfl⟩)
              go_roundw
              case rel => exact ⟨j + 1, q, _, _, _, by omega, rfl, Lib.hid (by have := HI.out.1; omega), rfl, Lib.hid ⟨by rw [HR.out]; exact hst.out.1, hst.out.2.1, by rw [HR.out]; exact hst.out.2.2.1, hst.out.2.2.2⟩⟩
              case measure => simp [intOf]; omega
        · go_wp2_with (go_at_call 41; refine (HH.out _).mono ?_; rintro e w2 ⟨rfl, rfl⟩)
          go_roundw
          case rel => exact ⟨j + 1, q, _, _, _, by omega, rfl, Lib.hid (by have := HI.out.1; omega), rfl, Lib.hid ⟨by rw [HR.out]; exact hst.out.1, hst.out.2.1, by rw [HR.out]; exact hst.out.2.2.1, hst.out.2.2.2⟩⟩
          case measure => simp [intOf]; omega
    · have hjd2 : j = d := by omega
      have HF : Hid (((selJ tenant f (numJ gone D d)).take N).length = q ∧ OwnS wr (b0 + 1) 3 (.slice A1 q c1) (ints .i64 ((selJ tenant f (numJ gone D d)).take N)) ∧ Ch No w wr) := Lib.hid (by rw [← hjd2]; exact ⟨hst.out.1, hst.out.2.2.1, hst.out.2.2.2⟩)
      have hgt : (n : Int) < i := by omega
      clear hjd hjd2 hst hi
      go_wp2_with fail
      go_ret
      exact ⟨A1, c1, by rw [HF.out.1]; rfl, HF.out.2.1.cls.1, HF.out.2.2⟩
end
end Go.Proofs.Ytflpelacjdnplaa
