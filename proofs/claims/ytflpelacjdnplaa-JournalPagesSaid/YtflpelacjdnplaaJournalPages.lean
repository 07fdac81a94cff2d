/- JournalPages: page by page all comes: the walk. -/
import Derived.Test.YtflpelacjdnplaaPagLaw
import Derived.Test.YtflpelacjdnplaaJrnAlive
import Derived.Test.YtflpelacjdnplaaSameInts
import Derived.Test.YtflpelacjdnplaaEntIn
namespace Go.Proofs.Ytflpelacjdnplaa
open Go.RowKit

/-- a journal, and a row of numbers beside it -/
structure Pg (W w : World) (jb : Nat) (L : List Ent) (k : Nat) (Aw : Option Addr) (cw : Nat) (V : List Int) (q : Nat) : Prop where
  jr : ∃ Aj cj, Jr w jb Aj k cj 0 100 L ∧ ∀ x, (Value.slice Aw q cw).ownBlock = some x → ∀ a, Aj = some a → a.block ≠ x
  own : OwnS w W.heap.size 3 (.slice Aw q cw) (ints .i64 V)
  ne : ∀ x, (Value.slice Aw q cw).ownBlock = some x → x ≠ jb
  ch : Ch No W w
  jb : W.heap.size ≤ jb
section
variable {W w : World} {jb k cw q : Nat} {L : List Ent} {Aw : Option Addr} {V : List Int}
theorem Pg.no {w' : World} (h : Pg W w jb L k Aw cw V q) (c : Ch No w w') : Pg W w' jb L k Aw cw V q := by
  obtain ⟨Aj, cj, h1, h2⟩ := h.jr
  exact ⟨⟨Aj, cj, h1.no c, h2⟩, h.own.ch c (fun _ _ h => h), h.ne, h.ch.trans c, h.jb⟩
theorem pgAdd {w0 : World} (h : Pg W w0 jb L k Aw cw V q) (hc : Ch No w0 w) (x : Ent) (b : Nat) (hb : w0.heap.size ≤ b) (hE : EBox w b x) (hx : okE x = true) (hk : k ≤ 60) : Calls Try.prog 15 #[.pointer (some ⟨jb, 0, none⟩), x.val] w fun e w' => e = .returned (.tuple #[.int .i64 ((k : Int) + 1), .int .i64 0]) ∧ Pg W w' jb (L ++ [x]) (k + 1) Aw cw V q ∧ EBox w' b x := by
  obtain ⟨Aj, cj, h1, h2⟩ := h.jr
  refine (JAdd_ok (h1.no hc) x hx (by omega) (by omega) (by omega)).mono ?_
  rintro e w' ⟨rfl, A', c', q2, q3, q4⟩
  have hn : ∀ y, (Value.slice Aw q cw).ownBlock = some y → ¬ JS jb Aj y := by
    rintro y hy (rfl | ⟨a, ha, rfl⟩)
    · exact h.ne _ hy rfl
    · exact h2 _ hy a ha rfl
  have hbn : ¬ JS jb Aj b := by
    rintro (rfl | ⟨a, ha, rfl⟩)
    · have := h1.lt
      omega
    · have := (h1.row.blk a ha).2
      omega
  refine ⟨by simp, ⟨⟨A', c', q2, fun y hy a ha e => ?_⟩, (h.own.ch hc (fun _ _ h => h)).ch q3 hn, h.ne, js_no (h.ch.trans hc) (h1.no hc) h.jb q3, h.jb⟩, hE.chT q3 hbn⟩
  rcases q4 a ha with ⟨a0, ha0, h0⟩ | h0
  · exact h2 y hy a0 ha0 (by rw [h0, e])
  · have := (h.own.ge y hy).2
    have := hc.size
    omega
theorem pgBad (h : Pg W w jb L k Aw cw V q) (x : Ent) (hx : okE x = false) : Calls Try.prog 15 #[.pointer (some ⟨jb, 0, none⟩), x.val] w fun e w' => e = .returned (.tuple #[.int .i64 0, .int .i64 23]) ∧ Pg W w' jb L k Aw cw V q :=
  (JAdd_bad x hx w _).mono fun _ _ ⟨h1, h2⟩ => ⟨h1, h.no h2⟩
theorem Pg.app {w' : World} {A' : Option Addr} {c' : Nat} {V' : List Int} {q' : Nat} (h : Pg W w jb L k Aw cw V q) (ho : OwnS w' W.heap.size 3 (.slice A' q' c') (ints .i64 V')) (hc : Ch (fun i => (Value.slice Aw q cw).ownBlock = some i) w w') (hn : ∀ i, (Value.slice A' q' c').ownBlock = some i → (Value.slice Aw q cw).ownBlock = some i ∨ w.heap.size ≤ i) : Pg W w' jb L k A' c' V' q' := by
  obtain ⟨Aj, cj, h1, h2⟩ := h.jr
  refine ⟨⟨Aj, cj, h1.chS hc (fun e => h.ne _ e rfl) (fun a ha e => h2 _ e a ha rfl), fun y hy a ha e => ?_⟩, ho, fun y hy e => ?_, h.ch.trans' hc (fun i hi he => by have := (h.own.ge i he).1; omega), h.jb⟩
  · rcases hn y hy with h3 | h3
    · exact h2 y h3 a ha e
    · have := (h1.row.blk a ha).2
      omega
  · rcases hn y hy with h3 | h3
    · exact h.ne y h3 e
    · have := h1.lt
      omega
end
theorem app1j {P : Program} {ops : Array Oper} {Q : Exit → Act → World → Prop} {a : Act} {w : World} {rest : List Oper} {o : Oper} (hgd : o.guard = none) (s x : Operand) (t e : TypeId)
    (ho : o.op = .call { callee := .builtin .append, args := #[s, x], argTypes := #[t, t] }) (k : IntKind) (z : Int) (bytes : Nat)
    (ht : P.underlying t = some (.slice e)) (hinfo : (P.info? e).map (fun i => (i.zero, i.size, i.bytes)) = some (some (.int k z), 1, bytes))
    (B : Nat) (A0 : Option Addr) (c0 n : Nat) (ys : List Int) (hn0 : ys.length = n) (y : Int) (hs : a.eval s = .slice A0 n c0) (hown : OwnS w B e (.slice A0 n c0) (ints k ys)) (c : Nat) (hx : a.eval x = .slice (some ⟨w.heap.size, 0, none⟩) 1 c)
    (hn : n + 1 ≤ maxLen) (hb : (n + 1) * bytes ≤ 140737488355328) (hB : B ≤ w.heap.size)
    (h : ∀ A' c' w', OwnS w' B e (.slice A' (n + 1) c') (ints k (ys ++ [y])) → Ch (fun i => (Value.slice A0 n c0).ownBlock = some i) w w' → (∀ i, (Value.slice A' (n + 1) c').ownBlock = some i → (Value.slice A0 n c0).ownBlock = some i ∨ w.heap.size ≤ i) → wpList P ops Q rest (a.put o.dst (.slice A' (n + 1) c')) w') :
    wpList P ops Q (o :: rest) a (w.alloc (.cells #[.int k y] e)) := by
  subst hn0
  refine app1i hgd s x t e ho k z bytes ht hinfo B A0 c0 ys y hs hown c hx hn hb hB ?_
  intro g' c' w' h1 h2 h3
  rw [List.length_append] at h1
  exact h _ c' w' h1 h2 (fun i hi => by cases hi; exact h3)

theorem app2j {P : Program} {ops : Array Oper} {Q : Exit → Act → World → Prop} {a : Act} {w : World} {rest : List Oper} {o : Oper} (hgd : o.guard = none) (s x : Operand) (t e : TypeId)
    (ho : o.op = .call { callee := .builtin .append, args := #[s, x], argTypes := #[t, t] }) (k : IntKind) (z : Int) (bytes : Nat)
    (ht : P.underlying t = some (.slice e)) (hinfo : (P.info? e).map (fun i => (i.zero, i.size, i.bytes)) = some (some (.int k z), 1, bytes))
    (B : Nat) (A0 : Option Addr) (c0 n : Nat) (ys : List Int) (hyn : ys.length = n) (hs : a.eval s = .slice A0 n c0) (hown : OwnS w B e (.slice A0 n c0) (ints k ys)) (A : Option Addr) (c m : Nat) (xs : List Int) (hxm : xs.length = m) (hx : a.eval x = .slice A m c) (hsrc : Cls w A (ints k xs))
    (hn : n + m ≤ maxLen) (hb : (n + m) * bytes ≤ 140737488355328) (hB : B ≤ w.heap.size)
    (h : ∀ A' c' w', OwnS w' B e (.slice A' (n + m) c') (ints k (ys ++ xs)) → Ch (fun i => (Value.slice A0 n c0).ownBlock = some i) w w' → (∀ i, (Value.slice A' (n + m) c').ownBlock = some i → (Value.slice A0 n c0).ownBlock = some i ∨ w.heap.size ≤ i) → wpList P ops Q rest (a.put o.dst (.slice A' (n + m) c')) w') :
    wpList P ops Q (o :: rest) a w := by
  subst hyn
  subst hxm
  refine appI hgd s x t e ho k z bytes ht hinfo B A0 c0 ys hs hown A c xs hx hsrc hn hb hB ?_
  intro A' c' w' h1 h2 h3
  rw [List.length_append] at h1 h3
  exact h A' c' w' h1 h2 h3
theorem pgPage {W w : World} {jb k cw q : Nat} {L : List Ent} {Aw : Option Addr} {V : List Int} (h : Pg W w jb L k Aw cw V q) (tenant f n : Int) (hk : k ≤ 1000) : Calls Try.prog 26 #[.pointer (some ⟨jb, 0, none⟩), .int .i64 tenant, .int .i64 f, .int .i64 n] w fun e w' => ∃ A1 c1, e = .returned (.slice A1 (pageJ 0 L tenant f n).length c1) ∧ Cls w' A1 (ints .i64 (pageJ 0 L tenant f n)) ∧ Ch No w w' ∧ ∀ a, A1 = some a → w.heap.size ≤ a.block := by
  obtain ⟨Aj, cj, h1, h2⟩ := h.jr
  refine (JPage_any w jb k cj 0 100 Aj L h1 (by omega) (by omega) tenant f n).mono ?_
  rintro e w' ⟨v, rfl, ho, hc⟩
  obtain ⟨A1, c1, rfl, hcl, _⟩ := ho.slice_ints
  exact ⟨A1, c1, rfl, hcl, hc, fun a ha => (ho.ge a.block (by rw [ha]; rfl)).1⟩
theorem page_rest {tenant f : Int} {L : List Ent} {S rest : List Int} {M : Nat} (hS : selJ tenant 1 (numJ 0 L L.length) = S) (hr : (S.filter fun i => decide (f ≤ i)) = rest) (hf : 1 ≤ f) (hM : M ≤ 8) : pageJ 0 L tenant f M = rest.take M := by
  unfold pageJ
  rw [selJ_from tenant 1 f hf, hS, hr]
  congr 1
  unfold pageN
  omega
theorem selJ_mem {tenant f z : Int} {gone : Nat} {L : List Ent} (h : z ∈ selJ tenant f (numJ gone L L.length)) : (gone : Int) + 1 ≤ z ∧ z ≤ (gone : Int) + L.length := by
  unfold selJ at h
  obtain ⟨x, hx, rfl⟩ := List.mem_map.1 h
  have hx := (List.mem_filter.1 hx).1
  obtain ⟨i, hi, hxi⟩ := List.mem_iff_getElem.1 hx
  have hi2 := hi
  rw [numJ_len, Nat.min_self] at hi2
  simp only [numJ, List.getElem_mapIdx] at hxi
  rw [← hxi]
  simp only
  omega
theorem want_snoc (tenant : Int) (L : List Ent) (x : Ent) : selJ tenant 1 (numJ 0 (L ++ [x]) (L ++ [x]).length) = selJ tenant 1 (numJ 0 L L.length) ++ (if (decide (tenant ≤ -2) || decide (x.tenant = tenant)) then [(L.length : Int) + 1] else []) := by
  rw [numJ_snoc, selJ_snoc]
  have h1 : (1 : Int) ≤ ((0 : Nat) : Int) + 1 + (L.length : Nat) := by omega
  have h2 : ((0 : Nat) : Int) + 1 + (L.length : Nat) = (L.length : Int) + 1 := by omega
  simp only [h2]
  rw [h2] at h1
  simp [h1]

set_option maxHeartbeats 8000000 in
set_option maxRecDepth 100000 in
theorem journalPages_core (W : World) (A : Option Addr) (c : Nat) (xs : List Ent) (tenant n0 : Int) (hx : Rws W A 6 (xs.map Ent.enc)) (hxl : xs.length ≤ 140737488351232) :
    Calls Try.prog 4 #[.slice A xs.length c, .int .i64 tenant, .int .i64 n0] W fun e w' => e = .returned (.bool true) ∧ Ch No W w' := by
  have al := fun w => jrnAlive_any w
  obtain ⟨N, hN⟩ : ∃ N, xs.length = N := ⟨_, rfl⟩
  have HX := Lib.hid (And.intro hN hx)
  rw [hN] at hxl ⊢
  clear hN hx
  by_cases h60 : 60 < N
  · go_enter Try.func4, Try.ntmps4
    go_wp2_with fail
    refine (al _).mono ?_
    rintro e w1 ⟨rfl, h1⟩
    have H1 := Lib.hid h1
    clear h1 al
    go_wp2_with fail
    go_ret
    exact ⟨rfl, H1.out⟩
  have HNW := Lib.hid (fun w => JNew_ok 100 (by omega) (by omega) w)
  go_enter Try.func4, Try.ntmps4
  go_wp2_with fail
  refine (al _).mono ?_
  rintro e w1 ⟨rfl, h1⟩
  have H1 := Lib.hid h1
  clear h1 al
  go_wp2_with fail
  refine (HNW.out _).mono ?_
  rintro e w2 ⟨jb, rfl, hb, j2, h2⟩
  have P2 : Hid (Pg W (w2.alloc (.cells #[] 3)) jb [] 0 (some ⟨w2.heap.size, 0, none⟩) 0 [] 0) := Lib.hid (by
    have hW := Nat.le_trans H1.out.size hb
    refine ⟨⟨none, 0, j2.no ((Ch.refl No w2).alloc _), fun _ _ _ h => by cases h⟩, OwnS.lit w2 W.heap.size 3 [] (H1.out.trans h2).size (by simp), ?_, (H1.out.trans h2).alloc _, hW⟩
    intro y hy e
    cases hy
    have := j2.lt
    simp at e
    omega)
  clear j2 h2 hb H1 HNW
  go_wp2_with fail
  go_loopw [9, 11, 12, 13, 29] (fun wt _ _ _ i wr => ∃ (pre post L : List Ent) (p k q : Nat) (Aw : Option Addr) (cw : Nat), Hid (xs = pre ++ post ∧ pre.length = p ∧ L.length = k ∧ k ≤ p ∧ q ≤ k) ∧ i = .int .i64 p ∧ wt = .slice Aw q cw ∧ Hid ((selJ tenant 1 (numJ 0 L L.length)).length = q ∧ Pg W wr jb L k Aw cw (selJ tenant 1 (numJ 0 L L.length)) q)) (fun _ _ _ _ i _ => N - (intOf i).toNat)
  case atStart => exact ⟨[], xs, [], 0, 0, 0, _, _, Lib.hid ⟨rfl, rfl, rfl, by omega, by omega⟩, rfl, rfl, Lib.hid ⟨rfl, P2.out⟩⟩
  case round =>
    clear P2
    obtain ⟨pre, post, L, p, k, q, Aw, cw, hxp, rfl, rfl, hp⟩ := hrel
    have hln := congrArg List.length hxp.out.1
    rw [HX.out.1, List.length_append, hxp.out.2.1] at hln
    have hkp := hxp.out.2.2.2.1
    have hqk := hxp.out.2.2.2.2
    cases post with
    | nil =>
      simp at hln
      have hn1 : N ≤ p := by omega
      have hn2 : p ≤ N := by omega
      obtain ⟨S, hS⟩ : ∃ S, selJ tenant 1 (numJ 0 L L.length) = S := ⟨_, rfl⟩
      rw [hS] at hp
      have hqN : q ≤ N := by omega
      have hk60 : k ≤ 60 := by omega
      have HS := Lib.hid (And.intro hS hp.out.1)
      have hSf : (S.filter fun i => decide ((1 : Int) ≤ i)) = S := by
        have := selJ_from tenant 1 1 (Int.le_refl _) (numJ 0 L L.length)
        rw [hS] at this
        exact this.symm
      have hq1 : bits .and .i64 n0 7 = n0 % 8 := i64_mask n0 3 (by omega)
      obtain ⟨M, hM⟩ : ∃ M : Nat, (1 : Int) + n0 % 8 = M := ⟨(1 + n0 % 8).toNat, by omega⟩
      have hM1 : 1 ≤ M := by omega
      have hM8 : M ≤ 8 := by omega
      have HGO : Hid (Pg W (wr.alloc (.cells #[] 3)) jb L k (some ⟨wr.heap.size, 0, none⟩) 0 [] 0 ∧ OwnS (wr.alloc (.cells #[] 3)) W.heap.size 3 (.slice Aw q cw) (ints .i64 S) ∧ ∀ y, (Value.slice Aw q cw).ownBlock = some y → (Value.slice (some ⟨wr.heap.size, 0, none⟩) 0 0).ownBlock ≠ some y) := Lib.hid (by
        have hPW := hp.out.2
        obtain ⟨Aj, cj, h1, h2⟩ := hPW.jr
        refine ⟨⟨⟨Aj, cj, h1.no ((Ch.refl No wr).alloc _), ?_⟩, OwnS.lit wr W.heap.size 3 [] hPW.ch.size (by simp), ?_, hPW.ch.alloc _, hPW.jb⟩, hPW.own.alloc _, ?_⟩
        · intro y hy a ha e
          cases hy
          have := (h1.row.blk a ha).2
          simp at e
          omega
        · intro y hy e
          cases hy
          have := h1.lt
          simp at e
          omega
        · intro y hy e
          cases e
          have := (hPW.own.ge _ hy).2
          simp at this)
      clear hln hkp hqk hS hp
      go_wp2_with fail
      clear hq1 hM hn1 hn2
      generalize decide (p < N) = bd at *
      go_loopw [14, 15, 16, 63] (fun gt ft _ i wr2 => ∃ (dn rst : List Int) (f : Int) (j g : Nat) (Ag : Option Addr) (cg : Nat), Hid (S = dn ++ rst ∧ (S.filter fun i => decide (f ≤ i)) = rst ∧ 1 ≤ f) ∧ i = .int .i64 j ∧ Hid (rst.length + j ≤ N ∧ dn.length = g) ∧ gt = .slice Ag g cg ∧ ft = .int .i64 f ∧ Hid (Pg W wr2 jb L k Ag cg dn g ∧ OwnS wr2 W.heap.size 3 (.slice Aw q cw) (ints .i64 S) ∧ ∀ y, (Value.slice Aw q cw).ownBlock = some y → (Value.slice Ag g cg).ownBlock ≠ some y)) (fun _ _ _ i _ => N + 1 - (intOf i).toNat)
      case atStart => exact ⟨[], S, 1, 0, 0, _, _, Lib.hid ⟨rfl, hSf, Int.le_refl _⟩, rfl, Lib.hid ⟨by rw [HS.out.2]; omega, rfl⟩, rfl, rfl, HGO⟩
      case round =>
        clear HGO hSf
        obtain ⟨dn, rst, f, j, g, Ag, cg, hsp, rfl, hjl, rfl, rfl, hst⟩ := hrel
        have hjN : j < N + 1 := by have := hjl.out.1; omega
        have hjN2 : (j : Int) < (N : Int) + 1 := by omega
        have hpg := page_rest HS.out.1 hsp.out.2.1 hsp.out.2.2 hM8
        have HP := Lib.hid (fun w' (h : Pg W w' jb L k Ag cg dn g) => by have := pgPage h tenant f (M : Int) (by omega); rw [hpg] at this; exact this)
        clear hpg
        by_cases hrs : rst = []
        · rw [hrs] at HP hsp
          simp only [List.take_nil, List.length_nil] at HP
          have hdn : dn = S := by have := hsp.out.1; rw [List.append_nil] at this; exact this.symm
          have HSI : Hid (∀ w' (h1 : Cls w' Ag (ints .i64 dn)) (h2 : Cls w' Aw (ints .i64 S)), Calls Try.prog 25 #[.slice Ag g cg, .slice Aw q cw] w' fun e w'' => e = .returned (.bool true) ∧ Ch No w' w'') := Lib.hid (fun w' h1 h2 => by
            have := SameI_any w' Ag cg dn Aw cw S h1 h2 (by rw [hdn, HS.out.2]; omega)
            rw [hjl.out.2, HS.out.2, decide_eq_true hdn] at this
            exact this)
          clear hdn hrs
          go_wp2_with fail
          refine (HP.out _ hst.out.1).mono ?_
          rintro e w4 ⟨A1, c1, rfl, _, h4, _⟩
          have H4 := Lib.hid (And.intro (hst.out.1.no h4) (hst.out.2.1.ch h4 (fun _ _ h => h)))
          clear h4 HP
          go_wp2_with fail
          refine (HSI.out _ H4.out.1.own.cls.1 H4.out.2.cls.1).mono ?_
          rintro e w5 ⟨rfl, h5⟩
          have H5 := Lib.hid (H4.out.1.ch.trans h5)
          clear h5
          go_wp2_with fail
          go_ret
          exact ⟨rfl, H5.out⟩
        · obtain ⟨T, hT⟩ : ∃ T, rst.take M = T := ⟨_, rfl⟩
          have hTn : T ≠ [] := by
            rw [← hT]
            intro h
            rcases List.take_eq_nil_iff.1 h with h | h
            · omega
            · exact hrs h
          have hsplit : rst = T ++ rst.drop M := by rw [← hT, List.take_append_drop]
          obtain ⟨B, hB⟩ : ∃ B, rst.drop M = B := ⟨_, rfl⟩
          rw [hB] at hsplit
          obtain ⟨A0, z, hAz⟩ : ∃ A0 z, T = A0 ++ [z] := ⟨T.dropLast, T.getLast hTn, (List.dropLast_concat_getLast hTn).symm⟩
          obtain ⟨a, ha⟩ : ∃ a, A0.length = a := ⟨_, rfl⟩
          obtain ⟨m, hm⟩ : ∃ m, T.length = m := ⟨_, rfl⟩
          have hma : m = a + 1 := by rw [← hm, hAz, List.length_append, ha]; rfl
          have hmM : m ≤ M := by rw [← hm, ← hT, List.length_take]; omega
          have hzS : z ∈ S := by rw [hsp.out.1, hsplit, hAz]; simp
          have hzb := selJ_mem (by rw [HS.out.1]; exact hzS : z ∈ selJ tenant 1 (numJ 0 L L.length))
          have hLk := hxp.out.2.2.1
          have hz1 : 1 ≤ z := by omega
          have hz2 : z ≤ 100 := by omega
          have hrl : rst.length = m + B.length := by rw [hsplit, List.length_append, hm]
          have HN : Hid (S = (dn ++ T) ++ B ∧ (S.filter fun i => decide (z + 1 ≤ i)) = B ∧ B.length + (j + 1) ≤ N ∧ (dn ++ T).length = g + m) := Lib.hid ⟨by rw [hsp.out.1, hsplit, List.append_assoc], rest_next (by rw [← HS.out.1]; exact selJ_rise _ _ _ _) (by rw [hsp.out.2.1, hsplit, hAz]), by have := hjl.out.1; omega, by rw [List.length_append, hjl.out.2, hm]⟩
          rw [hT, hm] at HP
          have hgN : g ≤ N := by
            have h1 := congrArg List.length hsp.out.1
            rw [List.length_append, HS.out.2, hjl.out.2] at h1
            omega
          have hN60 : N ≤ 60 := by omega
          have e1 : (m : Int) - 1 = (a : Int) := by omega
          have e2 : ¬ (M : Int) < (m : Int) := by omega
          have e3 : 0 < m := by omega
          have e4 : a < m := by omega
          have e5 : ((m : Int) == 0) = false := by simpa using (by omega : ¬ (m : Int) = 0)
          have HT := Lib.hid (And.intro hAz (And.intro ha hm))
          clear hrs hT hTn hsplit hB hAz ha hm hma hzS hzb hLk hrl
          go_wp2_with fail
          refine (HP.out _ hst.out.1).mono ?_
          rintro e w4 ⟨A1, c1, rfl, hcl, h4, hnw⟩
          have HPN : Hid (∀ a0, A1 = some a0 → ¬ (Value.slice Ag g cg).ownBlock = some a0.block) := Lib.hid (fun a0 ha0 he => by have := hnw a0 ha0; have := (hst.out.1.own.ge _ he).2; omega)
          have H4 := Lib.hid (And.intro (hst.out.1.no h4) (And.intro (hst.out.2.1.ch h4 (fun _ _ h => h)) hcl))
          clear h4 HP hcl hnw
          go_wp2_with (at_builtin; refine app2j rfl (.tmp 77) (.tmp 78) 44 3 rfl .i64 0 8 Try.underlying44 intInfo W.heap.size Ag cg g dn hjl.out.2 rfl H4.out.1.own A1 c1 m T HT.out.2.2 rfl H4.out.2.2 ?un ?ub ?uB ?_)
          case un => simp [maxLen]; omega
          case ub => omega
          case uB => exact H4.out.1.ch.size
          intro A5 c5 w5 o5 h5 n5
          obtain ⟨b6, o6, hA6, kz⟩ := (H4.out.2.2.ch h5 (fun a0 ha0 he => HPN.out a0 ha0 he)).at HT.out.1
          subst hA6
          rw [HT.out.2.1] at kz
          have H5 : Hid (Pg W w5 jb L k A5 c5 (dn ++ T) (g + m) ∧ OwnS w5 W.heap.size 3 (.slice Aw q cw) (ints .i64 S) ∧ ∀ y, (Value.slice Aw q cw).ownBlock = some y → (Value.slice A5 (g + m) c5).ownBlock ≠ some y) := Lib.hid ⟨H4.out.1.app o5 h5 n5, H4.out.2.1.ch h5 (fun y hy he => hst.out.2.2 y hy he), fun y hy he => by
            rcases n5 y he with h6 | h6
            · exact hst.out.2.2 y hy h6
            · have := (H4.out.2.1.ge y hy).2
              omega⟩
          clear o5 h5 n5 H4 HPN
          go_wp2_with fail
          go_roundw
          case rel => exact ⟨dn ++ T, B, z + 1, j + 1, g + m, A5, c5, Lib.hid ⟨HN.out.1, HN.out.2.1, by omega⟩, by simp, Lib.hid ⟨HN.out.2.2.1, HN.out.2.2.2⟩, rfl, rfl, H5⟩
          case measure => simp [intOf]; omega
    | cons x post =>
      rw [List.length_cons] at hln
      obtain ⟨gy, oy, rfl, k0, k1, k2, k3, k4, k5⟩ := (HX.out.2.no hp.out.2.ch).ent hxp.out.1
      rw [hxp.out.2.1] at k0 k1 k2 k3 k4 k5
      have hlt : p < N := by omega
      have hp60 : p ≤ 60 := by omega
      have hk60 : k ≤ 60 := by omega
      have hq60 : q ≤ 60 := by omega
      have HKP := Lib.hid (And.intro hkp hqk)
      clear hln hkp hqk
      obtain ⟨S, hS⟩ : ∃ S, selJ tenant 1 (numJ 0 L L.length) = S := ⟨_, rfl⟩
      rw [hS] at hp
      have hBx : EBox (wr.alloc (.cells x.enc.toArray 32)) wr.heap.size x := (Blk.new wr 32 x.enc).ebox
      have hCx : Ch No wr (wr.alloc (.cells x.enc.toArray 32)) := (Ch.refl No wr).alloc _
      simp only [Ent.enc] at hBx hCx
      obtain ⟨bx, hbx⟩ : ∃ bx, wr.heap.size = bx := ⟨_, rfl⟩
      rw [hbx] at hBx
      cases hox : okE x with
      | false =>
        have HA := Lib.hid (fun w' (h : Pg W w' jb L k Aw cw S q) => pgBad h x hox)
        unfold Ent.val at HA
        have hp1 := Lib.hid (hp.out.2.no hCx)
        have HS := Lib.hid (And.intro hS hp.out.1)
        clear hox hCx hS hp
        go_wp2_with fail
        refine (HA.out _ hp1.out).mono ?_
        rintro e w3 ⟨rfl, j3⟩
        have J3 := Lib.hid j3
        clear j3 HA hp1 hBx k0 k1 k2 k3 k4 k5
        go_wp2_with fail
        go_roundw
        case rel => exact ⟨pre ++ [x], post, L, p + 1, k, q, _, _, Lib.hid ⟨by rw [hxp.out.1]; simp, by simp [hxp.out.2.1], hxp.out.2.2.1, by have := HKP.out.1; omega, HKP.out.2⟩, by simp, rfl, Lib.hid ⟨by rw [HS.out.1]; exact HS.out.2, by rw [HS.out.1]; exact J3.out⟩⟩
        case measure => simp [intOf]; omega
      | true =>
        have HA := Lib.hid (pgAdd hp.out.2 hCx x bx (by omega) hBx hox hk60)
        unfold Ent.val at HA
        have HS := Lib.hid (And.intro hS (And.intro hp.out.1 hxp.out.2.2.1))
        have hsn := want_snoc tenant L x
        rw [hS, hxp.out.2.2.1] at hsn
        clear hox hCx hS hp
        go_wp2_with fail
        refine HA.out.mono ?_
        rintro e w3 ⟨rfl, j3, b3⟩
        clear hbx
        have J3 := Lib.hid (And.intro j3 b3)
        have kx := b3.2.2.1
        clear j3 b3 HA hBx k0 k1 k2 k3 k4 k5
        by_cases ht : tenant < -1
        · have HSN : Hid (selJ tenant 1 (numJ 0 (L ++ [x]) (L ++ [x]).length) = S ++ [(k : Int) + 1]) := Lib.hid (by rw [hsn]; simp [show tenant ≤ -2 from by omega])
          clear hsn
          go_wp2_with (at_builtin; refine app1j rfl (.tmp 51) (.tmp 53) 44 3 rfl .i64 0 8 Try.underlying44 intInfo W.heap.size Aw cw q S HS.out.2.1 ((k : Int) + 1) rfl J3.out.1.own 1 rfl ?hn ?hb ?hB ?_)
          case hn => simp [maxLen]; omega
          case hb => omega
          case hB => exact J3.out.1.ch.size
          intro A4 c4 w4 o4 h4 n4
          have J4 := Lib.hid (J3.out.1.app o4 h4 n4)
          clear o4 h4 n4 kx
          go_wp2_with fail
          go_roundw
          case rel => exact ⟨pre ++ [x], post, L ++ [x], p + 1, k + 1, q + 1, _, _, Lib.hid ⟨by rw [hxp.out.1]; simp, by simp [hxp.out.2.1], by simp [hxp.out.2.2.1], by have := HKP.out.1; omega, by have := HKP.out.2; omega⟩, by simp, rfl, Lib.hid ⟨by rw [HSN.out]; simp [HS.out.2.1], by rw [HSN.out]; exact J4.out⟩⟩
          case measure => simp [intOf]; omega
        · have hd : decide (tenant < -1) = false := decide_eq_false ht
          by_cases hq : x.tenant = tenant
          · have HSN : Hid (selJ tenant 1 (numJ 0 (L ++ [x]) (L ++ [x]).length) = S ++ [(k : Int) + 1]) := Lib.hid (by rw [hsn]; simp [hq])
            have hqq : (x.tenant == tenant) = true := by simpa using hq
            clear hsn hq ht
            go_wp2_with (at_builtin; refine app1j rfl (.tmp 51) (.tmp 53) 44 3 rfl .i64 0 8 Try.underlying44 intInfo W.heap.size Aw cw q S HS.out.2.1 ((k : Int) + 1) rfl J3.out.1.own 1 rfl ?hn ?hb ?hB ?_)
            case hn => simp [maxLen]; omega
            case hb => omega
            case hB => exact J3.out.1.ch.size
            intro A4 c4 w4 o4 h4 n4
            have J4 := Lib.hid (J3.out.1.app o4 h4 n4)
            clear o4 h4 n4 kx hqq
            go_wp2_with fail
            go_roundw
            case rel => exact ⟨pre ++ [x], post, L ++ [x], p + 1, k + 1, q + 1, _, _, Lib.hid ⟨by rw [hxp.out.1]; simp, by simp [hxp.out.2.1], by simp [hxp.out.2.2.1], by have := HKP.out.1; omega, by have := HKP.out.2; omega⟩, by simp, rfl, Lib.hid ⟨by rw [HSN.out]; simp [HS.out.2.1], by rw [HSN.out]; exact J4.out⟩⟩
            case measure => simp [intOf]; omega
          · have HSN : Hid (selJ tenant 1 (numJ 0 (L ++ [x]) (L ++ [x]).length) = S) := Lib.hid (by rw [hsn]; simp [show ¬ tenant ≤ -2 from by omega, hq])
            have hqq : (x.tenant == tenant) = false := by simpa using hq
            clear hsn hq ht
            go_wp2_with fail
            go_roundw
            case rel => exact ⟨pre ++ [x], post, L ++ [x], p + 1, k + 1, q, _, _, Lib.hid ⟨by rw [hxp.out.1]; simp, by simp [hxp.out.2.1], by simp [hxp.out.2.2.1], by have := HKP.out.1; omega, by have := HKP.out.2; omega⟩, by simp, rfl, Lib.hid ⟨by rw [HSN.out]; exact HS.out.2.1, by rw [HSN.out]; exact J3.out.1⟩⟩
            case measure => simp [intOf]; omega
set_option maxRecDepth 100000 in
theorem journalPages_walk (W : World) (A0 : Option Addr) (n0 c0 : Nat) (a1 a2 : Int) (R0 : Rd Try.prog W 8 45 [.slice A0 n0 c0]) (_w1 : (Lit.int .i64 a1).wf = true) (_w2 : (Lit.int .i64 a2).wf = true) :
    Calls Try.prog 4 #[.slice A0 n0 c0, .int .i64 a1, .int .i64 a2] W fun e w' => e = .returned (.bool true) ∧ Below W.heap.size W w' := by
  obtain ⟨A, c, xs, hv, hx0, _, hl0⟩ := rd_ents R0
  obtain ⟨rfl, rfl, rfl⟩ := Value.slice.inj hv
  exact (journalPages_core W _ _ xs a1 a2 hx0 (by omega)).mono fun _ _ ⟨h1, h2⟩ => ⟨h1, h2.same⟩
end Go.Proofs.Ytflpelacjdnplaa
