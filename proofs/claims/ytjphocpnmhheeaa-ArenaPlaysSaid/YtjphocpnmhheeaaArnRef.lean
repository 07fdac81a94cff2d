/- the reference's functions on arenas: what they come to. -/
import Derived.Test.YtjphocpnmhheeaaArenaKeeps
import Derived.Deep.Cut
namespace Go.Proofs.Ytjphocpnmhheeaa
open Go.RowKit

theorem infoRn : (Try.prog.info? 44).map (fun i => (i.zero, i.size, i.bytes)) = some (some Nd.zero.val, 7, 48) := by kernel_rfl
/-- a row of a call's own, of whatever named type, reads as its nodes -/
theorem rowE_rws {e : TypeId} {w : World} {B : Nat} {A : Option Addr} {c n : Nat} {xs : List Nd} (h : w.ownsRow B e 7 (.slice A n c) n (flatN xs)) (hn : n = xs.length) : Rws w A 7 (xs.map Nd.enc) := by
  subst hn
  intro pre r post e
  obtain ⟨p, q, rfl, rfl, e2⟩ := List.map_eq_append_iff.1 e
  obtain ⟨a, q', rfl, rfl, rfl⟩ := List.map_eq_cons_iff.1 e2
  refine ⟨rfl, ?_⟩
  rcases h.2 with ⟨_, h0⟩ | ⟨g, cap, cur, hv, _⟩
  · simp at h0
  · have hA : A = some ⟨g, 0, none⟩ := (Value.slice.inj hv).1
    subst hA
    refine ⟨g, 0, rfl, ?_⟩
    intro j v hj
    have hj7 : j < 7 := by have := (List.getElem?_eq_some_iff.1 hj).1; simpa [Nd.enc] using this
    rw [List.length_map, Nat.zero_add]
    have h1 := h.cellAt (p.length * 7 + j) (by rw [List.length_append, List.length_cons]; omega)
    rw [flatN_at p q' a j hj7, hj] at h1
    exact h1
theorem flatN_one (l : List Nd) (u : Value) (h : u ∈ flatN l) : u.oneCell' = true := by
  unfold flatN at h
  obtain ⟨a, _, h⟩ := List.mem_flatMap.1 h
  simp [Nd.enc] at h
  rcases h with rfl | rfl | rfl | rfl | rfl | rfl | rfl <;> rfl
theorem flatN_get {l : List Nd} {j : Nat} {u : Value} (h : (flatN l)[j]? = some u) : ∃ P a Q i, l = P ++ a :: Q ∧ i < 7 ∧ j = P.length * 7 + i ∧ a.enc[i]? = some u := by
  have hj := (List.getElem?_eq_some_iff.1 h).1
  rw [flatN_len] at hj
  obtain ⟨P, a, Q, e, hP, _⟩ := cut_at l (j / 7) (by omega)
  refine ⟨P, a, Q, j % 7, e, by omega, by rw [hP]; omega, ?_⟩
  rw [← flatN_at P Q a (j % 7) (by omega), ← e, hP, ← h]
  congr 1
  omega

/-- append of as many nodes as another slice has -/
theorem appL {P : Program} {ops : Array Oper} {Q : Exit → Act → World → Prop} {a : Act} {w : World} {rest : List Oper} {o : Oper} (hgd : o.guard = none) (s x : Operand) (t e : TypeId)
    (ho : o.op = .call { callee := .builtin .append, args := #[s, x], argTypes := #[t, t] }) (z : Value)
    (ht : P.underlying t = some (.slice e)) (hinfo : (P.info? e).map (fun i => (i.zero, i.size, i.bytes)) = some (some z, 7, 48)) (hz : z.cells.size = 7)
    (B : Nat) (v : Value) (n : Nat) (vs : List Value) (hs : a.eval s = v) (hown : w.ownsRow B e 7 v n vs) (A : Option Addr) (c : Nat) (L : List Nd) (hx : a.eval x = .slice A L.length c) (hsrc : Rws w A 7 (L.map Nd.enc))
    (hn : n + L.length ≤ 1000000) (hB : B ≤ w.heap.size)
    (h : ∀ A' c' w', w'.ownsRow B e 7 (.slice A' (n + L.length) c') (n + L.length) (vs ++ flatN L) → Ch (fun k => v.ownBlock = some k) w w' → wpList P ops Q rest (a.put o.dst (.slice A' (n + L.length) c')) w') :
    wpList P ops Q (o :: rest) a w := by
  obtain ⟨i0, hi, h0, h1', h2⟩ := info_parts hinfo
  cases A with
  | none =>
    have hnil : L = [] := by
      cases L with
      | nil => rfl
      | cons u us =>
        obtain ⟨_, b, off, h, _⟩ := hsrc [] u.enc (us.map Nd.enc) rfl
        cases h
    subst hnil
    obtain ⟨A', c', rfl⟩ := row_shape hown
    refine wpList_plain hgd fun K hK => ?_
    unfold Oper.wp execOp
    have hr := run_append_none (P := P) (w := w) B t o.type e i0 7 ht hi (.slice A' n c') n c vs hown
    rw [List.length_nil] at hx
    simp only [ho, resolve, invoke, builtin, Sem.run_bind, Sem.run_pure, Result.andThen_ok, List.map_toArray, List.map_cons, List.map_nil, hs, hx, hr]
    exact hK _ _ (h A' c' w (by simpa [flatN] using hown) (Ch.refl _ _))
  | some ad =>
    refine wpList_append_own_at _ hgd s x t ho B e i0 z 7 48 ht hi h0 h1' h2 hz (by decide) v n vs hs hown ad L.length c (flatN L) hx (flatN_len L) ?_ (flatN_one L) (by simp [maxLen]; omega) (by omega) hB ?_
    · intro j u hj
      obtain ⟨P, a, Q, i, e, hi7, hj', ha⟩ := flatN_get hj
      obtain ⟨_, b, off, hA, hc⟩ := hsrc (P.map Nd.enc) a.enc (Q.map Nd.enc) (by rw [e]; simp)
      cases hA
      have h1 := hc i u ha
      rw [List.length_map, Nat.add_assoc, ← hj'] at h1
      unfold Addr.add
      split
      · rename_i hz
        subst hz
        simpa using h1
      · exact h1
    · intro v' w' h1 h2 _ _
      obtain ⟨A', c', rfl⟩ := row_shape h1
      exact h A' c' w' h1 (Ch.grown (S := fun k => v.ownBlock = some k) (Ch.refl _ w) h2 (fun k hk _ => hk))

set_option maxHeartbeats 1000000 in
theorem RHas_any (w : World) (A : Option Addr) (c : Nat) (L : List Nd) (lim i : Int) (hi : -2147483648 ≤ i ∧ i ≤ 2147483647) (hl : L.length ≤ 1000) :
    Calls Try.prog 19 #[.agg #[.slice A L.length c, .int .i64 lim], .int .i32 i] w fun e w' => e = .returned (.bool (decide (inA L i))) ∧ Ch No w w' := by
  obtain ⟨hi1, hi2⟩ := hi
  obtain ⟨n, hn⟩ : ∃ n, L.length = n := ⟨_, rfl⟩
  have HD : Hid (∀ b : Bool, (b = true ↔ (1 ≤ i ∧ i ≤ n)) → b = decide (inA L i)) := Lib.hid (by
    intro b hb
    rw [Bool.eq_iff_iff, hb]
    unfold inA
    simp [hn])
  have hl' := hl
  rw [hn] at hl' ⊢
  by_cases h1 : i < 1
  · go_enter Try.func19, Try.ntmps19
    go_wp2_with fail
    go_ret
    exact ⟨ret_bool (HD.out _ (by simp; omega)), (Ch.refl No w).alloc _⟩
  by_cases h2 : (n : Int) < i
  · go_enter Try.func19, Try.ntmps19
    go_wp2_with fail
    go_ret
    exact ⟨ret_bool (HD.out _ (by simp; omega)), (Ch.refl No w).alloc _⟩
  · go_enter Try.func19, Try.ntmps19
    go_wp2_with fail
    go_ret
    exact ⟨ret_bool (HD.out _ (by simp; omega)), (Ch.refl No w).alloc _⟩

set_option maxHeartbeats 1000000 in
theorem RAlloc_full (w : World) (A : Option Addr) (c : Nat) (L : List Nd) (lim : Int) (hl : (L.length : Int) = lim) :
    Calls Try.prog 15 #[.agg #[.slice A L.length c, .int .i64 lim]] w fun e w' => e = .returned (.tuple #[.agg #[.slice A L.length c, .int .i64 lim], .int .i32 0, .int .i64 6]) ∧ Ch No w w' := by
  subst hl
  go_enter Try.func15, Try.ntmps15
  go_wp2_with fail
  exact bodyPost_ret (v := .tuple #[.agg #[.slice A L.length c, .int .i64 L.length], .int .i32 0, .int .i64 6]) (by simp [results, Try.results15, go_sem]) rfl ⟨rfl, ((Ch.refl No w).alloc _).alloc _⟩

set_option maxHeartbeats 2000000 in
theorem RAlloc_ok (w : World) (A : Option Addr) (c : Nat) (L : List Nd) (h : Rws w A 7 (L.map Nd.enc)) (lim : Int) (hl : (L.length : Int) < lim) (hm : L.length ≤ 1000) :
    Calls Try.prog 15 #[.agg #[.slice A L.length c, .int .i64 lim]] w fun e w' => ∃ A' c', e = .returned (.tuple #[.agg #[.slice A' (L.length + 1) c', .int .i64 lim], .int .i32 (L.length + 1), .int .i64 0]) ∧ Rws w' A' 7 ((L ++ [Nd.zero]).map Nd.enc) ∧ (∀ b off, A' = some ⟨b, off, none⟩ → w.heap.size ≤ b ∧ b < w'.heap.size) ∧ Ch No w w' := by
  have hne : ((L.length : Int) == lim) = false := by simp; omega
  have o2 : (((w.alloc (.cells #[.slice A L.length c, .int .i64 lim] 30)).alloc (.cells #[.slice none 0 0, .int .i64 0] 30)).alloc (.cells #[] 44)).ownsRow (w.heap.size + 1 + 1) 44 7 (.slice (some ⟨w.heap.size + 1 + 1, 0, none⟩) 0 0) 0 [] := by
    have q := World.ownsRow_lit (base := w.heap.size + 1 + 1) (e := 44) (size := 7) ((w.alloc (.cells #[.slice A L.length c, .int .i64 lim] 30)).alloc (.cells #[.slice none 0 0, .int .i64 0] 30)) #[] 0 (by simp) (by simp) rfl
    simpa using q
  have C2 : Ch No w (((w.alloc (.cells #[.slice A L.length c, .int .i64 lim] 30)).alloc (.cells #[.slice none 0 0, .int .i64 0] 30)).alloc (.cells #[] 44)) := (((Ch.refl No w).alloc _).alloc _).alloc _
  have hx2 := h.no C2
  have b1 : Blk (((w.alloc (.cells #[.slice A L.length c, .int .i64 lim] 30)).alloc (.cells #[.slice none 0 0, .int .i64 0] 30)).alloc (.cells #[] 44)) w.heap.size 30 [.slice A L.length c, .int .i64 lim] :=
    (Blk.new w 30 [.slice A L.length c, .int .i64 lim]).ch (S := No) (((Ch.refl No _).alloc _).alloc _) (fun h => h)
  have b2 : Blk (((w.alloc (.cells #[.slice A L.length c, .int .i64 lim] 30)).alloc (.cells #[.slice none 0 0, .int .i64 0] 30)).alloc (.cells #[] 44)) (w.heap.size + 1) 30 [.slice none 0 0, .int .i64 0] := by
    have := (Blk.new (w.alloc (.cells #[.slice A L.length c, .int .i64 lim] 30)) 30 [.slice none 0 0, .int .i64 0]).ch (S := No) ((Ch.refl No _).alloc (.cells #[] 44)) (fun h => h)
    simpa using this
  have HH := Lib.hid (And.intro C2 (And.intro b1 b2))
  clear h C2 b1 b2
  go_enter Try.func15, Try.ntmps15
  go_wp2_with (at_builtin; refine appL rfl _ _ 28 44 rfl Nd.zero.val Try.underlying28 infoRn rfl (w.heap.size + 1 + 1) (.slice (some ⟨w.heap.size + 1 + 1, 0, none⟩) 0 0) 0 [] rfl o2 A c L rfl hx2 (by omega) (by simp) ?_)
  intro A3 c3 w3 o3 h3
  have b13 := HH.out.2.1.ch h3 (fun e => by simp [Value.ownBlock] at e; try omega)
  have b23 := HH.out.2.2.ch h3 (fun e => by simp [Value.ownBlock] at e; try omega)
  have C3 : Ch No w w3 := HH.out.1.trans' h3 (fun i hi e => by simp [Value.ownBlock] at e; omega)
  have hs3 : w.heap.size + 1 + 1 ≤ w3.heap.size := by have := h3.size; simp at this; omega
  have H3 := Lib.hid (And.intro C3 (And.intro b13 b23))
  clear o2 hx2 HH h3 b13 b23 C3
  try simp only [Nat.zero_add, List.nil_append] at o3
  go_wp2_with (at_builtin; refine appR rfl _ _ 28 44 rfl Nd.zero.val 7 48 Try.underlying28 infoRn rfl (by decide) (w.heap.size + 1 + 1) (.slice A3 L.length c3) L.length (flatN L) Nd.zero.enc rfl o3 _ 1 rfl rfl rfl (by simp [Nd.zero, Nd.enc, Value.oneCell']) ?hn ?hb ?hB ?_)
  case hn => simp [maxLen]; omega
  case hb => omega
  case hB => exact hs3
  intro g5 c5 w5 o5 h5 _
  have hk3 : ∀ k, (Value.slice A3 L.length c3).ownBlock = some k → w.heap.size + 1 + 1 ≤ k := fun k hk => (o3.lt k hk).1
  have b15 := H3.out.2.1.ch h5 (fun e => by have := hk3 _ e; omega)
  have b25 := H3.out.2.2.ch h5 (fun e => by have := hk3 _ e; omega)
  have C5 : Ch No w w5 := H3.out.1.trans' h5 (fun i hi e => by have := hk3 _ e; omega)
  have hg5 := o5.lt g5 rfl
  have k0 := b15.cell 0
  have k1 := b15.cell 1
  have f0 := b15.frozen 0
  have f1 := b15.frozen 1
  have e0 := b25.cell 0
  have e1 := b25.cell 1
  have ff0 := b25.frozen 0
  have ff1 := b25.frozen 1
  simp only [List.getElem?_cons_zero, List.getElem?_cons_succ] at k0 k1 e0 e1
  have H5 := Lib.hid (And.intro C5 (And.intro o5 hg5))
  clear o3 H3 h5 hk3 b15 b25 C5 o5 hg5 hs3
  go_wp2_with fail
  go_region
  all_goals (try go_wp2)
  obtain ⟨C5, o5, hg5⟩ := H5.out
  have C6 : Ch (fun i => i = w.heap.size ∨ i = w.heap.size + 1) w5 (((w5.setCell ⟨w.heap.size, 0, none⟩ (.slice (some ⟨g5, 0, none⟩) (L.length + 1) c5)).setCell ⟨w.heap.size + 1, 0, none⟩ (.slice (some ⟨g5, 0, none⟩) (L.length + 1) c5)).setCell ⟨w.heap.size + 1, 1, none⟩ (.int .i64 lim)).drew :=
    ((((Ch.refl _ w5).setCell (p := ⟨w.heap.size, 0, none⟩) (fun _ => .inl rfl) _).setCell (p := ⟨w.heap.size + 1, 0, none⟩) (fun _ => .inr rfl) _).setCell (p := ⟨w.heap.size + 1, 1, none⟩) (fun _ => .inr rfl) _).drew
  have o6 := rowN_ch o5 C6 (fun k hk he => by
    have hk' : g5 = k := by simpa [Value.ownBlock] using hk
    omega)
  refine bodyPost_ret (v := .tuple #[.agg #[.slice (some ⟨g5, 0, none⟩) (L.length + 1) c5, .int .i64 lim], .int .i32 (L.length + 1), .int .i64 0]) (by simp [results, Try.results15, go_sem, e0, e1]) rfl ⟨_, _, rfl, ?_, ?_, C5.trans' C6 (fun i hi he => by omega)⟩
  · exact rowE_rws (xs := L ++ [Nd.zero]) (by rw [flatN_app]; simpa [flatN] using o6) (by simp)
  · intro b off e
    cases e
    have := C6.size
    exact ⟨by omega, by omega⟩

set_option maxHeartbeats 1000000 in
theorem RSet_no (w : World) (A : Option Addr) (c : Nat) (L : List Nd) (lim i : Int) (hi : -2147483648 ≤ i ∧ i ≤ 2147483647) (hl : L.length ≤ 1000) (hn : ¬ inA L i) (b : Nd) :
    Calls Try.prog 17 #[.agg #[.slice A L.length c, .int .i64 lim], .int .i32 i, b.val] w fun e w' => e = .returned (.tuple #[.agg #[.slice A L.length c, .int .i64 lim], .int .i64 4]) ∧ Ch No w w' := by
  have q := fun w' => RHas_any w' A c L lim i hi hl
  rw [decide_eq_false hn] at q
  have HQ := Lib.hid q
  have b1 : Blk (((w.alloc (.cells #[.slice A L.length c, .int .i64 lim] 30)).alloc (.cells b.enc.toArray 44)).alloc (.cells #[.slice none 0 0, .int .i64 0] 30)) w.heap.size 30 [.slice A L.length c, .int .i64 lim] :=
    (Blk.new w 30 [.slice A L.length c, .int .i64 lim]).ch (S := No) (((Ch.refl No _).alloc _).alloc _) (fun h => h)
  have b2 : Blk (((w.alloc (.cells #[.slice A L.length c, .int .i64 lim] 30)).alloc (.cells b.enc.toArray 44)).alloc (.cells #[.slice none 0 0, .int .i64 0] 30)) (w.heap.size + 1) 44 b.enc := by
    have := (Blk.new (w.alloc (.cells #[.slice A L.length c, .int .i64 lim] 30)) 44 b.enc).ch (S := No) ((Ch.refl No _).alloc (.cells #[.slice none 0 0, .int .i64 0] 30)) (fun h => h)
    simpa using this
  have b3 : Blk (((w.alloc (.cells #[.slice A L.length c, .int .i64 lim] 30)).alloc (.cells b.enc.toArray 44)).alloc (.cells #[.slice none 0 0, .int .i64 0] 30)) (w.heap.size + 1 + 1) 30 [.slice none 0 0, .int .i64 0] := by
    have := (Blk.new ((w.alloc (.cells #[.slice A L.length c, .int .i64 lim] 30)).alloc (.cells b.enc.toArray 44)) 30 [.slice none 0 0, .int .i64 0])
    simpa using this
  have C2 : Ch No w (((w.alloc (.cells #[.slice A L.length c, .int .i64 lim] 30)).alloc (.cells b.enc.toArray 44)).alloc (.cells #[.slice none 0 0, .int .i64 0] 30)) := (((Ch.refl No w).alloc _).alloc _).alloc _
  have HB := Lib.hid (And.intro C2 (And.intro b1 (And.intro b2 b3)))
  clear q hn hi C2 b1 b2 b3
  unfold Nd.val
  go_enter Try.func17, Try.ntmps17
  go_wp2_with fail
  refine (HQ.out _).mono ?_
  rintro e w1 ⟨rfl, h1⟩
  have s1 : w.heap.size + 3 ≤ w1.heap.size := by simpa using h1.size
  have C1 := Lib.hid (HB.out.1.trans h1)
  have k0 := (HB.out.2.1.ch h1 (fun h => h)).cell 0
  have k1 := (HB.out.2.1.ch h1 (fun h => h)).cell 1
  have e0 := (HB.out.2.2.2.ch h1 (fun h => h)).cell 0
  have e1 := (HB.out.2.2.2.ch h1 (fun h => h)).cell 1
  have f0 := (HB.out.2.2.2.ch h1 (fun h => h)).frozen 0
  have f1 := (HB.out.2.2.2.ch h1 (fun h => h)).frozen 1
  simp only [List.getElem?_cons_zero, List.getElem?_cons_succ] at k0 k1 e0 e1
  clear HB h1 HQ
  go_wp2_with fail
  refine bodyPost_ret (v := .tuple #[.agg #[.slice A L.length c, .int .i64 lim], .int .i64 4]) (by simp [results, Try.results17, go_sem, e0, e1]) rfl ⟨rfl, ?_⟩
  exact C1.out.trans' (((Ch.refl (Only (w.heap.size + 1 + 1)) w1).setCell (p := ⟨w.heap.size + 1 + 1, 0, none⟩) (fun _ => rfl) _).setCell (p := ⟨w.heap.size + 1 + 1, 1, none⟩) (fun _ => rfl) _) (fun i hi he => by have : i = w.heap.size + 1 + 1 := he; omega)

set_option maxHeartbeats 1000000 in
theorem RSet_ok (w : World) (A : Option Addr) (c : Nat) (L pre post : List Nd) (a : Nd) (hL : L = pre ++ a :: post) (h : Rws w A 7 (L.map Nd.enc)) (lim : Int) (hl : L.length ≤ 1000) (b : Nd) :
    Calls Try.prog 17 #[.agg #[.slice A L.length c, .int .i64 lim], .int .i32 ((pre.length : Nat) + 1), b.val] w fun e w' => ∃ A' c', e = .returned (.tuple #[.agg #[.slice A' L.length c', .int .i64 lim], .int .i64 0]) ∧ Rws w' A' 7 ((pre ++ b :: post).map Nd.enc) ∧ (∀ b off, A' = some ⟨b, off, none⟩ → w.heap.size ≤ b ∧ b < w'.heap.size) ∧ Ch No w w' := by
  have hlen : pre.length < L.length := by rw [hL]; simp
  have q := fun w' => RHas_any w' A c L lim ((pre.length : Nat) + 1) ⟨by omega, by omega⟩ hl
  rw [decide_eq_true (show inA L ((pre.length : Nat) + 1) from ⟨by omega, by omega⟩)] at q
  have HQ := Lib.hid q
  have HL := Lib.hid hL
  have b1 : Blk (((w.alloc (.cells #[.slice A L.length c, .int .i64 lim] 30)).alloc (.cells b.enc.toArray 44)).alloc (.cells #[.slice none 0 0, .int .i64 0] 30)) w.heap.size 30 [.slice A L.length c, .int .i64 lim] :=
    (Blk.new w 30 [.slice A L.length c, .int .i64 lim]).ch (S := No) (((Ch.refl No _).alloc _).alloc _) (fun h => h)
  have b2 : Blk (((w.alloc (.cells #[.slice A L.length c, .int .i64 lim] 30)).alloc (.cells b.enc.toArray 44)).alloc (.cells #[.slice none 0 0, .int .i64 0] 30)) (w.heap.size + 1) 44 b.enc := by
    have := (Blk.new (w.alloc (.cells #[.slice A L.length c, .int .i64 lim] 30)) 44 b.enc).ch (S := No) ((Ch.refl No _).alloc (.cells #[.slice none 0 0, .int .i64 0] 30)) (fun h => h)
    simpa using this
  have b3 : Blk (((w.alloc (.cells #[.slice A L.length c, .int .i64 lim] 30)).alloc (.cells b.enc.toArray 44)).alloc (.cells #[.slice none 0 0, .int .i64 0] 30)) (w.heap.size + 1 + 1) 30 [.slice none 0 0, .int .i64 0] := by
    have := (Blk.new ((w.alloc (.cells #[.slice A L.length c, .int .i64 lim] 30)).alloc (.cells b.enc.toArray 44)) 30 [.slice none 0 0, .int .i64 0])
    simpa using this
  have C2 : Ch No w (((w.alloc (.cells #[.slice A L.length c, .int .i64 lim] 30)).alloc (.cells b.enc.toArray 44)).alloc (.cells #[.slice none 0 0, .int .i64 0] 30)) := (((Ch.refl No w).alloc _).alloc _).alloc _
  have hz2 : ((((w.alloc (.cells #[.slice A L.length c, .int .i64 lim] 30)).alloc (.cells b.enc.toArray 44)).alloc (.cells #[.slice none 0 0, .int .i64 0] 30))).heap.size = w.heap.size + 3 := by simp
  have HB := Lib.hid (And.intro C2 (And.intro b1 (And.intro b2 (And.intro b3 (And.intro h hz2)))))
  clear q hL C2 b1 b2 b3 h hz2
  unfold Nd.val
  go_enter Try.func17, Try.ntmps17
  go_wp2_with fail
  refine (HQ.out _).mono ?_
  rintro e w1 ⟨rfl, h1⟩
  obtain ⟨C2, b1, b2, b3, h, hz2⟩ := HB.out
  have s1 : w.heap.size + 3 ≤ w1.heap.size := by rw [← hz2]; exact h1.size
  have H1 := Lib.hid (And.intro (C2.trans h1) (And.intro (b1.ch h1 (fun h => h)) (And.intro (b2.ch h1 (fun h => h)) (And.intro (b3.ch h1 (fun h => h)) (h.no (C2.trans h1))))))
  clear C2 b1 b2 b3 h hz2 h1 HB HQ
  have k0 := H1.out.2.1.cell 0
  have k1 := H1.out.2.1.cell 1
  simp only [List.getElem?_cons_zero, List.getElem?_cons_succ] at k0 k1
  have o2 : (w1.alloc (.cells #[] 44)).ownsRow w1.heap.size 44 7 (.slice (some ⟨w1.heap.size, 0, none⟩) 0 0) 0 [] := by
    have q := World.ownsRow_lit (base := w1.heap.size) (e := 44) (size := 7) w1 #[] 0 (by simp) (by simp) rfl
    simpa using q
  have hx2 := H1.out.2.2.2.2.no ((Ch.refl No w1).alloc (.cells #[] 44))
  have k0' : (w1.alloc (.cells #[] 44)).cell? ⟨w.heap.size, 0, none⟩ = some (.slice A L.length c) := ((Ch.refl No w1).alloc (.cells #[] 44)).cell k0 (fun h => h)
  go_wp2_with (at_builtin; refine appL rfl _ _ 28 44 rfl Nd.zero.val Try.underlying28 infoRn rfl w1.heap.size (.slice (some ⟨w1.heap.size, 0, none⟩) 0 0) 0 [] rfl o2 A c L rfl hx2 (by omega) (by simp) ?_)
  intro A3 c3 w3 o3 h3
  try simp only [Nat.zero_add, List.nil_append] at o3
  obtain ⟨g3, rfl⟩ : ∃ g3, A3 = some ⟨g3, 0, none⟩ := by
    rcases o3.2 with ⟨h1, h0⟩ | ⟨g, cap, cur, hv, _⟩
    · omega
    · exact ⟨g, (Value.slice.inj hv).1⟩
  have hg3 := o3.lt g3 rfl
  have hgn : ¬ g3 = w.heap.size := by omega
  have hgn2 : ¬ g3 = w.heap.size + 1 := by omega
  have hgn3 : ¬ g3 = w.heap.size + 1 + 1 := by omega
  have C3 : Ch No w w3 := (H1.out.1.alloc (.cells #[] 44)).trans' h3 (fun i hi e => by
    have h1 : w1.heap.size = i := by simpa [Value.ownBlock] using e
    omega)
  have hf : ∀ i, i < w1.heap.size → ¬ (Value.slice (some ⟨w1.heap.size, 0, none⟩) 0 0).ownBlock = some i := fun i hi e => by
    have : w1.heap.size = i := by simpa [Value.ownBlock] using e
    omega
  have b13 := (H1.out.2.1.ch ((Ch.refl No w1).alloc (.cells #[] 44)) (fun h => h)).ch h3 (hf _ (by omega))
  have b23 := (H1.out.2.2.1.ch ((Ch.refl No w1).alloc (.cells #[] 44)) (fun h => h)).ch h3 (hf _ (by omega))
  have b33 := (H1.out.2.2.2.1.ch ((Ch.refl No w1).alloc (.cells #[] 44)) (fun h => h)).ch h3 (hf _ (by omega))
  have x0 := b13.cell 0
  have x1 := b13.cell 1
  have xf := b13.frozen 0
  simp only [List.getElem?_cons_zero, List.getElem?_cons_succ] at x0 x1
  have C4 : Ch (Only w.heap.size) w3 (w3.setCell ⟨w.heap.size, 0, none⟩ (.slice (some ⟨g3, 0, none⟩) L.length c3)) := (Ch.refl (Only w.heap.size) w3).setCell (p := ⟨w.heap.size, 0, none⟩) (fun _ => rfl) _
  have o4 := rowN_ch o3 C4 (fun k hk he => by
    have h1 : g3 = k := by simpa [Value.ownBlock] using hk
    have h2 : k = w.heap.size := he
    omega)
  have b14 := b13.set 0 (.slice (some ⟨g3, 0, none⟩) L.length c3)
  have b24 := b23.ch C4 (fun he => by have h2 : w.heap.size + 1 = w.heap.size := he; omega)
  have b34 := b33.ch C4 (fun he => by have h2 : w.heap.size + 1 + 1 = w.heap.size := he; omega)
  have cc : ∀ j, j < 7 → (w3.setCell ⟨w.heap.size, 0, none⟩ (.slice (some ⟨g3, 0, none⟩) L.length c3)).cell? ⟨g3, pre.length * 7 + j, none⟩ = a.enc[j]? := fun j hj => by
    have h1 := o4.cellAt (pre.length * 7 + j) (by rw [HL.out, List.length_append, List.length_cons]; omega)
    have e2 : flatN L = flatN (pre ++ a :: post) := by rw [HL.out]
    rw [e2, flatN_at pre post a j hj] at h1
    exact h1
  have k0 := cc 0 (by omega)
  have k1 := cc 1 (by omega)
  have k2 := cc 2 (by omega)
  have k3 := cc 3 (by omega)
  have k4 := cc 4 (by omega)
  have k5 := cc 5 (by omega)
  have k6 := cc 6 (by omega)
  have f0 := o4.frozenAt (pre.length * 7)
  have f1 := o4.frozenAt (pre.length * 7 + 1)
  have f2 := o4.frozenAt (pre.length * 7 + 2)
  have f3 := o4.frozenAt (pre.length * 7 + 3)
  have f4 := o4.frozenAt (pre.length * 7 + 4)
  have f5 := o4.frozenAt (pre.length * 7 + 5)
  have f6 := o4.frozenAt (pre.length * 7 + 6)
  have y0 := b24.cell 0
  have y1 := b24.cell 1
  have y2 := b24.cell 2
  have y3 := b24.cell 3
  have y4 := b24.cell 4
  have y5 := b24.cell 5
  have y6 := b24.cell 6
  simp only [Nd.enc, List.getElem?_cons_zero, List.getElem?_cons_succ, Nat.add_zero] at k0 k1 k2 k3 k4 k5 k6 y0 y1 y2 y3 y4 y5 y6
  have H4 := Lib.hid (And.intro C3 (And.intro C4 (And.intro b14 (And.intro b34 o4))))
  clear C3 C4 b13 b23 b33 b14 b24 b34 cc o3 o4 hx2 k0' H1 h3 hf o2
  go_upto_region 4 with fail
  generalize w3.setCell ⟨w.heap.size, 0, none⟩ (.slice (some ⟨g3, 0, none⟩) L.length c3) = w4 at *
  have z0 := H4.out.2.2.1.cell 0
  have z1 := H4.out.2.2.1.cell 1
  simp only [List.set_cons_zero, List.getElem?_cons_zero, List.getElem?_cons_succ] at z0 z1
  clear x0 x1 xf hgn2
  go_upto_region 5 with fail
  obtain ⟨C3, C4, b14, b34, o4⟩ := H4.out
  have C5 : Ch (Only g3) w4 (((((((w4.setCell ⟨g3, pre.length * 7, none⟩ (.int .i32 b.l)).setCell ⟨g3, pre.length * 7 + 1, none⟩ (.int .i32 b.r)).setCell ⟨g3, pre.length * 7 + 2, none⟩ (.int .i64 b.c)).setCell ⟨g3, pre.length * 7 + 3, none⟩ (.int .i64 b.s)).setCell ⟨g3, pre.length * 7 + 4, none⟩ (.int .i64 b.mn)).setCell ⟨g3, pre.length * 7 + 5, none⟩ (.int .i64 b.mx)).setCell ⟨g3, pre.length * 7 + 6, none⟩ (.bool b.k)) := ((((((((Ch.refl (Only g3) w4).setCell (p := ⟨g3, pre.length * 7, none⟩) (fun _ => rfl) _).setCell (p := ⟨g3, pre.length * 7 + 1, none⟩) (fun _ => rfl) _).setCell (p := ⟨g3, pre.length * 7 + 2, none⟩) (fun _ => rfl) _).setCell (p := ⟨g3, pre.length * 7 + 3, none⟩) (fun _ => rfl) _).setCell (p := ⟨g3, pre.length * 7 + 4, none⟩) (fun _ => rfl) _).setCell (p := ⟨g3, pre.length * 7 + 5, none⟩) (fun _ => rfl) _).setCell (p := ⟨g3, pre.length * 7 + 6, none⟩) (fun _ => rfl) _)
  have o5 : ((((((((w4.setCell ⟨g3, pre.length * 7, none⟩ (.int .i32 b.l)).setCell ⟨g3, pre.length * 7 + 1, none⟩ (.int .i32 b.r)).setCell ⟨g3, pre.length * 7 + 2, none⟩ (.int .i64 b.c)).setCell ⟨g3, pre.length * 7 + 3, none⟩ (.int .i64 b.s)).setCell ⟨g3, pre.length * 7 + 4, none⟩ (.int .i64 b.mn)).setCell ⟨g3, pre.length * 7 + 5, none⟩ (.int .i64 b.mx)).setCell ⟨g3, pre.length * 7 + 6, none⟩ (.bool b.k))).ownsRow w1.heap.size 44 7 (.slice (some ⟨g3, 0, none⟩) L.length c3) L.length (flatN (pre ++ b :: post)) := by
    have e2 : flatN L = flatN (pre ++ a :: post) := by rw [HL.out]
    rw [e2] at o4
    have q := (World.ownsRow.stored ((World.ownsRow.stored ((World.ownsRow.stored ((World.ownsRow.stored ((World.ownsRow.stored ((World.ownsRow.stored ((World.ownsRow.stored o4 (pre.length * 7) (.int .i32 b.l)).1) (pre.length * 7 + 1) (.int .i32 b.r)).1) (pre.length * 7 + 2) (.int .i64 b.c)).1) (pre.length * 7 + 3) (.int .i64 b.s)).1) (pre.length * 7 + 4) (.int .i64 b.mn)).1) (pre.length * 7 + 5) (.int .i64 b.mx)).1) (pre.length * 7 + 6) (.bool b.k)).1
    rw [flatN_set7] at q
    exact q
  have b15 := b14.ch C5 (fun he => hgn he.symm)
  have b35 := b34.ch C5 (fun he => hgn3 he.symm)
  have hg5 := o5.lt g3 rfl
  have hg1 := hgn
  have hg2 := hgn3
  clear z0 z1 y0 y1 y2 y3 y4 y5 y6 k0 k1 k2 k3 k4 k5 k6 f0 f1 f2 f3 f4 f5 f6 H4
  generalize (((((((w4.setCell ⟨g3, pre.length * 7, none⟩ (.int .i32 b.l)).setCell ⟨g3, pre.length * 7 + 1, none⟩ (.int .i32 b.r)).setCell ⟨g3, pre.length * 7 + 2, none⟩ (.int .i64 b.c)).setCell ⟨g3, pre.length * 7 + 3, none⟩ (.int .i64 b.s)).setCell ⟨g3, pre.length * 7 + 4, none⟩ (.int .i64 b.mn)).setCell ⟨g3, pre.length * 7 + 5, none⟩ (.int .i64 b.mx)).setCell ⟨g3, pre.length * 7 + 6, none⟩ (.bool b.k)) = w5 at *
  have z0 := b15.cell 0
  have z1 := b15.cell 1
  have e0 := b35.cell 0
  have e1 := b35.cell 1
  have f0 := b35.frozen 0
  have f1 := b35.frozen 1
  simp only [List.set_cons_zero, List.getElem?_cons_zero, List.getElem?_cons_succ] at z0 z1 e0 e1
  have H5 := Lib.hid (And.intro (C3.trans' C4 (fun i hi he => by have h1 : i = w.heap.size := he; omega)) (And.intro C5 (And.intro o5 hg5)))
  clear C3 C4 b14 b34 o4 C5 o5 b15 b35 hg5
  go_wp2_with fail
  obtain ⟨C3, C5, o5, hg5⟩ := H5.out
  have C6 : Ch (Only (w.heap.size + 1 + 1)) w5 ((w5.setCell ⟨w.heap.size + 1 + 1, 0, none⟩ (.slice (some ⟨g3, 0, none⟩) L.length c3)).setCell ⟨w.heap.size + 1 + 1, 1, none⟩ (.int .i64 lim)) :=
    ((Ch.refl (Only (w.heap.size + 1 + 1)) w5).setCell (p := ⟨w.heap.size + 1 + 1, 0, none⟩) (fun _ => rfl) _).setCell (p := ⟨w.heap.size + 1 + 1, 1, none⟩) (fun _ => rfl) _
  have o6 := rowN_ch o5 C6 (fun k hk he => by
    have hk' : g3 = k := by simpa [Value.ownBlock] using hk
    have hk2 : k = w.heap.size + 1 + 1 := he
    omega)
  refine bodyPost_ret (v := .tuple #[.agg #[.slice (some ⟨g3, 0, none⟩) L.length c3, .int .i64 lim], .int .i64 0]) (by simp [results, Try.results17, go_sem, e0, e1]) rfl ⟨_, _, rfl, ?_, ?_, (C3.trans' C5 (fun i hi he => ?_)).trans' C6 (fun i hi he => ?_)⟩
  · exact rowE_rws (xs := pre ++ b :: post) o6 (by rw [HL.out]; simp)
  · intro b off e
    cases e
    have := C6.size
    exact ⟨by omega, by omega⟩
  · have h1 : i = g3 := he
    omega
  · have h1 : i = w.heap.size + 1 + 1 := he
    omega
end Go.Proofs.Ytjphocpnmhheeaa
