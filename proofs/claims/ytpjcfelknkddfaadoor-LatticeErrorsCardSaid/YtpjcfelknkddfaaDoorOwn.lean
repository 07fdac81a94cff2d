/- Slices that a call has made itself: appended to, read, kept. No program in sight. -/
import Derived.Test.YtpjcfelknkddfaaDoorMem
import Derived.Maps.AppendAt
namespace Go.Proofs.YtpjcfelknkddfaaDoor
open Go.RowKit

/-- v is a slice of the call's own (its array at or beyond block B, not frozen), one cell an element: it holds vs -/
def OwnS (w : World) (B : Nat) (e : TypeId) (v : Value) (vs : List Value) : Prop := w.ownsRow B e 1 v vs.length vs

theorem OwnS.nil (w : World) (B : Nat) (e : TypeId) : OwnS w B e (.slice none 0 0) [] := World.ownsRow_nil w B e 1
theorem OwnS.lit (w : World) (B : Nat) (e : TypeId) (vs : List Value) (hB : B ≤ w.heap.size) (hm : vs.length ≤ maxLen) :
    OwnS (w.alloc (.cells vs.toArray e)) B e (.slice (some ⟨w.heap.size, 0, none⟩) vs.length vs.length) vs :=
  ⟨by simp, .inr ⟨w.heap.size, vs.length, vs.toArray, rfl, hB, heap_alloc_new w _, Nat.le_refl _, hm, by simp, by simp⟩⟩
theorem OwnS.ge {w : World} {B : Nat} {e : TypeId} {v : Value} {vs : List Value} (h : OwnS w B e v vs) : ∀ k, v.ownBlock = some k → B ≤ k ∧ k < w.heap.size := World.ownsRow.lt h
theorem OwnS.ch {S : Nat → Prop} {w w' : World} {B : Nat} {e : TypeId} {v : Value} {vs : List Value} (h : OwnS w B e v vs) (hw : Ch S w w') (hn : ∀ k, v.ownBlock = some k → ¬ S k) : OwnS w' B e v vs := by
  refine ⟨h.1, ?_⟩
  rcases h.2 with hnil | ⟨g, cap, cur, rfl, hb, hgg, rest⟩
  · exact .inl hnil
  · refine .inr ⟨g, cap, cur, rfl, hb, ?_, rest⟩
    exact hw.at hgg (hn g rfl)
theorem OwnS.frozen {w : World} {B g n c : Nat} {e : TypeId} {vs : List Value} (h : OwnS w B e (.slice (some ⟨g, 0, none⟩) n c) vs) (i : Nat) : w.frozen? ⟨g, i, none⟩ = false := by
  rcases h.2 with ⟨h1, _⟩ | ⟨g', cap, cur, h1, _, hg, _⟩
  · cases h1
  · cases h1
    simp [World.frozen?, hg]
theorem OwnS.alloc {w : World} {B : Nat} {e : TypeId} {v : Value} {vs : List Value} (h : OwnS w B e v vs) (o : Obj) : OwnS (w.alloc o) B e v vs := World.ownsRow.alloc h o
theorem OwnS.drewN {w : World} {B : Nat} {e : TypeId} {v : Value} {vs : List Value} (h : OwnS w B e v vs) (k : Nat) : OwnS (w.drewN k) B e v vs := h
theorem OwnS.lower {w : World} {B C : Nat} {e : TypeId} {v : Value} {vs : List Value} (h : OwnS w B e v vs) (hC : C ≤ B) : OwnS w C e v vs := by
  refine ⟨h.1, ?_⟩
  rcases h.2 with hnil | ⟨g, cap, cur, rfl, hb, rest⟩
  · exact .inl hnil
  · exact .inr ⟨g, cap, cur, rfl, Nat.le_trans hC hb, rest⟩
/-- its shape, and how it reads -/
theorem OwnS.slice {w : World} {B : Nat} {e : TypeId} {v : Value} {vs : List Value} (h : OwnS w B e v vs) : ∃ A c, v = .slice A vs.length c ∧ Cls w A vs ∧ vs.length ≤ c := by
  rcases h.2 with ⟨rfl, h0⟩ | ⟨g, cap, cur, rfl, hb, hgg, hn, hm, hs, ht⟩
  · have : vs = [] := List.eq_nil_of_length_eq_zero h0
    subst this
    exact ⟨none, 0, rfl, Cls.nil _ _, Nat.le_refl _⟩
  · refine ⟨_, cap, rfl, ?_, hn⟩
    intro pre v post e
    refine ⟨g, 0, rfl, ?_⟩
    rw [cell_of_row w g (0 + pre.length) cur _ (0, 0) hgg]
    have h1 : vs[pre.length]? = some v := by rw [e]; simp
    rw [← ht, List.getElem?_take] at h1
    split at h1
    · simpa using h1
    · cases h1
theorem OwnS.slice_ints {w : World} {B : Nat} {e : TypeId} {v : Value} {k : IntKind} {xs : List Int} (h : OwnS w B e v (ints k xs)) : ∃ A c, v = .slice A xs.length c ∧ Cls w A (ints k xs) ∧ xs.length ≤ c := by
  obtain ⟨A, c, rfl, h1, h2⟩ := h.slice
  exact ⟨A, c, by simp, h1, by simpa using h2⟩
/-- an operation whose guard stands open goes as one without -/
theorem wpList_unguard {P : Program} {ops : Array Oper} {Q : Exit → Act → World → Prop} {a : Act} {w : World} {rest : List Oper} {o : Oper} (hw : Region.wanted o (yielded ops a.tmps) = true) (h : wpList P ops Q ({ o with guard := none } :: rest) a w) : wpList P ops Q (o :: rest) a w := by
  unfold wpList at *
  rw [if_pos hw]
  rw [if_pos (by simp [Region.wanted])] at h
  exact h
/-- append of one element -/
theorem app1 {P : Program} {ops : Array Oper} {Q : Exit → Act → World → Prop} {a : Act} {w : World} {rest : List Oper} {o : Oper} (hgd : o.guard = none) (s x : Operand) (t e : TypeId)
    (ho : o.op = .call { callee := .builtin .append, args := #[s, x], argTypes := #[t, t] }) (z : Value) (bytes : Nat)
    (ht : P.underlying t = some (.slice e)) (hinfo : (P.info? e).map (fun i => (i.zero, i.size, i.bytes)) = some (some z, 1, bytes)) (hz : z.cells.size = 1)
    (B : Nat) (v : Value) (vs : List Value) (u : Value) (hs : a.eval s = v) (hown : OwnS w B e v vs) (g c : Nat) (hx : a.eval x = .slice (some ⟨g, 0, none⟩) 1 c) (hg : w.cell? ⟨g, 0, none⟩ = some u) (hu : u.oneCell' = true)
    (hn : vs.length + 1 ≤ maxLen) (hb : (vs.length + 1) * bytes ≤ 140737488355328) (hB : B ≤ w.heap.size)
    (h : ∀ g' c' w', OwnS w' B e (.slice (some ⟨g', 0, none⟩) (vs.length + 1) c') (vs ++ [u]) → Ch (fun k => v.ownBlock = some k) w w' → (v.ownBlock = some g' ∨ w.heap.size ≤ g') → wpList P ops Q rest (a.put o.dst (.slice (some ⟨g', 0, none⟩) (vs.length + 1) c')) w') :
    wpList P ops Q (o :: rest) a w := by
  obtain ⟨i0, hi, h0, h1, h2⟩ := info_parts hinfo
  refine wpList_append_own_at _ hgd s x t ho B e i0 z 1 bytes ht hi h0 h1 h2 hz (by decide) v vs.length vs hs hown ⟨g, 0, none⟩ 1 c [u] hx (by simp)
    (by
      intro j u' hj
      cases j with
      | zero => simp at hj; subst hj; simpa [Addr.add] using hg
      | succ j => simp at hj)
    (by simpa using hu) hn hb hB ?_
  intro v' w' hown' hgr _ hat
  rcases hown'.2 with ⟨_, hz0⟩ | ⟨g', cap, cur, rfl, hb', hgg, hnc, hm, hsz, htk⟩
  · omega
  · refine h g' cap w' (by simpa [OwnS] using hown') (Ch.grown (S := fun k => v.ownBlock = some k) (Ch.refl _ w) hgr (fun k hk _ => hk)) ?_
    rcases hat with hat | hat
    · exact .inl (by rw [← hat]; rfl)
    · have e : g' = w.heap.size := by simpa [Value.ownBlock] using hat
      exact .inr (by omega)

/-- append of one element that has just been laid -/
theorem app1n {P : Program} {ops : Array Oper} {Q : Exit → Act → World → Prop} {a : Act} {w : World} {rest : List Oper} {o : Oper} (hgd : o.guard = none) (s x : Operand) (t e : TypeId)
    (ho : o.op = .call { callee := .builtin .append, args := #[s, x], argTypes := #[t, t] }) (z : Value) (bytes : Nat)
    (ht : P.underlying t = some (.slice e)) (hinfo : (P.info? e).map (fun i => (i.zero, i.size, i.bytes)) = some (some z, 1, bytes)) (hz : z.cells.size = 1)
    (B : Nat) (v : Value) (vs : List Value) (u : Value) (hs : a.eval s = v) (hown : OwnS w B e v vs) (c : Nat) (hx : a.eval x = .slice (some ⟨w.heap.size, 0, none⟩) 1 c) (hu : u.oneCell' = true)
    (hn : vs.length + 1 ≤ maxLen) (hb : (vs.length + 1) * bytes ≤ 140737488355328) (hB : B ≤ w.heap.size)
    (h : ∀ g' c' w', OwnS w' B e (.slice (some ⟨g', 0, none⟩) (vs.length + 1) c') (vs ++ [u]) → Ch (fun k => v.ownBlock = some k) w w' → (v.ownBlock = some g' ∨ w.heap.size ≤ g') → wpList P ops Q rest (a.put o.dst (.slice (some ⟨g', 0, none⟩) (vs.length + 1) c')) w') :
    wpList P ops Q (o :: rest) a (w.alloc (.cells #[u] e)) := by
  refine app1 hgd s x t e ho z bytes ht hinfo hz B v vs u hs (hown.alloc _) w.heap.size c hx ((Blk.new w e [u]).cell 0) hu hn hb (by simp; omega) ?_
  intro g' c' w' h1 h2 h3
  refine h g' c' w' h1 (((Ch.refl _ w).alloc _).trans h2) (h3.imp id fun h => ?_)
  have h' : w.heap.size + 1 ≤ g' := by simpa using h
  omega
/-- .. of whole numbers -/
theorem app1i {P : Program} {ops : Array Oper} {Q : Exit → Act → World → Prop} {a : Act} {w : World} {rest : List Oper} {o : Oper} (hgd : o.guard = none) (s x : Operand) (t e : TypeId)
    (ho : o.op = .call { callee := .builtin .append, args := #[s, x], argTypes := #[t, t] }) (k : IntKind) (z : Int) (bytes : Nat)
    (ht : P.underlying t = some (.slice e)) (hinfo : (P.info? e).map (fun i => (i.zero, i.size, i.bytes)) = some (some (.int k z), 1, bytes))
    (B : Nat) (A0 : Option Addr) (c0 : Nat) (ys : List Int) (y : Int) (hs : a.eval s = .slice A0 ys.length c0) (hown : OwnS w B e (.slice A0 ys.length c0) (ints k ys)) (c : Nat) (hx : a.eval x = .slice (some ⟨w.heap.size, 0, none⟩) 1 c)
    (hn : ys.length + 1 ≤ maxLen) (hb : (ys.length + 1) * bytes ≤ 140737488355328) (hB : B ≤ w.heap.size)
    (h : ∀ g' c' w', OwnS w' B e (.slice (some ⟨g', 0, none⟩) (ys ++ [y]).length c') (ints k (ys ++ [y])) → Ch (fun i => (Value.slice A0 ys.length c0).ownBlock = some i) w w' → ((Value.slice A0 ys.length c0).ownBlock = some g' ∨ w.heap.size ≤ g') →
      wpList P ops Q rest (a.put o.dst (.slice (some ⟨g', 0, none⟩) (ys.length + 1) c')) w') :
    wpList P ops Q (o :: rest) a (w.alloc (.cells #[.int k y] e)) := by
  refine app1n hgd s x t e ho (.int k z) bytes ht hinfo rfl B (.slice A0 ys.length c0) (ints k ys) (.int k y) hs hown c hx rfl (by simpa using hn) (by simpa using hb) hB ?_
  intro g' c' w' h1 h2 h3
  have := h g' c' w' (by simpa [ints] using h1) h2 h3
  simpa using this

/-- .. whose address is spelled otherwise -/
theorem app1ng {P : Program} {ops : Array Oper} {Q : Exit → Act → World → Prop} {a : Act} {w : World} {rest : List Oper} {o : Oper} (hgd : o.guard = none) (s x : Operand) (t e : TypeId)
    (ho : o.op = .call { callee := .builtin .append, args := #[s, x], argTypes := #[t, t] }) (z : Value) (bytes : Nat)
    (ht : P.underlying t = some (.slice e)) (hinfo : (P.info? e).map (fun i => (i.zero, i.size, i.bytes)) = some (some z, 1, bytes)) (hz : z.cells.size = 1)
    (B : Nat) (v : Value) (vs : List Value) (u : Value) (hs : a.eval s = v) (hown : OwnS w B e v vs) (g c : Nat) (hx : a.eval x = .slice (some ⟨g, 0, none⟩) 1 c) (hg : g = w.heap.size) (hu : u.oneCell' = true)
    (hn : vs.length + 1 ≤ maxLen) (hb : (vs.length + 1) * bytes ≤ 140737488355328) (hB : B ≤ w.heap.size)
    (h : ∀ g' c' w', OwnS w' B e (.slice (some ⟨g', 0, none⟩) (vs.length + 1) c') (vs ++ [u]) → Ch (fun k => v.ownBlock = some k) w w' → (v.ownBlock = some g' ∨ w.heap.size ≤ g') → wpList P ops Q rest (a.put o.dst (.slice (some ⟨g', 0, none⟩) (vs.length + 1) c')) w') :
    wpList P ops Q (o :: rest) a (w.alloc (.cells #[u] e)) := by
  subst hg
  exact app1n hgd s x t e ho z bytes ht hinfo hz B v vs u hs hown c hx hu hn hb hB h
/-- .. whose address is spelled otherwise -/
theorem app1ig {P : Program} {ops : Array Oper} {Q : Exit → Act → World → Prop} {a : Act} {w : World} {rest : List Oper} {o : Oper} (hgd : o.guard = none) (s x : Operand) (t e : TypeId)
    (ho : o.op = .call { callee := .builtin .append, args := #[s, x], argTypes := #[t, t] }) (k : IntKind) (z : Int) (bytes : Nat)
    (ht : P.underlying t = some (.slice e)) (hinfo : (P.info? e).map (fun i => (i.zero, i.size, i.bytes)) = some (some (.int k z), 1, bytes))
    (B : Nat) (A0 : Option Addr) (c0 : Nat) (ys : List Int) (y : Int) (hs : a.eval s = .slice A0 ys.length c0) (hown : OwnS w B e (.slice A0 ys.length c0) (ints k ys)) (g c : Nat) (hx : a.eval x = .slice (some ⟨g, 0, none⟩) 1 c) (hg : g = w.heap.size)
    (hn : ys.length + 1 ≤ maxLen) (hb : (ys.length + 1) * bytes ≤ 140737488355328) (hB : B ≤ w.heap.size)
    (h : ∀ g' c' w', OwnS w' B e (.slice (some ⟨g', 0, none⟩) (ys ++ [y]).length c') (ints k (ys ++ [y])) → Ch (fun i => (Value.slice A0 ys.length c0).ownBlock = some i) w w' → ((Value.slice A0 ys.length c0).ownBlock = some g' ∨ w.heap.size ≤ g') →
      wpList P ops Q rest (a.put o.dst (.slice (some ⟨g', 0, none⟩) (ys.length + 1) c')) w') :
    wpList P ops Q (o :: rest) a (w.alloc (.cells #[.int k y] e)) := by
  subst hg
  exact app1i hgd s x t e ho k z bytes ht hinfo B A0 c0 ys y hs hown c hx hn hb hB h

theorem run_append_none {P : Program} {w : World} (base : Nat) (t ty e : TypeId) (i : TypeInfo) (size : Nat) (ht : P.underlying t = some (.slice e)) (hi : P.info? e = some i)
    (v : Value) (n c : Nat) (xs : List Value) (hown : w.ownsRow base e size v n xs) :
    (Builtin.append_ #[t, t] ty #[v, .slice none 0 c]).run P w = .ok v w := by
  rcases hown.2 with ⟨rfl, rfl⟩ | ⟨g, cap, cur, rfl, _, _, hnc, _⟩
  · simp [Builtin.append_, run_underlying ht, sizeOf, typeInfo, hi, Builtin.lenOf, Builtin.firstCells]
  · simp [Builtin.append_, run_underlying ht, sizeOf, typeInfo, hi, Builtin.lenOf, Builtin.firstCells, hnc, storeCells]
/-- append of as many elements as another slice has -/
theorem run_appN {P : Program} {w : World} (t ty e : TypeId) (z : Value) (bytes : Nat)
    (ht : P.underlying t = some (.slice e)) (hinfo : (P.info? e).map (fun i => (i.zero, i.size, i.bytes)) = some (some z, 1, bytes)) (hz : z.cells.size = 1)
    (B : Nat) (v : Value) (vs : List Value) (hown : OwnS w B e v vs) (A : Option Addr) (c : Nat) (news : List Value) (hsrc : Cls w A news) (h1 : ∀ u ∈ news, u.oneCell' = true)
    (hn : vs.length + news.length ≤ maxLen) (hb : (vs.length + news.length) * bytes ≤ 140737488355328) (hB : B ≤ w.heap.size) :
    ∃ A' c' w', (Builtin.append_ #[t, t] ty #[v, .slice A news.length c]).run P w = .ok (.slice A' (vs.length + news.length) c') w' ∧ OwnS w' B e (.slice A' (vs.length + news.length) c') (vs ++ news) ∧
      Ch (fun k => v.ownBlock = some k) w w' ∧ (∀ k, (Value.slice A' (vs.length + news.length) c').ownBlock = some k → v.ownBlock = some k ∨ w.heap.size ≤ k) := by
  obtain ⟨i0, hi, h0, h1', h2⟩ := info_parts hinfo
  cases A with
  | none =>
    have hnil : news = [] := by
      cases news with
      | nil => rfl
      | cons u us =>
        obtain ⟨b, off, h, _⟩ := hsrc [] u us rfl
        cases h
    subst hnil
    obtain ⟨A', c', hv, _⟩ := hown.slice
    refine ⟨A', c', w, ?_, ?_, Ch.refl _ _, ?_⟩
    · have := run_append_none (P := P) (w := w) B t ty e i0 1 ht hi v vs.length c vs hown
      rw [List.length_nil, Nat.add_zero, this, hv]
    · rw [List.length_nil, Nat.add_zero, List.append_nil, ← hv]
      exact hown
    · intro k hk
      rw [List.length_nil, Nat.add_zero, ← hv] at hk
      exact .inl hk
  | some ad =>
    have hnews : ∀ j u, news[j]? = some u → w.cell? (ad.add j) = some u := by
      intro j u hj
      have e : news = news.take j ++ u :: news.drop (j + 1) := by
        obtain ⟨hl, rfl⟩ := List.getElem?_eq_some_iff.1 hj
        simp
      obtain ⟨b, off, h, hc⟩ := hsrc _ _ _ e
      cases h
      have hjl := (List.getElem?_eq_some_iff.1 hj).1
      rw [List.length_take, Nat.min_eq_left (by omega)] at hc
      unfold Addr.add
      split
      · rename_i hz
        subst hz
        simpa using hc
      · exact hc
    obtain ⟨v', w', hr, hown', hgr, _, hat⟩ := run_append_own_at (P := P) w B t ty e i0 z 1 bytes ht hi h0 h1' h2 hz (by decide) v vs.length vs hown ad news.length c news (by simp) hnews h1 hn hb hB
    have ho : OwnS w' B e v' (vs ++ news) := by simpa [OwnS] using hown'
    obtain ⟨A', c', rfl, _⟩ := ho.slice
    rw [List.length_append] at ho hr hat
    refine ⟨A', c', w', hr, ho, Ch.grown (S := fun k => v.ownBlock = some k) (Ch.refl _ w) hgr (fun k hk _ => hk), ?_⟩
    intro k hk
    rcases hat with hat | hat
    · exact .inl (by rw [← hat]; exact hk)
    · rw [hat] at hk
      cases hk
      exact .inr (Nat.le_refl _)
/-- .. at a plain list of operations -/
theorem appN {P : Program} {ops : Array Oper} {Q : Exit → Act → World → Prop} {a : Act} {w : World} {rest : List Oper} {o : Oper} (hgd : o.guard = none) (s x : Operand) (t e : TypeId)
    (ho : o.op = .call { callee := .builtin .append, args := #[s, x], argTypes := #[t, t] }) (z : Value) (bytes : Nat)
    (ht : P.underlying t = some (.slice e)) (hinfo : (P.info? e).map (fun i => (i.zero, i.size, i.bytes)) = some (some z, 1, bytes)) (hz : z.cells.size = 1)
    (B : Nat) (v : Value) (vs : List Value) (hs : a.eval s = v) (hown : OwnS w B e v vs) (A : Option Addr) (c : Nat) (news : List Value) (hx : a.eval x = .slice A news.length c) (hsrc : Cls w A news) (h1 : ∀ u ∈ news, u.oneCell' = true)
    (hn : vs.length + news.length ≤ maxLen) (hb : (vs.length + news.length) * bytes ≤ 140737488355328) (hB : B ≤ w.heap.size)
    (h : ∀ A' c' w', OwnS w' B e (.slice A' (vs.length + news.length) c') (vs ++ news) → Ch (fun k => v.ownBlock = some k) w w' → (∀ k, (Value.slice A' (vs.length + news.length) c').ownBlock = some k → v.ownBlock = some k ∨ w.heap.size ≤ k) →
      wpList P ops Q rest (a.put o.dst (.slice A' (vs.length + news.length) c')) w') :
    wpList P ops Q (o :: rest) a w := by
  refine wpList_plain hgd fun K hK => ?_
  obtain ⟨A', c', w', hr, h2, h3, h4⟩ := run_appN (P := P) (w := w) t o.type e z bytes ht hinfo hz B v vs hown A c news hsrc h1 hn hb hB
  unfold Oper.wp execOp
  simp only [ho, resolve, invoke, builtin, Sem.run_bind, Sem.run_pure, Result.andThen_ok, List.map_toArray, List.map_cons, List.map_nil, hs, hx, hr]
  exact hK _ _ (h A' c' w' h2 h3 h4)
/-- .. of whole numbers -/
theorem appI {P : Program} {ops : Array Oper} {Q : Exit → Act → World → Prop} {a : Act} {w : World} {rest : List Oper} {o : Oper} (hgd : o.guard = none) (s x : Operand) (t e : TypeId)
    (ho : o.op = .call { callee := .builtin .append, args := #[s, x], argTypes := #[t, t] }) (k : IntKind) (z : Int) (bytes : Nat)
    (ht : P.underlying t = some (.slice e)) (hinfo : (P.info? e).map (fun i => (i.zero, i.size, i.bytes)) = some (some (.int k z), 1, bytes))
    (B : Nat) (A0 : Option Addr) (c0 : Nat) (ys : List Int) (hs : a.eval s = .slice A0 ys.length c0) (hown : OwnS w B e (.slice A0 ys.length c0) (ints k ys)) (A : Option Addr) (c : Nat) (xs : List Int) (hx : a.eval x = .slice A xs.length c) (hsrc : Cls w A (ints k xs))
    (hn : ys.length + xs.length ≤ maxLen) (hb : (ys.length + xs.length) * bytes ≤ 140737488355328) (hB : B ≤ w.heap.size)
    (h : ∀ A' c' w', OwnS w' B e (.slice A' (ys ++ xs).length c') (ints k (ys ++ xs)) → Ch (fun i => (Value.slice A0 ys.length c0).ownBlock = some i) w w' → (∀ i, (Value.slice A' (ys ++ xs).length c').ownBlock = some i → (Value.slice A0 ys.length c0).ownBlock = some i ∨ w.heap.size ≤ i) →
      wpList P ops Q rest (a.put o.dst (.slice A' (ys.length + xs.length) c')) w') :
    wpList P ops Q (o :: rest) a w := by
  refine appN hgd s x t e ho (.int k z) bytes ht hinfo rfl B (.slice A0 ys.length c0) (ints k ys) hs hown A c (ints k xs) (by simpa using hx) hsrc (by intro u hu; obtain ⟨y, _, rfl⟩ := List.mem_map.1 hu; rfl) (by simpa using hn) (by simpa using hb) hB ?_
  intro A' c' w' h1 h2 h3
  have := h A' c' w' (by simpa [ints] using h1) h2 (by simpa using h3)
  simpa using this
end Go.Proofs.YtpjcfelknkddfaaDoor
