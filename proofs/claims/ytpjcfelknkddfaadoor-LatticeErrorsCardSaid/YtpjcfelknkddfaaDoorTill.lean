/- a region that draws its order, outside a round: its orders, with what the loads read held till a store spoils it. No program in sight. -/
import Derived.Test.YtpjcfelknkddfaaDoorOrd
import Derived.Deep.RegionLaw
namespace Go.Proofs.YtpjcfelknkddfaaDoor
open Go Go.RowKit

section
variable {P : Program} {ops : Array Oper} {Q : Exit → Act → World → Prop}
theorem region_till {T : World → Prop} {s id : Nat} {a : Act} {w : World} (hm : P.follows .mixedOrders = true)
    (h : T w.drew → wpTill P .any ops (fun e a w => e = .normal ∧ Q .normal a w) T s ops.size (Array.replicate ops.size false) a w.drew) (hT : T w.drew) : (Code.region id ops true).wp P Q a w :=
  Code.wp_mono (Q := fun e a w => e = .normal ∧ Q .normal a w) (fun e a w h => by obtain ⟨rfl, hx⟩ := h; exact hx) (wp_region_any hm (wpTill_any _ _ _ _ (h hT)))
end
/-- append of as many elements of sz cells as another slice has, at a step -/
theorem step_appL {P : Program} {ops : Array Oper} {Q : Exit → Act → World → Prop} {a : Act} {w : World} {K : Act → World → Prop} {E : Prop} {o : Oper} (hgd : o.guard = none) (s x : Operand) (t e : TypeId)
    (ho : o.op = .call { callee := .builtin .append, args := #[s, x], argTypes := #[t, t] }) (z : Value) (sz bytes : Nat)
    (ht : P.underlying t = some (.slice e)) (hinfo : (P.info? e).map (fun i => (i.zero, i.size, i.bytes)) = some (some z, sz, bytes)) (hz : z.cells.size = sz) (hsz : 0 < sz)
    (B : Nat) (v : Value) (n : Nat) (vs : List Value) (hs : a.eval s = v) (hown : w.ownsRow B e sz v n vs) (A : Option Addr) (m c : Nat) (us : List Value) (hx : a.eval x = .slice A m c) (hul : us.length = m * sz)
    (hsrc : ∀ j u, us[j]? = some u → ∃ ad, A = some ad ∧ w.cell? (ad.add j) = some u) (hA : A = none → us = []) (h1 : ∀ u ∈ us, u.oneCell' = true)
    (hn : n + m ≤ maxLen) (hb : (n + m) * bytes ≤ 140737488355328) (hB : B ≤ w.heap.size)
    (h : ∀ A' c' w', w'.ownsRow B e sz (.slice A' (n + m) c') (n + m) (vs ++ us) → w.grownBy w' v.ownBlock → (∀ k, (Value.slice A' (n + m) c').ownBlock = some k → v.ownBlock = some k ∨ w.heap.size ≤ k) → K (a.put o.dst (.slice A' (n + m) c')) w') :
    if Region.wanted o (yielded ops a.tmps) = true then Oper.wp P o a w K Q else E := by
  rw [if_pos (by simp [Region.wanted, hgd])]
  obtain ⟨i0, hi, h0, hs0, h2⟩ := info_parts hinfo
  cases A with
  | none =>
    have hnil := hA rfl
    subst hnil
    have hm : m = 0 := by
      cases m with
      | zero => rfl
      | succ m => have := Nat.mul_pos (show 0 < m + 1 by omega) hsz; rw [← hul] at this; simp at this
    subst hm
    obtain ⟨A', c', rfl⟩ := row_shape hown
    unfold Oper.wp execOp
    have hr := run_append_none (P := P) (w := w) B t o.type e i0 sz ht hi (.slice A' n c') n c vs hown
    simp only [ho, resolve, invoke, builtin, Sem.run_bind, Sem.run_pure, Result.andThen_ok, List.map_toArray, List.map_cons, List.map_nil, hs, hx, hr]
    have := h A' c' w (by simpa using hown) ⟨rfl, rfl, rfl, Nat.le_refl _, fun _ _ _ => rfl⟩ (fun k hk => .inl (by simpa using hk))
    rw [Nat.add_zero] at this
    exact this
  | some ad =>
    obtain ⟨v', w', hr, r1, r2, _, r4⟩ := run_append_own_at (P := P) w B t o.type e i0 z sz bytes ht hi h0 hs0 h2 hz hsz v n vs hown ad m c us hul (fun j u hj => by obtain ⟨ad', h, hc⟩ := hsrc j u hj; cases h; exact hc) h1 hn hb hB
    obtain ⟨A', c', rfl⟩ := row_shape r1
    unfold Oper.wp execOp
    simp only [ho, resolve, invoke, builtin, Sem.run_bind, Sem.run_pure, Result.andThen_ok, List.map_toArray, List.map_cons, List.map_nil, hs, hx, hr]
    refine h A' c' w' r1 r2 (fun k hk => ?_)
    rcases r4 with r4 | r4
    · exact .inl (by rw [← r4]; exact hk)
    · rw [r4] at hk
      cases hk
      exact .inr (Nat.le_refl _)
/-- .. onto nothing -/
theorem step_appL0 {P : Program} {ops : Array Oper} {Q : Exit → Act → World → Prop} {a : Act} {w : World} {K : Act → World → Prop} {E : Prop} {o : Oper} (hgd : o.guard = none) (s x : Operand) (t e : TypeId)
    (ho : o.op = .call { callee := .builtin .append, args := #[s, x], argTypes := #[t, t] }) (z : Value) (sz bytes : Nat)
    (ht : P.underlying t = some (.slice e)) (hinfo : (P.info? e).map (fun i => (i.zero, i.size, i.bytes)) = some (some z, sz, bytes)) (hz : z.cells.size = sz) (hsz : 0 < sz)
    (B : Nat) (A0 : Option Addr) (c0 : Nat) (hs : a.eval s = .slice A0 0 c0) (hown : w.ownsRow B e sz (.slice A0 0 c0) 0 []) (A : Option Addr) (m c : Nat) (us : List Value) (hx : a.eval x = .slice A m c) (hul : us.length = m * sz)
    (hsrc : ∀ j u, us[j]? = some u → ∃ ad, A = some ad ∧ w.cell? (ad.add j) = some u) (hA : A = none → us = []) (h1 : ∀ u ∈ us, u.oneCell' = true)
    (hn : m ≤ maxLen) (hb : m * bytes ≤ 140737488355328) (hB : B ≤ w.heap.size)
    (h : ∀ A' c' w', w'.ownsRow B e sz (.slice A' m c') m us → Ch (fun k => (Value.slice A0 0 c0).ownBlock = some k) w w' → (∀ k, (Value.slice A' m c').ownBlock = some k → (Value.slice A0 0 c0).ownBlock = some k ∨ w.heap.size ≤ k) → K (a.put o.dst (.slice A' m c')) w') :
    if Region.wanted o (yielded ops a.tmps) = true then Oper.wp P o a w K Q else E := by
  refine step_appL hgd s x t e ho z sz bytes ht hinfo hz hsz B (.slice A0 0 c0) 0 [] hs hown A m c us hx hul hsrc hA h1 (by omega) (by rw [Nat.zero_add]; exact hb) hB ?_
  intro A' c' w' q1 q2 q3
  rw [Nat.zero_add] at q1 q3 ⊢
  exact h A' c' w' q1 (Ch.grown (Ch.refl _ _) q2 (fun k hk _ => hk)) q3
/-- append of one whole number just laid, its row's length given -/
theorem app1k {P : Program} {ops : Array Oper} {Q : Exit → Act → World → Prop} {a : Act} {w : World} {rest : List Oper} {o : Oper} (hgd : o.guard = none) (s x : Operand) (t e : TypeId)
    (ho : o.op = .call { callee := .builtin .append, args := #[s, x], argTypes := #[t, t] }) (k : IntKind) (z : Int) (bytes : Nat)
    (ht : P.underlying t = some (.slice e)) (hinfo : (P.info? e).map (fun i => (i.zero, i.size, i.bytes)) = some (some (.int k z), 1, bytes))
    (B : Nat) (A0 : Option Addr) (c0 n : Nat) (ys : List Int) (hn0 : ys.length = n) (y : Int) (hs : a.eval s = .slice A0 n c0) (hown : OwnS w B e (.slice A0 n c0) (ints k ys)) (c : Nat) (hx : a.eval x = .slice (some ⟨w.heap.size, 0, none⟩) 1 c)
    (hn : n + 1 ≤ maxLen) (hb : (n + 1) * bytes ≤ 140737488355328) (hB : B ≤ w.heap.size)
    (h : ∀ A' c' w', OwnS w' B e (.slice A' (n + 1) c') (ints k (ys ++ [y])) → Ch (fun i => (Value.slice A0 n c0).ownBlock = some i) w w' → (∀ i, (Value.slice A' (n + 1) c').ownBlock = some i → (Value.slice A0 n c0).ownBlock = some i ∨ w.heap.size ≤ i) → wpList P ops Q rest (a.put o.dst (.slice A' (n + 1) c')) w') :
    wpList P ops Q (o :: rest) a (w.alloc (.cells #[.int k y] e)) := by
  subst hn0
  refine app1i hgd s x t e ho k z bytes ht hinfo B A0 c0 ys y hs hown c hx hn hb hB ?_
  intro g' c' w' h1 h2 h3
  rw [List.length_append] at h1
  exact h _ c' w' h1 h2 (fun i hi => by cases hi; exact h3)
end Go.Proofs.YtpjcfelknkddfaaDoor
