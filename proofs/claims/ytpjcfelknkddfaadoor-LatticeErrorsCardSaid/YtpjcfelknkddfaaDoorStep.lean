/- append of as many elements as another slice has, at a step of a region that draws its order. No program in sight. -/
import Derived.Test.YtpjcfelknkddfaaDoorOwn
import Derived.Deep.RegionLaw
namespace Go.Proofs.YtpjcfelknkddfaaDoor
open Go.RowKit

theorem step_appN {P : Program} {ops : Array Oper} {Q : Exit → Act → World → Prop} {a : Act} {w : World} {K : Act → World → Prop} {E : Prop} {o : Oper} (hgd : o.guard = none) (s x : Operand) (t e : TypeId)
    (ho : o.op = .call { callee := .builtin .append, args := #[s, x], argTypes := #[t, t] }) (z : Value) (bytes : Nat)
    (ht : P.underlying t = some (.slice e)) (hinfo : (P.info? e).map (fun i => (i.zero, i.size, i.bytes)) = some (some z, 1, bytes)) (hz : z.cells.size = 1)
    (B : Nat) (v : Value) (vs : List Value) (hs : a.eval s = v) (hown : OwnS w B e v vs) (A : Option Addr) (c : Nat) (news : List Value) (hx : a.eval x = .slice A news.length c) (hsrc : Cls w A news) (h1 : ∀ u ∈ news, u.oneCell' = true)
    (hn : vs.length + news.length ≤ maxLen) (hb : (vs.length + news.length) * bytes ≤ 140737488355328) (hB : B ≤ w.heap.size)
    (h : ∀ A' c' w', OwnS w' B e (.slice A' (vs.length + news.length) c') (vs ++ news) → Ch (fun k => v.ownBlock = some k) w w' → (∀ k, (Value.slice A' (vs.length + news.length) c').ownBlock = some k → v.ownBlock = some k ∨ w.heap.size ≤ k) →
      K (a.put o.dst (.slice A' (vs.length + news.length) c')) w') :
    if Region.wanted o (yielded ops a.tmps) = true then Oper.wp P o a w K Q else E := by
  rw [if_pos (by simp [Region.wanted, hgd])]
  obtain ⟨A', c', w', hr, h2, h3, h4⟩ := run_appN (P := P) (w := w) t o.type e z bytes ht hinfo hz B v vs hown A c news hsrc h1 hn hb hB
  unfold Oper.wp execOp
  simp only [ho, resolve, invoke, builtin, Sem.run_bind, Sem.run_pure, Result.andThen_ok, List.map_toArray, List.map_cons, List.map_nil, hs, hx, hr]
  exact h A' c' w' h2 h3 h4
/-- .. of whole numbers, the lengths given -/
theorem step_appI {P : Program} {ops : Array Oper} {Q : Exit → Act → World → Prop} {a : Act} {w : World} {K : Act → World → Prop} {E : Prop} {o : Oper} (hgd : o.guard = none) (s x : Operand) (t e : TypeId)
    (ho : o.op = .call { callee := .builtin .append, args := #[s, x], argTypes := #[t, t] }) (k : IntKind) (z : Int) (bytes : Nat)
    (ht : P.underlying t = some (.slice e)) (hinfo : (P.info? e).map (fun i => (i.zero, i.size, i.bytes)) = some (some (.int k z), 1, bytes))
    (B : Nat) (A0 : Option Addr) (c0 n : Nat) (ys : List Int) (hyn : ys.length = n) (hs : a.eval s = .slice A0 n c0) (hown : OwnS w B e (.slice A0 n c0) (ints k ys)) (A : Option Addr) (c m : Nat) (xs : List Int) (hxm : xs.length = m) (hx : a.eval x = .slice A m c) (hsrc : Cls w A (ints k xs))
    (hn : n + m ≤ maxLen) (hb : (n + m) * bytes ≤ 140737488355328) (hB : B ≤ w.heap.size)
    (h : ∀ A' c' w', OwnS w' B e (.slice A' (n + m) c') (ints k (ys ++ xs)) → Ch (fun i => (Value.slice A0 n c0).ownBlock = some i) w w' → K (a.put o.dst (.slice A' (n + m) c')) w') :
    if Region.wanted o (yielded ops a.tmps) = true then Oper.wp P o a w K Q else E := by
  subst hyn
  subst hxm
  refine step_appN hgd s x t e ho (.int k z) bytes ht hinfo rfl B (.slice A0 ys.length c0) (ints k ys) hs hown A c (ints k xs) (by simpa using hx) hsrc (by intro u hu; obtain ⟨y, _, rfl⟩ := List.mem_map.1 hu; rfl) (by simpa using hn) (by simpa using hb) hB ?_
  intro A' c' w' h1 h2 _
  have := h A' c' w' (by simpa [ints] using h1) h2
  simpa using this
/-- .. onto nothing -/
theorem step_app0 {P : Program} {ops : Array Oper} {Q : Exit → Act → World → Prop} {a : Act} {w : World} {K : Act → World → Prop} {E : Prop} {o : Oper} (hgd : o.guard = none) (s x : Operand) (t e : TypeId)
    (ho : o.op = .call { callee := .builtin .append, args := #[s, x], argTypes := #[t, t] }) (k : IntKind) (z : Int) (bytes : Nat)
    (ht : P.underlying t = some (.slice e)) (hinfo : (P.info? e).map (fun i => (i.zero, i.size, i.bytes)) = some (some (.int k z), 1, bytes))
    (B : Nat) (A0 : Option Addr) (c0 : Nat) (hs : a.eval s = .slice A0 0 c0) (hown : OwnS w B e (.slice A0 0 c0) []) (A : Option Addr) (c m : Nat) (xs : List Int) (hxm : xs.length = m) (hx : a.eval x = .slice A m c) (hsrc : Cls w A (ints k xs))
    (hn : m ≤ maxLen) (hb : m * bytes ≤ 140737488355328) (hB : B ≤ w.heap.size)
    (h : ∀ A' c' w', OwnS w' B e (.slice A' m c') (ints k xs) → Ch (fun i => (Value.slice A0 0 c0).ownBlock = some i) w w' → K (a.put o.dst (.slice A' m c')) w') :
    if Region.wanted o (yielded ops a.tmps) = true then Oper.wp P o a w K Q else E := by
  refine step_appI hgd s x t e ho k z bytes ht hinfo B A0 c0 0 [] rfl hs hown A c m xs hxm hx hsrc (by omega) (by rw [Nat.zero_add]; exact hb) hB ?_
  intro A' c' w' h1 h2
  rw [Nat.zero_add] at h1 ⊢
  exact h A' c' w' h1 h2
/-- the same at a plain list of operations -/
theorem appJ {P : Program} {ops : Array Oper} {Q : Exit → Act → World → Prop} {a : Act} {w : World} {rest : List Oper} {o : Oper} (hgd : o.guard = none) (s x : Operand) (t e : TypeId)
    (ho : o.op = .call { callee := .builtin .append, args := #[s, x], argTypes := #[t, t] }) (k : IntKind) (z : Int) (bytes : Nat)
    (ht : P.underlying t = some (.slice e)) (hinfo : (P.info? e).map (fun i => (i.zero, i.size, i.bytes)) = some (some (.int k z), 1, bytes))
    (B : Nat) (A0 : Option Addr) (c0 n : Nat) (ys : List Int) (hyn : ys.length = n) (hs : a.eval s = .slice A0 n c0) (hown : OwnS w B e (.slice A0 n c0) (ints k ys)) (A : Option Addr) (c m : Nat) (xs : List Int) (hxm : xs.length = m) (hx : a.eval x = .slice A m c) (hsrc : Cls w A (ints k xs))
    (hn : n + m ≤ maxLen) (hb : (n + m) * bytes ≤ 140737488355328) (hB : B ≤ w.heap.size)
    (h : ∀ A' c' w', OwnS w' B e (.slice A' (n + m) c') (ints k (ys ++ xs)) → Ch (fun i => (Value.slice A0 n c0).ownBlock = some i) w w' → wpList P ops Q rest (a.put o.dst (.slice A' (n + m) c')) w') :
    wpList P ops Q (o :: rest) a w := by
  subst hyn
  subst hxm
  refine appI hgd s x t e ho k z bytes ht hinfo B A0 c0 ys hs hown A c xs hx hsrc hn hb hB ?_
  intro A' c' w' h1 h2 _
  exact h A' c' w' (by simpa using h1) h2
theorem OwnS.cls {w : World} {B n c : Nat} {e : TypeId} {A : Option Addr} {vs : List Value} (h : OwnS w B e (.slice A n c) vs) : Cls w A vs ∧ vs.length ≤ c ∧ n = vs.length := by
  obtain ⟨A', c', e', s', l'⟩ := h.slice
  obtain ⟨rfl, rfl, rfl⟩ := Value.slice.inj e'
  exact ⟨s', l', rfl⟩
theorem Blk.cls {w : World} {g : Nat} {t : TypeId} {vs : List Value} (h : Blk w g t vs) : Cls w (some ⟨g, 0, none⟩) vs := by
  intro pre v post e
  refine ⟨g, 0, rfl, ?_⟩
  rw [Nat.zero_add, h.cell, e]
  simp
/-- what a step turned lies in blocks of the call's own -/
theorem Ch.own {w w1 w2 : World} {B n c : Nat} {e : TypeId} {A : Option Addr} {vs : List Value} (h : Ch No w w1) (ho : OwnS w1 B e (.slice A n c) vs) (h2 : Ch (fun i => (Value.slice A n c).ownBlock = some i) w1 w2) (hB : w.heap.size ≤ B) : Ch No w w2 :=
  h.trans' h2 fun i hi he => by have := (ho.ge i he).1; omega
end Go.Proofs.YtpjcfelknkddfaaDoor
