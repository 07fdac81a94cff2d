/- lattice.New. -/
import Derived.Test.YtpjcfelknkddfaaDoorLatRef2
import Derived.Test.YtpjcfelknkddfaaDoorStep
import Derived.Test.YtpjcfelknkddfaaDoorTill
import Derived.StillTailTactics
namespace Go.Proofs.YtpjcfelknkddfaaDoor
open Go.RowKit

/-- the cells of labels, one behind the other -/
def flatL (l : List (Nat × Nat)) : List Value := l.flatMap labR
theorem flatL_len (l : List (Nat × Nat)) : (flatL l).length = l.length * 2 := by
  induction l with
  | nil => rfl
  | cons a l ih => unfold flatL at *; rw [List.flatMap_cons, List.length_append, ih]; simp [labR]; omega
theorem flatL_app (l k : List (Nat × Nat)) : flatL (l ++ k) = flatL l ++ flatL k := by simp [flatL]
theorem flatL_cons (a : Nat × Nat) (l : List (Nat × Nat)) : flatL (a :: l) = labR a ++ flatL l := by simp [flatL]
theorem flatL_at (pre post : List (Nat × Nat)) (a : Nat × Nat) (j : Nat) (hj : j < 2) : (flatL (pre ++ a :: post))[pre.length * 2 + j]? = (labR a)[j]? := by
  rw [flatL_app, flatL_cons, List.getElem?_append_right (by rw [flatL_len]; omega), flatL_len, show pre.length * 2 + j - pre.length * 2 = j from by omega, List.getElem?_append_left (by simp [labR]; omega)]
theorem labR_one (x : Nat × Nat) : ∀ u ∈ labR x, u.oneCell' = true := by intro u hu; simp [labR] at hu; rcases hu with rfl | rfl <;> rfl
theorem flatL_one (l : List (Nat × Nat)) (u : Value) (h : u ∈ flatL l) : u.oneCell' = true := by
  unfold flatL at h
  obtain ⟨a, _, h⟩ := List.mem_flatMap.1 h
  exact labR_one a u h
theorem flatL_get {l : List (Nat × Nat)} {j : Nat} {u : Value} (h : (flatL l)[j]? = some u) : ∃ P a Q i, l = P ++ a :: Q ∧ i < 2 ∧ j = P.length * 2 + i ∧ (labR a)[i]? = some u := by
  have hj := (List.getElem?_eq_some_iff.1 h).1
  rw [flatL_len] at hj
  have hq : j / 2 < l.length := by omega
  have e : l = l.take (j / 2) ++ l[j / 2] :: l.drop (j / 2 + 1) := by simp
  have hP : (l.take (j / 2)).length = j / 2 := by rw [List.length_take]; omega
  refine ⟨l.take (j / 2), l[j / 2], l.drop (j / 2 + 1), j % 2, e, by omega, by rw [hP]; omega, ?_⟩
  rw [← flatL_at (l.take (j / 2)) (l.drop (j / 2 + 1)) l[j / 2] (j % 2) (by omega), ← e, hP, ← h]
  congr 1
  omega
theorem rwsL_src {w : World} {A : Option Addr} {L : List (Nat × Nat)} (h : Rws w A 2 (L.map labR)) : (∀ j u, (flatL L)[j]? = some u → ∃ ad, A = some ad ∧ w.cell? (ad.add j) = some u) ∧ (A = none → flatL L = []) := by
  constructor
  · intro j u hj
    obtain ⟨P, a, Q, i, e, hi, hj', ha⟩ := flatL_get hj
    obtain ⟨_, b, off, hA, hc⟩ := h (P.map labR) (labR a) (Q.map labR) (by rw [e]; simp)
    refine ⟨_, hA, ?_⟩
    have h1 := hc i u ha
    rw [List.length_map, Nat.add_assoc, ← hj'] at h1
    unfold Addr.add
    split
    · rename_i hz
      subst hz
      simpa using h1
    · exact h1
  · intro hA
    cases L with
    | nil => rfl
    | cons a L =>
      obtain ⟨_, b, off, hA', _⟩ := h [] (labR a) (L.map labR) rfl
      rw [hA] at hA'
      cases hA'
/-- a row of a call's own reads as its labels -/
theorem rowL_rws {e : TypeId} {w : World} {B : Nat} {A : Option Addr} {c n : Nat} {xs : List (Nat × Nat)} (h : w.ownsRow B e 2 (.slice A n c) n (flatL xs)) (hn : n = xs.length) : Rws w A 2 (xs.map labR) := by
  subst hn
  intro pre r post e
  obtain ⟨p, q, rfl, rfl, e2⟩ := List.map_eq_append_iff.1 e
  obtain ⟨a, q', rfl, rfl, rfl⟩ := List.map_eq_cons_iff.1 e2
  refine ⟨rfl, ?_⟩
  rcases h.2 with ⟨_, h0⟩ | ⟨g, cap, cur, hv, _⟩
  · simp at h0
  · have hA : A = some ⟨g, 0, none⟩ := (Value.slice.inj hv).1
    subst hA
    refine ⟨g, 0, rfl, ?_⟩
    intro j v hj
    have hj6 : j < 2 := by have := (List.getElem?_eq_some_iff.1 hj).1; simpa [labR] using this
    rw [List.length_map, Nat.zero_add]
    have h1 := h.cellAt (p.length * 2 + j) (by rw [List.length_append, List.length_cons]; omega)
    rw [flatL_at p q' a j hj6, hj] at h1
    exact h1
theorem Rws.chS {S : Nat → Prop} {w w' : World} {A : Option Addr} {sz : Nat} {rows : List (List Value)} (h : Rws w A sz rows) (hc : Ch S w w') (hS : ∀ a, A = some a → ¬ S a.block) : Rws w' A sz rows := by
  intro pre r post e
  obtain ⟨h1, b, off, hA, h2⟩ := h pre r post e
  exact ⟨h1, b, off, hA, fun j v hj => hc.cell (h2 j v hj) (show ¬ S b from hS ⟨b, off, none⟩ hA)⟩
/-- append of several cells' elements onto nothing -/
theorem appL0 {P : Program} {ops : Array Oper} {Q : Exit → Act → World → Prop} {a : Act} {w : World} {rest : List Oper} {o : Oper} (hgd : o.guard = none) (s x : Operand) (t e : TypeId)
    (ho : o.op = .call { callee := .builtin .append, args := #[s, x], argTypes := #[t, t] }) (z : Value) (sz bytes : Nat)
    (ht : P.underlying t = some (.slice e)) (hinfo : (P.info? e).map (fun i => (i.zero, i.size, i.bytes)) = some (some z, sz, bytes)) (hz : z.cells.size = sz) (hsz : 0 < sz)
    (B : Nat) (A0 : Option Addr) (c0 : Nat) (hs : a.eval s = .slice A0 0 c0) (hown : w.ownsRow B e sz (.slice A0 0 c0) 0 []) (A : Option Addr) (m c : Nat) (us : List Value) (hx : a.eval x = .slice A m c) (hul : us.length = m * sz)
    (hsrc : ∀ j u, us[j]? = some u → ∃ ad, A = some ad ∧ w.cell? (ad.add j) = some u) (hA : A = none → us = []) (h1 : ∀ u ∈ us, u.oneCell' = true)
    (hn : m ≤ maxLen) (hb : m * bytes ≤ 140737488355328) (hB : B ≤ w.heap.size)
    (h : ∀ A' c' w', w'.ownsRow B e sz (.slice A' m c') m us → Ch (fun k => (Value.slice A0 0 c0).ownBlock = some k) w w' → (∀ k, (Value.slice A' m c').ownBlock = some k → (Value.slice A0 0 c0).ownBlock = some k ∨ w.heap.size ≤ k) → wpList P ops Q rest (a.put o.dst (.slice A' m c')) w') :
    wpList P ops Q (o :: rest) a w := by
  refine wpList_plain hgd fun K' hK' => ?_
  have q := step_appL0 (ops := ops) (K := K') (Q := Q) (E := False) hgd s x t e ho z sz bytes ht hinfo hz hsz B A0 c0 hs hown A m c us hx hul hsrc hA h1 hn hb hB (fun A' c' w' q1 q2 q3 => hK' _ _ (h A' c' w' q1 q2 q3))
  rwa [if_pos (by simp [Region.wanted, hgd])] at q
theorem infoLab : (Tryd.prog.info? 25).map (fun i => (i.zero, i.size, i.bytes)) = some (some (.agg #[.int .u8 0, .int .u16 0]), 2, 4) := by kernel_rfl
theorem infoU32 : (Tryd.prog.info? 26).map (fun i => (i.zero, i.size, i.bytes)) = some (some (.int .u32 0), 1, 4) := by kernel_rfl

theorem run_eqlsnL (w : World) (A : Option Addr) (n c : Nat) : (binOp .eql 22 (.slice A n c) (.slice none 0 0)).run Tryd.prog w = .ok (.bool A.isNone) w := by
  simp only [binOp]
  simp [Op.equal, Op.maxDepth, Lib.run_equalIn_slice_nil w 9999 22 25 A n c 0 0 Tryd.underlying22]
set_option maxHeartbeats 1000000 in
section
variable {w : World} {A : Option Addr} {c N : Nat} {Ls : List (Nat × Nat)}
set_option maxHeartbeats 1000000 in
theorem CloneB_any (hL : Rws w A 2 (Ls.map labR)) (hlen : Ls.length = N) (h1 : 1 ≤ N) (hN : N ≤ 1000000) :
    Calls Tryd.prog 23 #[.slice A N c] w fun e w' => ∃ A' c', e = .returned (.slice A' N c') ∧ Rws w' A' 2 (Ls.map labR) ∧ (∀ a, A' = some a → a.block < w'.heap.size) ∧ Ch No w w' := by
  obtain ⟨x, xs, hx⟩ : ∃ x xs, Ls = x :: xs := by
    cases Ls with
    | nil => simp at hlen; omega
    | cons x xs => exact ⟨x, xs, rfl⟩
  obtain ⟨b, off, hA⟩ : ∃ b off, A = some ⟨b, off, none⟩ := by
    obtain ⟨b, off, hA, _⟩ := hL.lab (pre := []) hx
    exact ⟨b, off, hA⟩
  have HL := Lib.hid (And.intro hL hlen)
  have hq := fun w => run_eqlsnL w (some ⟨b, off, none⟩) N c
  simp only [Option.isNone_some] at hq
  have hO : (w.alloc (.cells #[] 25)).ownsRow w.heap.size 25 2 (.slice (some ⟨w.heap.size, 0, none⟩) 0 0) 0 [] := by
    have := World.ownsRow_lit (base := w.heap.size) (e := 25) (size := 2) w #[] 0 (Nat.le_refl _) (by simp) rfl
    simpa using this
  clear hx hL hlen x xs
  subst hA
  go_enter Tryd.func23, Tryd.ntmps23
  have hsrc := rwsL_src (HL.out.1.no ((Ch.refl No w).alloc (.cells #[] 25)))
  obtain ⟨hs1, hs2⟩ := hsrc
  have hul : (flatL Ls).length = N * 2 := by rw [flatL_len, HL.out.2]
  have hm1 : N ≤ maxLen := by simp [maxLen]; omega
  have hm2 : N * 4 ≤ 140737488355328 := by omega
  have hm3 : w.heap.size ≤ (w.alloc (.cells #[] 25)).heap.size := by simp
  go_wp2_with (at_builtin; refine appL0 rfl _ _ 22 25 rfl (.agg #[.int .u8 0, .int .u16 0]) 2 4 Tryd.underlying22 infoLab rfl (by decide) w.heap.size (some ⟨w.heap.size, 0, none⟩) 0 rfl hO (some ⟨b, off, none⟩) N c (flatL Ls) rfl hul hs1 hs2 (flatL_one Ls) hm1 hm2 hm3 ?_; intro A' c' w' o' h' n')
  have hC : Ch No w w' := ((Ch.refl No w).alloc _).trans' h' (fun i hi he => by
    have he' : w.heap.size = i := by simpa [Value.ownBlock] using he
    omega)
  have hR := rowL_rws o' HL.out.2.symm
  have hB : ∀ a, A' = some a → a.block < w'.heap.size := fun a ha => (o'.lt a.block (by rw [ha]; rfl)).2
  have HF := Lib.hid (And.intro hR (And.intro hB hC))
  clear o' h' n' hC hR hB
  go_wp2_with fail
  go_ret
  exact ⟨A', c', rfl, HF.out.1, HF.out.2.1, HF.out.2.2⟩
/-- add of a thing that is not there -/
theorem LAdd_new {b n : Nat} {xs : List (Nat × Nat)} (hn : xs.length = n) (hb : w.heap[b]? = some (.map (entsFrom xs 0).toArray n)) (l k : Nat) (hw : whr (l, k) xs 0 = none) :
    Calls Tryd.prog 25 #[.map (some b), .agg #[.int .u8 l, .int .u16 k], .int .i64 n] w fun e w' => e = .returned (.bool true) ∧ w'.heap[b]? = some (.map (entsFrom (xs ++ [(l, k)]) 0).toArray (n + 1)) ∧ Ch (Only b) w w' := by
  subst hn
  have hC : Ch No w (w.alloc (.cells #[.int .u8 l, .int .u16 k] 25)) := (Ch.refl No w).alloc _
  have hb1 := hC.at hb (fun h => h)
  have hl := run_look (x := (l, k)) hb1
  have hu := run_upd hb1 hw
  rw [hw] at hl
  simp only [Option.getD_none, Option.isSome_none] at hl
  unfold labV at hl hu
  have HB := Lib.hid (And.intro hb1 hC)
  clear hb1 hb hw hC
  go_enter Tryd.func25, Tryd.ntmps25
  go_wp2_with fail
  go_ret
  have hlt := (Array.getElem?_eq_some_iff.1 HB.out.1).1
  refine ⟨rfl, ?_, ?_⟩
  · rw [World.putObj_heap_same hlt]
  · exact ⟨HB.out.2.os, HB.out.2.tape, HB.out.2.output, by simp, fun i hi hS => (World.putObj_heap_other (fun e => hS e)).trans (HB.out.2.block i hi (fun h => h))⟩
theorem LAdd_old {b n i : Nat} {xs : List (Nat × Nat)} (hb : w.heap[b]? = some (.map (entsFrom xs 0).toArray n)) (l k : Nat) (v : Value) (hw : whr (l, k) xs 0 = some i) :
    Calls Tryd.prog 25 #[.map (some b), .agg #[.int .u8 l, .int .u16 k], v] w fun e w' => e = .returned (.bool false) ∧ Ch No w w' := by
  have hC : Ch No w (w.alloc (.cells #[.int .u8 l, .int .u16 k] 25)) := (Ch.refl No w).alloc _
  have hb1 := hC.at hb (fun h => h)
  have hl := run_look (x := (l, k)) hb1
  rw [hw] at hl
  simp only [Option.getD_some, Option.isSome_some] at hl
  unfold labV at hl
  have HB := Lib.hid hC
  clear hb1 hb hw hC
  go_enter Tryd.func25, Tryd.ntmps25
  go_wp2_with fail
  go_ret
  exact ⟨rfl, HB.out⟩
theorem whr_mem {x : Nat × Nat} : ∀ (xs : List (Nat × Nat)) (n : Nat), x ∈ xs → ∃ i, whr x xs n = some i
  | y :: ys, n, h => by
    show ∃ i, (if x = y then some n else whr x ys (n + 1)) = some i
    by_cases e : x = y
    · exact ⟨n, if_pos e⟩
    · rw [if_neg e]
      exact whr_mem ys (n + 1) ((List.mem_cons.1 h).resolve_left e)
theorem whr_not {x : Nat × Nat} {xs : List (Nat × Nat)} (h : ¬ x ∈ xs) : whr x xs 0 = none := by
  have := whr_skip (x := x) xs [] 0 (fun y hy e => h (e ▸ hy))
  rw [List.append_nil] at this
  rw [this]
  rfl
end
end Go.Proofs.YtpjcfelknkddfaaDoor
