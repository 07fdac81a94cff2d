/- Iterators: what a round keeps, rows of a call's own. No program in sight. -/
import Derived.RangeFuncNested
import Derived.RangeFuncBound
import Derived.RangeFuncCalls
import Derived.RangeFuncLeaves
import Derived.RangeFuncBox
import Derived.Shelf.Abstract
import Derived.Shelf.RegionOpen
import Derived.WalkKit
import Derived.OwnWalkIn
import Derived.TacticsInMore
import Derived.LoopNIn
import Derived.LoopIn
import Derived.Maps.AppendAt
import Derived.Test.YtpjcfelknkddfaaDoorOwn
namespace Go.Proofs.YtpjcfelknkddfaaDoor
open Go.RowKit Go.Shelf

theorem rowN_ch {S : Nat → Prop} {w w' : World} {B n sz : Nat} {e : TypeId} {v : Value} {vs : List Value} (h : w.ownsRow B e sz v n vs) (hc : Ch S w w') (hn : ∀ k, v.ownBlock = some k → ¬ S k) : w'.ownsRow B e sz v n vs := by
  refine ⟨h.1, ?_⟩
  rcases h.2 with h0 | ⟨g, cap, cur, rfl, hb, hg, rest⟩
  · exact .inl h0
  · exact .inr ⟨g, cap, cur, rfl, hb, hc.at hg (hn g rfl), rest⟩
theorem rowN_lower {w : World} {B C n sz : Nat} {e : TypeId} {v : Value} {vs : List Value} (h : w.ownsRow B e sz v n vs) (hC : C ≤ B) : w.ownsRow C e sz v n vs :=
  ⟨h.1, h.2.elim Or.inl (fun ⟨g, cap, cur, hv, hg, r⟩ => Or.inr ⟨g, cap, cur, hv, Nat.le_trans hC hg, r⟩)⟩
/-- append of one element of sz cells, that has just been laid -/
theorem appR {P : Program} {ops : Array Oper} {Q : Exit → Act → World → Prop} {a : Act} {w : World} {rest : List Oper} {o : Oper} (hgd : o.guard = none) (s x : Operand) (t e : TypeId)
    (ho : o.op = .call { callee := .builtin .append, args := #[s, x], argTypes := #[t, t] }) (z : Value) (sz bytes : Nat)
    (ht : P.underlying t = some (.slice e)) (hinfo : (P.info? e).map (fun i => (i.zero, i.size, i.bytes)) = some (some z, sz, bytes)) (hz : z.cells.size = sz) (hsz : 0 < sz)
    (B : Nat) (v : Value) (n : Nat) (vs : List Value) (us : List Value) (hs : a.eval s = v) (hown : w.ownsRow B e sz v n vs) (g c : Nat) (hx : a.eval x = .slice (some ⟨g, 0, none⟩) 1 c) (hg : g = w.heap.size) (hul : us.length = sz) (hu : ∀ u ∈ us, u.oneCell' = true)
    (hn : n + 1 ≤ maxLen) (hb : (n + 1) * bytes ≤ 140737488355328) (hB : B ≤ w.heap.size)
    (h : ∀ g' c' w', w'.ownsRow B e sz (.slice (some ⟨g', 0, none⟩) (n + 1) c') (n + 1) (vs ++ us) → Ch (fun k => v.ownBlock = some k) w w' → (v.ownBlock = some g' ∨ w.heap.size ≤ g') → wpList P ops Q rest (a.put o.dst (.slice (some ⟨g', 0, none⟩) (n + 1) c')) w') :
    wpList P ops Q (o :: rest) a (w.alloc (.cells us.toArray e)) := by
  subst hg
  obtain ⟨i0, hi, h0, h1, h2⟩ := info_parts hinfo
  refine wpList_append_own_at _ hgd s x t ho B e i0 z sz bytes ht hi h0 h1 h2 hz hsz v n vs hs (rowN_ch hown ((Ch.refl No w).alloc _) (fun _ _ h => h)) ⟨w.heap.size, 0, none⟩ 1 c us hx (by omega)
    (by
      intro j u' hj
      have e1 : (⟨w.heap.size, 0, none⟩ : Addr).add j = ⟨w.heap.size, j, none⟩ := by unfold Addr.add; split <;> simp_all
      rw [e1, (Blk.new w e us).cell j]
      exact hj)
    hu hn hb (by simp; omega) ?_
  intro v' w' hown' hgr _ hat
  rcases hown'.2 with ⟨_, hz0⟩ | ⟨g', cap, cur, rfl, hb', hgg, hnc, hm, hsz', htk⟩
  · omega
  · refine h g' cap w' hown' (((Ch.refl _ w).alloc _).trans (Ch.grown (S := fun k => v.ownBlock = some k) (Ch.refl _ _) hgr (fun k hk _ => hk))) ?_
    rcases hat with hat | hat
    · exact .inl (by rw [← hat]; rfl)
    · have e : g' = w.heap.size + 1 := by simpa [Value.ownBlock] using hat
      exact .inr (by omega)

/-- what a round keeps: what lay below n₀, and the box of the receiver -/
def KpA (n₀ Bn : Nat) (W W' : World) : Prop := Below n₀ W W' ∧ W'.heap[Bn]? = W.heap[Bn]?
theorem KpA.trans {n₀ Bn : Nat} {A B C : World} (h : KpA n₀ Bn A B) (k : KpA n₀ Bn B C) : KpA n₀ Bn A C := ⟨h.1.trans k.1, k.2.trans h.2⟩
theorem KpA.of_no {n₀ Bn : Nat} {A B : World} (h : Ch No A B) (hn : n₀ ≤ A.heap.size) (hB : Bn < A.heap.size) : KpA n₀ Bn A B :=
  ⟨⟨h.os, h.tape, h.output, h.size, fun i hi => h.block i (Nat.lt_of_lt_of_le hi hn) (fun h => h)⟩, h.block Bn hB (fun h => h)⟩
theorem KpA.bk {n₀ Bn : Nat} {w : World} (hn : n₀ ≤ w.heap.size) (hB : Bn < w.heap.size) (W : World) (l : Nat) (o o' : Obj) (hl : w.heap.size ≤ l) (ho : W.heap[l]? = some o) (h1 : o.isCells = false) (h2 : o.isWalk = false) : KpA n₀ Bn W (W.putObj l o') :=
  ⟨belowK_b hn W l o o' hl ho h1 h2, (grownBy_putObj' W l o').block Bn (by have := (Array.getElem?_eq_some_iff.1 ho).1; omega) (by intro e; simp at e; omega)⟩

/-- a block of cells is left alone by whatever turns none -/
theorem blk_own {L : Nat} {t : TypeId} {vs : List Value} {X Y : World} {row : Option Nat} (h : Blk X L t vs) (hg : X.grownBy Y row) (hr : ∀ r, row = some r → ∃ o : Obj, X.heap[r]? = some o ∧ o.isCells = false) : Blk Y L t vs := by
  refine (hg.block L h.lt (fun e => ?_)).trans h
  obtain ⟨o, ho, hc⟩ := hr L e.symm
  rw [show X.heap[L]? = _ from h] at ho
  cases ho
  cases hc
theorem row_shape {w : World} {B n sz : Nat} {e : TypeId} {v : Value} {vs : List Value} (h : w.ownsRow B e sz v n vs) : ∃ A c, v = .slice A n c := by
  rcases h.2 with ⟨rfl, h0⟩ | ⟨g, cap, cur, rfl, _⟩
  · exact ⟨none, 0, by rw [h0]⟩
  · exact ⟨_, _, rfl⟩
theorem cells_new (w : World) (us : List Value) (t : TypeId) : ∀ j u, us[j]? = some u → (w.alloc (.cells us.toArray t)).cell? ((⟨w.heap.size, 0, none⟩ : Addr).add j) = some u := by
  intro j u hj
  have e1 : (⟨w.heap.size, 0, none⟩ : Addr).add j = ⟨w.heap.size, j, none⟩ := by unfold Addr.add; split <;> simp_all
  rw [e1, (Blk.new w t us).cell j]
  exact hj
end Go.Proofs.YtpjcfelknkddfaaDoor
