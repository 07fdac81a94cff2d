/- A region that draws its order, whose callees lay blocks of their own and change no old one: walked once, in the order of the text, from a class of worlds. -/
import Derived.Test.YtpjcfelknkddfaaDoorMem
import Derived.BigQuiet
namespace Go.Proofs.YtpjcfelknkddfaaDoor
open Go.RowKit

/-- a world that S lets in -/
structure In (S : World → Prop) where
  w : World
  h : S w

theorem wp_region_in {P : Program} (S : World → Prop) {id : Nat} {Q : Exit → Act → World → Prop} {a : Act} {w : World} {l : List Oper} (hm : P.follows .mixedOrders = true) (hB : Region.lexB .any l.toArray = true)
    (hS : S w) (hd : ∀ w, S w → S { w with drawn := w.drawn + 1 })
    (h : wpQuiet P l.toArray (fun w' => ∃ p : In S, w' = p.w) (fun a' => ∀ w', (∃ p : In S, w' = p.w) → Q .normal a' w') l a) : (Code.region id l.toArray true).wp P Q a w :=
  wp_region_quiet (C := fun w' => ∃ p : In S, w' = p.w) hm hB ⟨⟨_, hd w hS⟩, rfl⟩ (by simpa using h)

/-- what a callee leaves is of the class, too -/
theorem in_of {S : World → Prop} {P : Program} {f : FuncId} {args : Array Value} {p : In S} {v : Value} {T : World → World → Prop} (hT : ∀ a b, S a → T a b → S b)
    (h : Calls P f args p.w fun e w' => e = .returned v ∧ T p.w w') : Calls P f args p.w fun e w'' => e = .returned v ∧ ∃ q : In S, w'' = q.w :=
  h.mono fun _ w' ⟨he, hw⟩ => ⟨he, ⟨w', hT _ _ p.h hw⟩, rfl⟩

instance (S : Nat → Prop) (w : World) : Nonempty (In (Ch S w)) := ⟨⟨w, Ch.refl _ _⟩⟩

theorem ch_drawn {S : Nat → Prop} {a w : World} (h : Ch S a w) : Ch S a { w with drawn := w.drawn + 1 } := ⟨h.os, h.tape, h.output, h.size, h.block⟩

/-- a callee that turns no old block, met in the class 'nothing old has turned since w' -/
theorem in_ch {w : World} {P : Program} {f : FuncId} {args : Array Value} {p : In (Ch No w)} {v : Value}
    (h : Calls P f args p.w fun e w' => e = .returned v ∧ Ch No p.w w') : Calls P f args p.w fun e w'' => e = .returned v ∧ ∃ q : In (Ch No w), w'' = q.w :=
  in_of (T := Ch No) (fun _ _ h k => Ch.trans h k) h
/-- .. that leaves the very world -/
theorem in_same {w : World} {P : Program} {f : FuncId} {args : Array Value} {p : In (Ch No w)} {v : Value}
    (h : Calls P f args p.w fun e w' => e = .returned v ∧ w' = p.w) : Calls P f args p.w fun e w'' => e = .returned v ∧ ∃ q : In (Ch No w), w'' = q.w :=
  in_of (T := fun a b => b = a) (fun _ _ h k => k ▸ h) h
theorem in_cell {w : World} {a : Addr} {v : Value} (h : w.cell? a = some v) : ∀ p : In (Ch No w), p.w.cell? a = some v := fun p => p.h.cell h (fun h => h)

theorem cell_al {w : World} {a : Addr} {v : Value} (o : Obj) (h : w.cell? a = some v) : (w.alloc o).cell? a = some v := ((Ch.refl No w).alloc o).cell h (fun h => h)
theorem cell_nw {w : World} {c : Array Value} {t : TypeId} {n i : Nat} {v : Value} (hn : n = w.heap.size) (h : c[i]? = some v) : (w.alloc (.cells c t)).cell? ⟨n, i, none⟩ = some v := by
  subst hn
  rw [World.cell?_alloc_new]
  exact h

/-- a piece of code ends in one of the frames F with a world of R: what stands behind it is asked once, at all of them -/
theorem wp_mid {P : Program} {c : Code} {Q : Exit → Act → World → Prop} {a : Act} {w : World} {I : Type} (F : Act → I → Act) (R : I → World → Prop)
    (h1 : c.wp P (fun ex a' w' => ex = .normal ∧ ∃ i, a' = F a i ∧ R i w') a w) (h2 : ∀ i w', R i w' → Q .normal (F a i) w') : c.wp P Q a w :=
  Code.wp_mono (fun ex a' w' ⟨he, i, ha, hr⟩ => by subst he; subst ha; exact h2 i w' hr) h1
end Go.Proofs.YtpjcfelknkddfaaDoor
