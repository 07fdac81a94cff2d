/- A region that draws its order, whose callees lay blocks of their own and change no old one: walked once, in the order of the text, from a class of worlds. -/
import Derived.Test.YtjjeafedlnfhfaaMem
import Derived.BigQuiet
namespace Go.Proofs.Ytjjeafedlnfhfaa
open Go.RowKit

/-- a world that S lets in -/
structure In (S : World → Prop) where
  w : World
  h : S w

theorem wp_region_in {P : Program} (S : World → Prop) {id : Nat} {Q : Exit → Act → World → Prop} {a : Act} {w : World} {l : List Oper} (hm : P.follows .mixedOrders = true) (hB : Region.lexB .any l.toArray = true)
    (hS : S w) (hd : ∀ w, S w → S { w with drawn := w.drawn + 1 })
    (h : wpQuiet P l.toArray (fun w' => ∃ p : In S, w' = p.w) (fun a' => ∀ w', (∃ p : In S, w' = p.w) → Q .normal a' w') l a) : (Code.region id l.toArray true).wp P Q a w :=
  wp_region_quiet (C := fun w' => ∃ p : In S, w' = p.w) hm hB ⟨⟨_, hd w hS⟩, rfl⟩ (by simpa using h)

/-- what a callee leaves is of the class, too -/
theorem in_of {S : World → Prop} {P : Program} {f : FuncId} {args : Array Value} {p : In S} {v : Value} {T : World → World → Prop} (hT : ∀ a b, S a → T a b → S b)
    (h : Calls P f args p.w fun e w' => e = .returned v ∧ T p.w w') : Calls P f args p.w fun e w'' => e = .returned v ∧ ∃ q : In S, w'' = q.w :=
  h.mono fun _ w' ⟨he, hw⟩ => ⟨he, ⟨w', hT _ _ p.h hw⟩, rfl⟩

instance (S : Nat → Prop) (w : World) : Nonempty (In (Ch S w)) := ⟨⟨w, Ch.refl _ _⟩⟩

theorem ch_drawn {S : Nat → Prop} {a w : World} (h : Ch S a w) : Ch S a { w with drawn := w.drawn + 1 } := ⟨h.os, h.tape, h.output, h.size, h.block⟩

/-- a callee that turns no old block, met in the class 'nothing old has turned since w' -/
theorem in_ch {w : World} {P : Program} {f : FuncId} {args : Array Value} {p : In (Ch No w)} {v : Value}
    (h : Calls P f args p.w fun e w' => e = .returned v ∧ Ch No p.w w') : Calls P f args p.w fun e w'' => e = .returned v ∧ ∃ q : In (Ch No w), w'' = q.w :=
  in_of (T := Ch No) (fun _ _ h k => Ch.trans h k) h
/-- .. that leaves the very world -/
theorem in_same {w : World} {P : Program} {f : FuncId} {args : Array Value} {p : In (Ch No w)} {v : Value}
    (h : Calls P f args p.w fun e w' => e = .returned v ∧ w' = p.w) : Calls P f args p.w fun e w'' => e = .returned v ∧ ∃ q : In (Ch No w), w'' = q.w :=
  in_of (T := fun a b => b = a) (fun _ _ h k => k ▸ h) h
theorem in_cell {w : World} {a : Addr} {v : Value} (h : w.cell? a = some v) : ∀ p : In (Ch No w), p.w.cell? a = some v := fun p => p.h.cell h (fun h => h)

theorem cell_al {w : World} {a : Addr} {v : Value} (o : Obj) (h : w.cell? a = some v) : (w.alloc o).cell? a = some v := ((Ch.refl No w).alloc o).cell h (fun h => h)
theorem cell_nw {w : World} {c : Array Value} {t : TypeId} {n i : Nat} {v : Value} (hn : n = w.heap.size) (h : c[i]? = some v) : (w.alloc (.cells c t)).cell? ⟨n, i, none⟩ = some v := by
  subst hn
  rw [World.cell?_alloc_new]
  exact h
/-- a cell of a block laid lately: 'refl' at the newest, else below the newest one -/
macro "new_cell" : tactic => `(tactic| repeat (first | (simp; done) | assumption | (refine cell_nw ?_ ?_; focus (simp; done)) | apply cell_al))

macro "go_in" : tactic => `(tactic| refine wp_region_in (Ch No _) (by kernel_rfl) (by kernel_rfl) (Ch.refl _ _) (fun _ h => ch_drawn h) ?_)
/-- the same for a region of more operations than one list holds -/
macro "go_in_long" : tactic => `(tactic| (simp only [List.append_eq, List.cons_append, List.nil_append]; refine wp_region_in (Ch No _) (by kernel_rfl) (by kernel_rfl) (Ch.refl _ _) (fun _ h => ch_drawn h) ?_))
macro "go_in_step " "(" tac:tactic ")" : tactic => `(tactic| go_big_quiet_step ($tac:tactic))
open Lean Meta Elab Tactic in
/-- says where a walk has stopped: the operation, and the slots that it reads -/
elab "go_in_show" : tactic => withMainContext do
  let t := (← instantiateMVars (← (← getMainGoal).getType)).consumeMData
  unless t.isAppOfArity ``wpQuiet 6 do throwError "no quiet walk: {t}"
  let l := t.getAppArgs[4]!
  if l.isAppOfArity ``List.cons 3 then logInfo m!"AT {l.getArg! 1}" else logInfo m!"AT its end: {l}"
  let a := t.getAppArgs[5]!
  if let some slots := BigFrame.slotsOf a then
    let o := (l.getArg! 1)
    if o.isAppOfArity ``Oper.mk 6 then
      for (n, _) in BigFrame.tmpsOf (o.getArg! 1) #[] do logInfo m!"  t{n} = {slots.getD n (mkConst ``undef)}"
/-- a piece of code ends in one of the frames F with a world of R: what stands behind it is asked once, at all of them -/
theorem wp_mid {P : Program} {c : Code} {Q : Exit → Act → World → Prop} {a : Act} {w : World} {I : Type} (F : Act → I → Act) (R : I → World → Prop)
    (h1 : c.wp P (fun ex a' w' => ex = .normal ∧ ∃ i, a' = F a i ∧ R i w') a w) (h2 : ∀ i w', R i w' → Q .normal (F a i) w') : c.wp P Q a w :=
  Code.wp_mono (fun ex a' w' ⟨he, i, ha, hr⟩ => by subst he; subst ha; exact h2 i w' hr) h1
/-- what S says (cells, and that nothing old has turned), anew behind an operation of a region -/
macro "keep_ch" : tactic => `(tactic| (repeat' (refine And.intro ?_ ?_)) <;> (first | assumption | (simp [*]; done) | ((repeat (first | assumption | exact Ch.refl _ _ | apply Ch.drew | apply Ch.alloc | (refine Ch.trans ?_ (by assumption)))); done) | ((repeat (first | assumption | (simp [*]; done) | apply cell_al | (refine Ch.cell (by assumption) ?_ (fun h => h)))); done)))
macro "go_in_end" : tactic => `(tactic| (refine wpQuiet_nil ?_; intro _ hw'; obtain ⟨$(Lean.mkIdent `pw):ident, hw''⟩ := hw'; subst hw''))
end Go.Proofs.Ytjjeafedlnfhfaa
