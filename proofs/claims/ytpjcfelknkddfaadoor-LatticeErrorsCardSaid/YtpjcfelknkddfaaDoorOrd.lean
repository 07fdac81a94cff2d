/- regions that draw their order: loads that a LATER store of the same region spoils may still be taken first; and the way from a region's orders outside a round to those inside one. No program in sight. -/
import Derived.Test.YtpjcfelknkddfaaDoorIter
import Derived.OrdersHeld
import Derived.OrdersIn
import Derived.RangeFuncCalls
import Derived.OwnWalkIn
namespace Go.Proofs.YtpjcfelknkddfaaDoor
open Go Go.RowKit

section
variable {P : Program} {ops : Array Oper} {Q : Exit → Act → World → Prop} {md : Region.Mode}
/-- all orders; T is shown behind each operation as long as number s has not come up -/
def wpTill (P : Program) (md : Region.Mode) (ops : Array Oper) (Q : Exit → Act → World → Prop) (T : World → Prop) (s : Nat) : Nat → Array Bool → Act → World → Prop
  | 0, listed, a, w => Region.ready md ops listed = [] ∧ Q .normal a w
  | fuel + 1, listed, a, w => (Region.ready md ops listed = [] → Q .normal a w) ∧
      ∀ i ∈ Region.ready md ops listed, wpOp P ops Q i (fun a' w' => ((listed.setIfInBounds i true).getD s true = false → T w') ∧ wpTill P md ops Q T s fuel (listed.setIfInBounds i true) a' w') a w
theorem wpTill_any {T : World → Prop} {s : Nat} : ∀ (fuel : Nat) (listed : Array Bool) (a : Act) (w : World), wpTill P md ops Q T s fuel listed a w → wpAny P md ops Q fuel listed a w := by
  intro fuel
  induction fuel with
  | zero => exact fun _ _ _ h => h
  | succ n ih => exact fun listed a w h => ⟨h.1, fun i hi => wpOp_mono (fun a' w' k => ih _ a' w' k.2) (h.2 i hi)⟩
/-- each of the row waits for the one ahead of it, the first one for number i -/
def chainB (md : Region.Mode) (ops : Array Oper) : Nat → List Nat → Bool
  | _, [] => true
  | i, m :: ms => ((ops[m]?).map fun o => o.after.any fun e => Region.binds md e && e.on == i).getD false && chainB md ops m ms
theorem chain_not {listed : Array Bool} : ∀ (ms : List Nat) (i : Nat), chainB md ops i ms = true → listed.getD i true = false → (∀ m ∈ ms, listed.getD m true = false) → ∀ j ∈ Region.ready md ops listed, j ∉ ms := by
  intro ms
  induction ms with
  | nil => simp
  | cons m ms ih =>
    intro i hc hi hall j hj
    simp only [chainB, Bool.and_eq_true] at hc
    rw [List.mem_cons]
    rintro (rfl | hin)
    · obtain ⟨_, o, ho, hw⟩ := mem_ready.1 hj
      have h1 := hc.1
      rw [ho] at h1
      have h3 : (o.after.any fun e => Region.binds md e && e.on == i) = true := h1
      obtain ⟨e, he, heb⟩ := Array.any_eq_true'.1 h3
      simp only [Bool.and_eq_true, beq_iff_eq] at heb
      have h2 := hw e he heb.1
      rw [heb.2] at h2
      rcases Nat.lt_or_ge i listed.size with h' | h'
      · simp [h'] at hi h2
        rw [hi] at h2
        cases h2
      · simp [Array.getElem?_eq_none h'] at hi
    · exact ih m hc.2 (hall m (by simp)) (fun k hk => hall k (by simp [hk])) j hj hin
/-- an operation that yields v wherever T holds, and for which number s waits (itself, or through others), may be taken first -/
theorem wpTill_take {T : World → Prop} {s i : Nat} (ms : List Nat) {oi : Oper} {v : Value} (hi : ops[i]? = some oi) (hch : chainB md ops i ms = true) (hsm : ms.contains s = true) (hsel : Region.noSelect ops = true)
    (hQ : ∀ c a w, Q (.panic c) (a.put oi.dst v) w → Q (.panic c) a w) :
    ∀ (fuel : Nat) (listed : Array Bool) (a : Act) (w : World), Region.free md ops listed i = true → (Region.ready md ops listed).contains i = true → (ms.all fun m => !listed.getD m true) = true → YieldsIf P ops T oi v a → T w →
      wpTill P md ops Q T s fuel (listed.setIfInBounds i true) (a.put oi.dst v) w → wpTill P md ops Q T s (fuel + 1) listed a w := by
  have hns := Region.noSelect_spec hsel
  have hsm' : s ∈ ms := by simpa using hsm
  suffices H : ∀ (fuel : Nat) (listed : Array Bool) (a : Act) (w : World), (∀ j oj, ops[j]? = some oj → j ≠ i → listed.getD j true = false → (∀ e ∈ oj.after, Region.binds md e = true → e.on ≠ i) → oi.apart ops oj = true) →
      i ∈ Region.ready md ops listed → (∀ m ∈ ms, listed.getD m true = false) → YieldsIf P ops T oi v a → T w →
      wpTill P md ops Q T s fuel (listed.setIfInBounds i true) (a.put oi.dst v) w → wpTill P md ops Q T s (fuel + 1) listed a w from
    fun fuel listed a w hf hr hl => H fuel listed a w (Region.free_spec hi hf) (by simpa using hr) (fun m hm => by have := List.all_eq_true.1 hl m hm; simpa using this)
  intro fuel
  induction fuel with
  | zero =>
    intro listed a w _ hr hl hy hT H
    refine ⟨fun h => absurd hr (by simp [h]), fun j hj => ?_⟩
    by_cases hji : j = i
    · subst hji
      exact hy.wpOp hi hT ⟨fun _ => hT, H⟩
    · have := ready_mono hj hji
      rw [H.1] at this
      cases this
  | succ fuel ih =>
    intro listed a w hfree hr hl hy hT H
    refine ⟨fun h => absurd hr (by simp [h]), fun j hj => ?_⟩
    by_cases hji : j = i
    · subst hji
      exact hy.wpOp hi hT ⟨fun _ => hT, H⟩
    have hiun := (mem_ready.1 hr).1
    have hjm := chain_not ms i hch hiun hl j hj
    have him := chain_not ms i hch hiun hl i hr
    have hjs : j ≠ s := fun e => hjm (e ▸ hsm')
    have his : i ≠ s := fun e => him (e ▸ hsm')
    obtain ⟨hjun, oj, hoj, hall⟩ := mem_ready.1 hj
    have hnot : ∀ e ∈ oj.after, Region.binds md e = true → e.on ≠ i := by
      intro e he hb heq
      have h1 := hall e he hb
      rw [heq] at h1
      rcases Nat.lt_or_ge i listed.size with h' | h'
      · simp [h'] at hiun h1
        rw [hiun] at h1
        cases h1
      · simp [Array.getElem?_eq_none h'] at hiun
    refine wpOp_mono (fun a' w' h3 => ?_) (wpOp_putIf hoj (hfree j oj hoj hji hjun hnot) (fun cs b => hns i oi cs b hi) (fun cs b => hns j oj cs b hoj) hQ hy (H.2 j (ready_mono hj hji)))
    obtain ⟨hy', hT', hK⟩ := h3
    have hT1 : T w' := hT' (by rw [getD_set_ne true hjs, getD_set_ne true his]; exact hl s hsm')
    refine ⟨fun _ => hT1, ih (listed.setIfInBounds j true) a' w' ?_ (ready_mono hr (Ne.symm hji)) (fun m hm => by rw [getD_set_ne true (by rintro rfl; exact hjm hm)]; exact hl m hm) hy' hT1 (by rw [Array.setIfInBounds_comm _ _ hji]; exact hK)⟩
    intro k ok hk hki hun hno
    refine hfree k ok hk hki ?_ hno
    by_cases hjk : j = k
    · subst hjk; exact hjun
    · rw [getD_set_ne true hjk] at hun; exact hun
/-- whichever may come up, comes up -/
theorem wpTill_one {T : World → Prop} {s : Nat} {rs : List Nat} {fuel : Nat} {listed : Array Bool} {a : Act} {w : World} (hr : Region.ready md ops listed = rs) (hne : rs ≠ [])
    (h : ∀ i ∈ rs, wpOp P ops Q i (fun a' w' => ((listed.setIfInBounds i true).getD s true = false → T w') ∧ wpTill P md ops Q T s fuel (listed.setIfInBounds i true) a' w') a w) : wpTill P md ops Q T s (fuel + 1) listed a w :=
  ⟨fun h0 => absurd (hr ▸ h0) hne, hr ▸ h⟩
theorem wpTill_done {T : World → Prop} {s : Nat} {listed : Array Bool} {a : Act} {w : World} (hr : Region.ready md ops listed = []) (h : Q .normal a w) : ∀ fuel, wpTill P md ops Q T s fuel listed a w
  | 0 => ⟨hr, h⟩
  | _ + 1 => ⟨fun _ => h, by rw [hr]; simp⟩
/-- one operation, what follows behind a letter -/
theorem wpTill_step {T : World → Prop} {s : Nat} {fuel : Nat} {listed : Array Bool} {a : Act} {w : World} {i : Nat} {o : Oper} (ho : ops[i]? = some o)
    (h : ∀ K' : Act → World → Prop, Hid (∀ a w, ((listed.setIfInBounds i true).getD s true = false → T w) → wpTill P md ops Q T s fuel (listed.setIfInBounds i true) a w → K' a w) → if Region.wanted o (yielded ops a.tmps) = true then Oper.wp P o a w K' Q else K' (a.put o.dst undef) w) :
    wpOp P ops Q i (fun a' w' => ((listed.setIfInBounds i true).getD s true = false → T w') ∧ wpTill P md ops Q T s fuel (listed.setIfInBounds i true) a' w') a w :=
  wpOp_step ho (fun K' hK => h K' (Lib.hid (fun a w h1 h2 => hK a w ⟨h1, h2⟩)))

/-- the one that may come up, comes up -/
theorem wpTill_1 {T : World → Prop} {s i : Nat} {o : Oper} {fuel : Nat} {listed : Array Bool} {a : Act} {w : World} (ho : ops[i]? = some o) (hr : (Region.ready md ops listed == [i]) = true)
    (h : ∀ K' : Act → World → Prop, Hid (∀ a w, ((listed.setIfInBounds i true).getD s true = false → T w) → wpTill P md ops Q T s fuel (listed.setIfInBounds i true) a w → K' a w) → if Region.wanted o (yielded ops a.tmps) = true then Oper.wp P o a w K' Q else K' (a.put o.dst undef) w) : wpTill P md ops Q T s (fuel + 1) listed a w :=
  wpTill_one (eq_of_beq hr) (by simp) (fun j hj => by
    have hj' : j = i := by simpa using hj
    subst hj'
    exact wpTill_step ho h)

/-- from outside a round to inside one -/
theorem oper_inRound {o : Oper} {a : Act} {w : World} {K : Act → World → Prop} {n l : Nat} (hnd : ∀ c, o.op ≠ .defer c) (h : o.wp P a w K Q) : o.wpIn (Fence.wide.inRound l) n P a w K Q := by
  refine ⟨fun f _ => trivial, ?_⟩
  rw [Oper.semAt_plain _ _ _ hnd]
  unfold Oper.wp at h
  generalize (execOp a.eval o).run P w = r at h
  cases r with
  | ok nx w' =>
    cases nx with
    | enter f xs => exact ⟨fun hh => by simp [Fence.wide] at hh, (callsIn_wide.2 h).inRound l⟩
    | row rr xs =>
      refine ⟨fun hh => by simp [Fence.wide] at hh, fun c cs _ => ?_⟩
      obtain ⟨v, w2, hr, hs⟩ := h c cs
      exact ⟨v, w2, hr, stepsIn_wide.2 hs⟩
    | round => exact False.elim h
    | _ => exact h
  | halt x w' => cases x <;> exact h
theorem any_inRound {n l : Nat} (hnd : ∀ o ∈ ops, ∀ c, o.op ≠ .defer c) (hQ : ¬ LetsOut Q) : ∀ (fuel : Nat) (listed : Array Bool) (a : Act) (w : World), wpAny P md ops Q fuel listed a w → wpAnyIn (Fence.wide.inRound l) n P md ops Q fuel listed a w := by
  intro fuel
  induction fuel with
  | zero => exact fun _ _ _ h => h
  | succ k ih =>
    intro listed a w h
    refine ⟨h.1, fun i hi => ?_⟩
    have h1 := wpOp_mono (fun a' w' => ih (listed.setIfInBounds i true) a' w') (h.2 i hi)
    unfold wpOp at h1
    unfold wpOpIn
    cases ho : ops[i]? with
    | none => rw [ho] at h1; exact h1
    | some o =>
      rw [ho] at h1
      simp only at h1 ⊢
      by_cases hw : Region.wanted o (yielded ops a.tmps) = true
      · rw [if_pos hw] at h1 ⊢
        exact oper_inRound (hnd o (Array.mem_of_getElem? ho)) (h1.resolve_right (fun h => hQ h.2))
      · rw [if_neg hw] at h1 ⊢
        exact ⟨fun _ _ => trivial, h1⟩
/-- a region inside a round, by its orders outside of one -/
theorem region_inRound {T : World → Prop} {s id n l : Nat} {a : Act} {w : World} {X : Act → World → Prop} (hm : P.follows .mixedOrders = true) (hnd : (ops.all fun o => match o.op with | .defer _ => false | _ => true) = true)
    (hX : ∀ a w, X a w → Q .normal a w) (h : T w.drew → wpTill P .any ops (fun e a w => e = .normal ∧ X a w) T s ops.size (Array.replicate ops.size false) a w.drew) (hT : T w.drew) : (Code.region id ops true).wpIn (Fence.wide.inRound l) n P Q a w := by
  refine wpIn_mono (Q := fun e a w => e = .normal ∧ X a w) (wpIn_region_any hm (any_inRound (fun o ho c hc => ?_) ?_ _ _ _ _ (wpTill_any _ _ _ _ (h hT)))) (fun e a w h => by obtain ⟨rfl, hx⟩ := h; exact hX a w hx)
  · have := Array.all_eq_true'.1 hnd o ho
    rw [hc] at this
    cases this
  · rintro ⟨a, w, h, _⟩
    cases h
end
end Go.Proofs.YtpjcfelknkddfaaDoor
