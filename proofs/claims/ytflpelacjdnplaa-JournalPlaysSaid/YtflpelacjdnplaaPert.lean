/- a region that draws its order: operations and calls that yield ONE value in whatever world may be taken first, if what is shown of the worlds stands whatever new is laid. No program in sight. -/
import Derived.Test.YtflpelacjdnplaaTill
namespace Go.Proofs.Ytflpelacjdnplaa
open Go Go.RowKit

section
variable {P : Program} {ops : Array Oper} {Q : Exit → Act → World → Prop} {md : Region.Mode}
/-- the run of an operation comes to this value, and turns nothing old -/
def QuietR (P : Program) (w : World) (v : Value) : Result Next → Prop
  | .ok (.value u) w' => u = v ∧ Ch No w w'
  | .ok (.enter f args) w' => Calls P f args w' fun e w'' => e = .returned v ∧ Ch No w w''
  | _ => False
def YieldsC (P : Program) (ops : Array Oper) (T : World → Prop) (o : Oper) (v : Value) (a : Act) : Prop :=
  (Region.wanted o (yielded ops a.tmps) = true ∧ ∀ w, T w → QuietR P w v ((execOp a.eval o).run P w)) ∨ (Region.wanted o (yielded ops a.tmps) = false ∧ v = undef)
theorem YieldsC.of_same {T : World → Prop} {o : Oper} {v : Value} {a a' : Act} (hy : YieldsC P ops T o v a) (he : execOp a'.eval o = execOp a.eval o) (hw : Region.wanted o (yielded ops a'.tmps) = Region.wanted o (yielded ops a.tmps)) : YieldsC P ops T o v a' := by
  unfold YieldsC at *
  rw [he, hw]
  exact hy
theorem YieldsC.wpOp {T : World → Prop} {i : Nat} {o : Oper} {v : Value} {a : Act} (hi : ops[i]? = some o) (hy : YieldsC P ops T o v a) {K : Act → World → Prop} {w : World} (hT : T w) (h : ∀ w', Ch No w w' → K (a.put o.dst v) w') : wpOp P ops Q i K a w := by
  unfold Go.wpOp
  simp only [hi]
  rcases hy with ⟨hw, hv⟩ | ⟨hw, rfl⟩
  · simp only [hw, if_true, Oper.wp]
    refine .inl ?_
    have h1 := hv w hT
    generalize (execOp a.eval o).run P w = r at *
    cases r with
    | ok n w' =>
      cases n <;> simp only [QuietR] at h1
      case value u =>
        obtain ⟨rfl, hc⟩ := h1
        exact h _ hc
      case enter f args =>
        refine Calls.mono h1 fun e w'' he => ?_
        obtain ⟨rfl, hc⟩ := he
        exact h _ hc
    | halt x w' => simp only [QuietR] at h1
  · simp only [hw, Bool.false_eq_true, if_false]
    exact h _ (Ch.refl _ _)
theorem wpOp_putC {T : World → Prop} {j : Nat} {oi oj : Oper} {v : Value} (hj : ops[j]? = some oj) (hap : oi.apart ops oj = true)
    (hsi : ∀ cs b, oi.op ≠ .select cs b) (hsj : ∀ cs b, oj.op ≠ .select cs b)
    (hQ : ∀ c a w, Q (.panic c) (a.put oi.dst v) w → Q (.panic c) a w) {K : Act → World → Prop} {a : Act} {w : World}
    (hy : YieldsC P ops T oi v a) (h : wpOp P ops Q j K (a.put oi.dst v) w) :
    wpOp P ops Q j (fun a' w' => YieldsC P ops T oi v a' ∧ K (a'.put oi.dst v) w') a w := by
  obtain ⟨h1, h2, h3⟩ := Oper.apart_spec hap
  have keep : ∀ (a : Act), YieldsC P ops T oi v a → ∀ u, YieldsC P ops T oi v (a.put oj.dst u) := fun a hy u =>
    hy.of_same (execOp_put oi hsi a oj.dst u h3) (wanted_put oi a oj.dst u h3)
  have keepD : ∀ d, YieldsC P ops T oi v { a with defers := d :: a.defers } := fun d => hy.of_same rfl rfl
  unfold Go.wpOp at *
  simp only [hj] at *
  rw [wanted_put oj a oi.dst v h1] at h
  split
  · rename_i hw
    simp only [hw, if_true] at h
    rcases h with h | ⟨hasks, hlets⟩
    case inr => exact .inr ⟨by unfold Oper.asks at *; rw [execOp_put oj hsj a oi.dst v h1] at hasks; exact hasks, hlets⟩
    refine .inl ?_
    unfold Oper.wp at *
    rw [execOp_put oj hsj a oi.dst v h1] at h
    generalize (execOp a.eval oj).run P w = r at *
    cases r with
    | ok n w' =>
      cases n <;> simp only [Oper.upon] at h ⊢
      case value u => exact ⟨keep a hy u, by rw [← Act.put_comm a v u h2]; exact h⟩
      case skip => exact ⟨keep a hy _, by rw [← Act.put_comm a v undef h2]; exact h⟩
      case defer d =>
        refine ⟨keep _ (keepD d) _, ?_⟩
        rw [← Act.put_comm _ v undef h2, ← Act.put_defers]
        exact h
      case enter f args =>
        refine Calls.mono h fun e w'' he => ?_
        cases e with
        | returned u => exact ⟨keep a hy u, by rw [← Act.put_comm a v u h2]; exact he⟩
        | panicked c => exact hQ _ _ _ he
        | outgrown => exact he
      case row row args => exact Rows.mono h fun u w'' he => ⟨keep a hy u, by rw [← Act.put_comm a v u h2]; exact he⟩
    | halt x w' =>
      cases x <;> simp only [Oper.upon] at h ⊢
      case panic u => exact hQ _ _ _ h
  · rename_i hw
    simp only [hw] at h
    exact ⟨keep a hy _, by rw [← Act.put_comm a v undef h2]; exact h⟩
/-- all orders; between any two operations whatever may be laid anew; T is shown behind each operation as long as number s has not come up -/
def wpP (P : Program) (md : Region.Mode) (ops : Array Oper) (Q : Exit → Act → World → Prop) (T : World → Prop) (s : Nat) : Nat → Array Bool → Act → World → Prop
  | 0, listed, a, w => Region.ready md ops listed = [] ∧ ∀ w', Ch No w w' → Q .normal a w'
  | fuel + 1, listed, a, w => ∀ w', Ch No w w' → (Region.ready md ops listed = [] → Q .normal a w') ∧
      ∀ i ∈ Region.ready md ops listed, wpOp P ops Q i (fun a' w'' => ((listed.setIfInBounds i true).getD s true = false → T w'') ∧ wpP P md ops Q T s fuel (listed.setIfInBounds i true) a' w'') a w'
theorem wpP_any {T : World → Prop} {s : Nat} : ∀ (fuel : Nat) (listed : Array Bool) (a : Act) (w : World), wpP P md ops Q T s fuel listed a w → wpAny P md ops Q fuel listed a w := by
  intro fuel
  induction fuel with
  | zero => exact fun _ _ w h => ⟨h.1, h.2 w (Ch.refl _ _)⟩
  | succ n ih => exact fun listed a w h => ⟨(h w (Ch.refl _ _)).1, fun i hi => wpOp_mono (fun a' w' k => ih _ a' w' k.2) ((h w (Ch.refl _ _)).2 i hi)⟩
theorem wpP_ch {T : World → Prop} {s : Nat} {fuel : Nat} {listed : Array Bool} {a : Act} {w w1 : World} (h : wpP P md ops Q T s fuel listed a w) (hc : Ch No w w1) : wpP P md ops Q T s fuel listed a w1 := by
  cases fuel with
  | zero => exact ⟨h.1, fun w' h' => h.2 w' (hc.trans h')⟩
  | succ n => exact fun w' h' => h w' (hc.trans h')
theorem wpP_take {T : World → Prop} {s i : Nat} (ms : List Nat) {oi : Oper} {v : Value} (hi : ops[i]? = some oi) (hch : chainB md ops i ms = true) (hsm : ms.contains s = true) (hsel : Region.noSelect ops = true) (hst : ∀ w w', T w → Ch No w w' → T w')
    (hQ : ∀ c a w, Q (.panic c) (a.put oi.dst v) w → Q (.panic c) a w) :
    ∀ (fuel : Nat) (listed : Array Bool) (a : Act) (w : World), Region.free md ops listed i = true → (Region.ready md ops listed).contains i = true → (ms.all fun m => !listed.getD m true) = true → YieldsC P ops T oi v a → T w →
      wpP P md ops Q T s fuel (listed.setIfInBounds i true) (a.put oi.dst v) w → wpP P md ops Q T s (fuel + 1) listed a w := by
  have hns := Region.noSelect_spec hsel
  have hsm' : s ∈ ms := by simpa using hsm
  suffices H : ∀ (fuel : Nat) (listed : Array Bool) (a : Act) (w : World), (∀ j oj, ops[j]? = some oj → j ≠ i → listed.getD j true = false → (∀ e ∈ oj.after, Region.binds md e = true → e.on ≠ i) → oi.apart ops oj = true) →
      i ∈ Region.ready md ops listed → (∀ m ∈ ms, listed.getD m true = false) → YieldsC P ops T oi v a → T w →
      wpP P md ops Q T s fuel (listed.setIfInBounds i true) (a.put oi.dst v) w → wpP P md ops Q T s (fuel + 1) listed a w from
    fun fuel listed a w hf hr hl => H fuel listed a w (Region.free_spec hi hf) (by simpa using hr) (fun m hm => by have := List.all_eq_true.1 hl m hm; simpa using this)
  intro fuel
  induction fuel with
  | zero =>
    intro listed a w _ hr hl hy hT H w1 hw1
    refine ⟨fun h => absurd hr (by simp [h]), fun j hj => ?_⟩
    by_cases hji : j = i
    · subst hji
      exact hy.wpOp hi (hst _ _ hT hw1) fun w2 hw2 => ⟨fun _ => hst _ _ (hst _ _ hT hw1) hw2, wpP_ch H (hw1.trans hw2)⟩
    · have := ready_mono hj hji
      rw [H.1] at this
      cases this
  | succ fuel ih =>
    intro listed a w hfree hr hl hy hT H w1 hw1
    refine ⟨fun h => absurd hr (by simp [h]), fun j hj => ?_⟩
    by_cases hji : j = i
    · subst hji
      exact hy.wpOp hi (hst _ _ hT hw1) fun w2 hw2 => ⟨fun _ => hst _ _ (hst _ _ hT hw1) hw2, wpP_ch H (hw1.trans hw2)⟩
    have hiun := (mem_ready.1 hr).1
    have hjm := chain_not ms i hch hiun hl j hj
    have him := chain_not ms i hch hiun hl i hr
    have hjs : j ≠ s := fun e => hjm (e ▸ hsm')
    have his : i ≠ s := fun e => him (e ▸ hsm')
    obtain ⟨hjun, oj, hoj, hall⟩ := mem_ready.1 hj
    have hnot : ∀ e ∈ oj.after, Region.binds md e = true → e.on ≠ i := by
      intro e he hb heq
      have h1 := hall e he hb
      rw [heq] at h1
      rcases Nat.lt_or_ge i listed.size with h' | h'
      · simp [h'] at hiun h1
        rw [hiun] at h1
        cases h1
      · simp [Array.getElem?_eq_none h'] at hiun
    refine wpOp_mono (fun a' w' h3 => ?_) (wpOp_putC hoj (hfree j oj hoj hji hjun hnot) (fun cs b => hns i oi cs b hi) (fun cs b => hns j oj cs b hoj) hQ hy ((H w1 hw1).2 j (ready_mono hj hji)))
    obtain ⟨hy', hT', hK⟩ := h3
    have hT1 : T w' := hT' (by rw [getD_set_ne true hjs, getD_set_ne true his]; exact hl s hsm')
    refine ⟨fun _ => hT1, ih (listed.setIfInBounds j true) a' w' ?_ (ready_mono hr (Ne.symm hji)) (fun m hm => by rw [getD_set_ne true (by rintro rfl; exact hjm hm)]; exact hl m hm) hy' hT1 (by rw [Array.setIfInBounds_comm _ _ hji]; exact hK)⟩
    intro k ok hk hki hun hno
    refine hfree k ok hk hki ?_ hno
    by_cases hjk : j = k
    · subst hjk; exact hjun
    · rw [getD_set_ne true hjk] at hun; exact hun
/-- whichever may come up, comes up, in a world in which more may have been laid -/
theorem wpP_one {T : World → Prop} {s : Nat} {rs : List Nat} {fuel : Nat} {listed : Array Bool} {a : Act} {w : World} (hr : Region.ready md ops listed = rs) (hne : rs ≠ [])
    (h : ∀ w', Ch No w w' → ∀ i ∈ rs, wpOp P ops Q i (fun a' w'' => ((listed.setIfInBounds i true).getD s true = false → T w'') ∧ wpP P md ops Q T s fuel (listed.setIfInBounds i true) a' w'') a w') : wpP P md ops Q T s (fuel + 1) listed a w :=
  fun w' hw' => ⟨fun h0 => absurd (hr ▸ h0) hne, hr ▸ h w' hw'⟩
theorem wpP_done {T : World → Prop} {s : Nat} {listed : Array Bool} {a : Act} {w : World} (hr : Region.ready md ops listed = []) (h : ∀ w', Ch No w w' → Q .normal a w') : ∀ fuel, wpP P md ops Q T s fuel listed a w
  | 0 => ⟨hr, h⟩
  | _ + 1 => fun w' hw' => ⟨fun _ => h w' hw', by rw [hr]; simp⟩
theorem wpP_step {T : World → Prop} {s : Nat} {fuel : Nat} {listed : Array Bool} {a : Act} {w : World} {i : Nat} {o : Oper} (ho : ops[i]? = some o)
    (h : ∀ K' : Act → World → Prop, Hid (∀ a w, ((listed.setIfInBounds i true).getD s true = false → T w) → wpP P md ops Q T s fuel (listed.setIfInBounds i true) a w → K' a w) → if Region.wanted o (yielded ops a.tmps) = true then Oper.wp P o a w K' Q else K' (a.put o.dst undef) w) :
    wpOp P ops Q i (fun a' w' => ((listed.setIfInBounds i true).getD s true = false → T w') ∧ wpP P md ops Q T s fuel (listed.setIfInBounds i true) a' w') a w :=
  wpOp_step ho (fun K' hK => h K' (Lib.hid (fun a w h1 h2 => hK a w ⟨h1, h2⟩)))
/-- the one that may come up, comes up -/
theorem wpP_1 {T : World → Prop} {s i : Nat} {o : Oper} {fuel : Nat} {listed : Array Bool} {a : Act} {w : World} (ho : ops[i]? = some o) (hr : (Region.ready md ops listed == [i]) = true)
    (h : ∀ w', Ch No w w' → ∀ K' : Act → World → Prop, Hid (∀ a w, ((listed.setIfInBounds i true).getD s true = false → T w) → wpP P md ops Q T s fuel (listed.setIfInBounds i true) a w → K' a w) → if Region.wanted o (yielded ops a.tmps) = true then Oper.wp P o a w' K' Q else K' (a.put o.dst undef) w') : wpP P md ops Q T s (fuel + 1) listed a w :=
  wpP_one (eq_of_beq hr) (by simp) (fun w' hw' j hj => by
    have hj' : j = i := by simpa using hj
    subst hj'
    exact wpP_step ho (h w' hw'))
theorem region_pert {T : World → Prop} {s id : Nat} {a : Act} {w : World} (hm : P.follows .mixedOrders = true)
    (h : T w.drew → wpP P .any ops (fun e a w => e = .normal ∧ Q .normal a w) T s ops.size (Array.replicate ops.size false) a w.drew) (hT : T w.drew) : (Code.region id ops true).wp P Q a w :=
  Code.wp_mono (Q := fun e a w => e = .normal ∧ Q .normal a w) (fun e a w h => by obtain ⟨rfl, hx⟩ := h; exact hx) (wp_region_any hm (wpP_any _ _ _ _ (h hT)))
/-- a call, met at the run of its operation -/
theorem quiet_enter {w w' : World} {v : Value} {f : FuncId} {args : Array Value} (h : Calls P f args w' fun e w'' => e = .returned v ∧ Ch No w w'') : QuietR P w v (.ok (.enter f args) w') := h
theorem quiet_value {w : World} {v : Value} : QuietR P w v (.ok (.value v) w) := ⟨rfl, Ch.refl _ _⟩
/-- an operation whose guard stands open goes as one without, at a step -/
theorem step_unguard {a : Act} {w : World} {K : Act → World → Prop} {E E' : Prop} {o : Oper} (hw : Region.wanted o (yielded ops a.tmps) = true) (h : if Region.wanted { o with guard := none } (yielded ops a.tmps) = true then Oper.wp P { o with guard := none } a w K Q else E') : if Region.wanted o (yielded ops a.tmps) = true then Oper.wp P o a w K Q else E := by
  rw [if_pos hw]
  rw [if_pos (by simp [Region.wanted])] at h
  exact h
end
end Go.Proofs.Ytflpelacjdnplaa
