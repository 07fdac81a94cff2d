/- The order of the text serves every order: the check of it by a quicker reckoning (one look at each pair), for long regions. -/
import Derived.Test.YtjjeafedlnfhfaaQuiet
namespace Go.Proofs.Ytjjeafedlnfhfaa
open Go.RowKit

def edgeOk (k : Nat) (o : Oper) : Bool := o.after.all fun e => !Region.binds .any e || Nat.blt e.on k
def pairOk (ops : Array Oper) (k : Nat) (oi oj : Oper) : Bool := oj.after.any (fun e => Region.binds .any e && Nat.beq e.on k) || oi.apart ops oj
def lexF (ops : Array Oper) : Nat → List Oper → Bool
  | _, [] => true
  | k, o :: rest => edgeOk k o && (rest.all (pairOk ops k o) && lexF ops (Nat.succ k) rest)

theorem listed_getD {listed : Array Bool} {n k j : Nat} (d : Bool) (hl : ∀ j, j < n → listed[j]? = some (decide (j < k))) (hj : j < n) : listed.getD j d = decide (j < k) := by
  rw [Array.getD_eq_getD_getElem?, hl j hj]
  rfl

theorem wpAnyQ_lexF {P : Program} {ops : Array Oper} {C : World → Prop} {Q : Act → Prop} (hs : Region.noSelect ops = true) : ∀ (l : List Oper) (k : Nat) (listed : Array Bool) (a : Act), listed.size = ops.size → (∀ j, j < ops.size → listed[j]? = some (decide (j < k))) → (∀ j, l[j]? = ops[k + j]?) →
    lexF ops k l = true → wpQuiet P ops C Q l a → wpAnyQ P .any ops C Q l.length listed a
  | [], k, listed, a, hsz, hli, hl, _, h => by
    refine ⟨List.eq_nil_iff_forall_not_mem.2 fun j hj => ?_, h⟩
    obtain ⟨h1, o, ho, _⟩ := mem_ready.1 hj
    have hlt : j < ops.size := (Array.getElem?_eq_some_iff.1 ho).1
    rw [listed_getD true hli hlt] at h1
    have hk : k ≤ j := by simpa using h1
    have h2 := hl (j - k)
    rw [show k + (j - k) = j from by omega, ho] at h2
    simp at h2
  | o :: l, k, listed, a, hsz, hli, hl, hB, h => by
    have h0 : ops[k]? = some o := by simpa using (hl 0).symm
    have hk : k < ops.size := (Array.getElem?_eq_some_iff.1 h0).1
    unfold lexF at hB
    simp only [Bool.and_eq_true] at hB
    obtain ⟨he, hp, hB'⟩ := hB
    have hst : qOp P ops C k (wpQuiet P ops C Q l) a := by unfold qOp; simp only [h0]; exact h
    obtain ⟨v, hy, hK⟩ := yieldsIn_of_qOp h0 hst
    refine wpAnyQ_first h0 (Region.noSelect_spec hs) l.length listed a ?_ ?_ hy ?_
    · intro j oj hj hne hun hno
      have hlt : j < ops.size := (Array.getElem?_eq_some_iff.1 hj).1
      rw [listed_getD true hli hlt] at hun
      have hkj : k < j := by
        have : ¬ j < k := by simpa using hun
        omega
      have hm : l[j - k - 1]? = some oj := by
        have := hl (j - k)
        rw [show k + (j - k) = j from by omega, hj, show j - k = (j - k - 1) + 1 from by omega, List.getElem?_cons_succ] at this
        exact this
      have hpo := List.all_eq_true.1 hp oj (List.mem_of_getElem? hm)
      unfold pairOk at hpo
      rw [Bool.or_eq_true] at hpo
      rcases hpo with hpo | hpo
      · obtain ⟨e, he, hb⟩ := Array.any_eq_true'.1 hpo
        rw [Bool.and_eq_true] at hb
        exact absurd (Nat.eq_of_beq_eq_true hb.2) (hno e he hb.1)
      · exact hpo
    · refine mem_ready.2 ⟨?_, o, h0, fun e hem hb => ?_⟩
      · rw [listed_getD true hli hk]; simp
      · have := Array.all_eq_true_iff_forall_mem.1 he e hem
        rw [hb] at this
        have hon : e.on < k := by simpa [Nat.blt_eq] using this
        rw [listed_getD false hli (by omega)]
        simpa using hon
    · refine wpAnyQ_lexF hs l (k + 1) _ _ (by simpa using hsz) ?_ (fun j => by have := hl (j + 1); simpa [Nat.add_assoc, Nat.add_comm 1 j] using this) hB' hK
      intro j hj
      by_cases hjk : j = k
      · subst hjk
        simp [hsz, hj]
      · rw [Array.getElem?_setIfInBounds_ne (by omega), hli j hj]
        congr 1
        rw [decide_eq_decide]
        omega

theorem wp_region_inF {P : Program} (S : World → Prop) {id : Nat} {Q : Exit → Act → World → Prop} {a : Act} {w : World} {l : List Oper} (hm : P.follows .mixedOrders = true) (hs : Region.noSelect l.toArray = true) (hB : lexF l.toArray 0 l = true)
    (hS : S w) (hd : ∀ w, S w → S { w with drawn := w.drawn + 1 })
    (h : wpQuiet P l.toArray (fun w' => ∃ p : In S, w' = p.w) (fun a' => ∀ w', (∃ p : In S, w' = p.w) → Q .normal a' w') l a) : (Code.region id l.toArray true).wp P Q a w := by
  refine wp_region_any hm (wpAny_of_quiet (C := fun w' => ∃ p : In S, w' = p.w) (Q := fun a' => ∀ w', (∃ p : In S, w' = p.w) → Q .normal a' w') (fun _ w' hw' h => h w' hw') _ _ _ _ ⟨⟨_, hd w hS⟩, rfl⟩ ?_)
  have := wpAnyQ_lexF (P := P) (ops := l.toArray) (C := fun w' => ∃ p : In S, w' = p.w) hs l 0 (Array.replicate l.toArray.size false) a (by simp) (fun j hj => by simp at hj; simp [hj]) (by simp) hB h
  simpa using this

/-- a region of more operations than one list holds -/
macro "go_in_far" : tactic => `(tactic| (simp only [List.append_eq, List.cons_append, List.nil_append]; refine wp_region_inF (Ch No _) (by kernel_rfl) (by kernel_rfl) (by kernel_rfl) (Ch.refl _ _) (fun _ h => ch_drawn h) ?_))
end Go.Proofs.Ytjjeafedlnfhfaa
