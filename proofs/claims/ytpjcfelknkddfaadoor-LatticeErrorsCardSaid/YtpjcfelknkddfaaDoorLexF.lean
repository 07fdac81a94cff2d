/- The order of the text serves every order: the check of it by a quicker reckoning (one look at each pair), for long regions. -/
import Derived.Test.YtpjcfelknkddfaaDoorQuiet
namespace Go.Proofs.YtpjcfelknkddfaaDoor
open Go.RowKit

def edgeOk (k : Nat) (o : Oper) : Bool := o.after.all fun e => !Region.binds .any e || Nat.blt e.on k
def pairOk (ops : Array Oper) (k : Nat) (oi oj : Oper) : Bool := oj.after.any (fun e => Region.binds .any e && Nat.beq e.on k) || oi.apart ops oj
def lexF (ops : Array Oper) : Nat → List Oper → Bool
  | _, [] => true
  | k, o :: rest => edgeOk k o && (rest.all (pairOk ops k o) && lexF ops (Nat.succ k) rest)

theorem listed_getD {listed : Array Bool} {n k j : Nat} (d : Bool) (hl : ∀ j, j < n → listed[j]? = some (decide (j < k))) (hj : j < n) : listed.getD j d = decide (j < k) := by
  rw [Array.getD_eq_getD_getElem?, hl j hj]
  rfl

theorem wpAnyQ_lexF {P : Program} {ops : Array Oper} {C : World → Prop} {Q : Act → Prop} (hs : Region.noSelect ops = true) : ∀ (l : List Oper) (k : Nat) (listed : Array Bool) (a : Act), listed.size = ops.size → (∀ j, j < ops.size → listed[j]? = some (decide (j < k))) → (∀ j, l[j]? = ops[k + j]?) →
    lexF ops k l = true → wpQuiet P ops C Q l a → wpAnyQ P .any ops C Q l.length listed a
  | [], k, listed, a, hsz, hli, hl, _, h => by
    refine ⟨List.eq_nil_iff_forall_not_mem.2 fun j hj => ?_, h⟩
    obtain ⟨h1, o, ho, _⟩ := mem_ready.1 hj
    have hlt : j < ops.size := (Array.getElem?_eq_some_iff.1 ho).1
    rw [listed_getD true hli hlt] at h1
    have hk : k ≤ j := by simpa using h1
    have h2 := hl (j - k)
    rw [show k + (j - k) = j from by omega, ho] at h2
    simp at h2
  | o :: l, k, listed, a, hsz, hli, hl, hB, h => by
    have h0 : ops[k]? = some o := by simpa using (hl 0).symm
    have hk : k < ops.size := (Array.getElem?_eq_some_iff.1 h0).1
    unfold lexF at hB
    simp only [Bool.and_eq_true] at hB
    obtain ⟨he, hp, hB'⟩ := hB
    have hst : qOp P ops C k (wpQuiet P ops C Q l) a := by unfold qOp; simp only [h0]; exact h
    obtain ⟨v, hy, hK⟩ := yieldsIn_of_qOp h0 hst
    refine wpAnyQ_first h0 (Region.noSelect_spec hs) l.length listed a ?_ ?_ hy ?_
    · intro j oj hj hne hun hno
      have hlt : j < ops.size := (Array.getElem?_eq_some_iff.1 hj).1
      rw [listed_getD true hli hlt] at hun
      have hkj : k < j := by
        have : ¬ j < k := by simpa using hun
        omega
      have hm : l[j - k - 1]? = some oj := by
        have := hl (j - k)
        rw [show k + (j - k) = j from by omega, hj, show j - k = (j - k - 1) + 1 from by omega, List.getElem?_cons_succ] at this
        exact this
      have hpo := List.all_eq_true.1 hp oj (List.mem_of_getElem? hm)
      unfold pairOk at hpo
      rw [Bool.or_eq_true] at hpo
      rcases hpo with hpo | hpo
      · obtain ⟨e, he, hb⟩ := Array.any_eq_true'.1 hpo
        rw [Bool.and_eq_true] at hb
        exact absurd (Nat.eq_of_beq_eq_true hb.2) (hno e he hb.1)
      · exact hpo
    · refine mem_ready.2 ⟨?_, o, h0, fun e hem hb => ?_⟩
      · rw [listed_getD true hli hk]; simp
      · have := Array.all_eq_true_iff_forall_mem.1 he e hem
        rw [hb] at this
        have hon : e.on < k := by simpa [Nat.blt_eq] using this
        rw [listed_getD false hli (by omega)]
        simpa using hon
    · refine wpAnyQ_lexF hs l (k + 1) _ _ (by simpa using hsz) ?_ (fun j => by have := hl (j + 1); simpa [Nat.add_assoc, Nat.add_comm 1 j] using this) hB' hK
      intro j hj
      by_cases hjk : j = k
      · subst hjk
        simp [hsz, hj]
      · rw [Array.getElem?_setIfInBounds_ne (by omega), hli j hj]
        congr 1
        rw [decide_eq_decide]
        omega

theorem wp_region_inF {P : Program} (S : World → Prop) {id : Nat} {Q : Exit → Act → World → Prop} {a : Act} {w : World} {l : List Oper} (hm : P.follows .mixedOrders = true) (hs : Region.noSelect l.toArray = true) (hB : lexF l.toArray 0 l = true)
    (hS : S w) (hd : ∀ w, S w → S { w with drawn := w.drawn + 1 })
    (h : wpQuiet P l.toArray (fun w' => ∃ p : In S, w' = p.w) (fun a' => ∀ w', (∃ p : In S, w' = p.w) → Q .normal a' w') l a) : (Code.region id l.toArray true).wp P Q a w := by
  refine wp_region_any hm (wpAny_of_quiet (C := fun w' => ∃ p : In S, w' = p.w) (Q := fun a' => ∀ w', (∃ p : In S, w' = p.w) → Q .normal a' w') (fun _ w' hw' h => h w' hw') _ _ _ _ ⟨⟨_, hd w hS⟩, rfl⟩ ?_)
  have := wpAnyQ_lexF (P := P) (ops := l.toArray) (C := fun w' => ∃ p : In S, w' = p.w) hs l 0 (Array.replicate l.toArray.size false) a (by simp) (fun j hj => by simp at hj; simp [hj]) (by simp) hB h
  simpa using this

section tail
variable {P : Program} {ops : Array Oper} {C : World → Prop} {Qm : Act → Prop} {n : Nat}

/-- the first n operations in whatever order, quietly; then Qm -/
def wpPre (P : Program) (ops : Array Oper) (C : World → Prop) (Qm : Act → Prop) (n : Nat) : Nat → Array Bool → Act → Prop
  | 0, listed, a => (∀ j, j < ops.size → listed[j]? = some (decide (j < n))) ∧ Qm a
  | fuel + 1, listed, a => Region.ready .any ops listed ≠ [] ∧ ∀ i ∈ Region.ready .any ops listed, qOp P ops C i (wpPre P ops C Qm n fuel (listed.setIfInBounds i true)) a

/-- from the n-th on each waits for all that stand ahead of it -/
def Waits (ops : Array Oper) (n : Nat) : Prop := ∀ j o, ops[j]? = some o → n ≤ j → ∀ i, i < j → ∃ e ∈ o.after, Region.binds .any e = true ∧ e.on = i

theorem wpPre_first {i : Nat} {oi : Oper} {v : Value} (hi : ops[i]? = some oi) (hin : i < n) (hw : Waits ops n) (hsel : ∀ (j : Nat) (o : Oper) cs b, ops[j]? = some o → o.op ≠ .select cs b) :
    ∀ (fuel : Nat) (listed : Array Bool) (a : Act), listed.size = ops.size →
      (∀ j oj, ops[j]? = some oj → j ≠ i → listed.getD j true = false → (∀ e ∈ oj.after, Region.binds .any e = true → e.on ≠ i) → oi.apart ops oj = true) →
      i ∈ Region.ready .any ops listed → YieldsIn P ops C oi v a →
      wpPre P ops C Qm n fuel (listed.setIfInBounds i true) (a.put oi.dst v) → wpPre P ops C Qm n (fuel + 1) listed a := by
  intro fuel
  induction fuel with
  | zero =>
    intro listed a hsz _ hr hy H
    refine ⟨fun h => (by rw [h] at hr; cases hr), fun j hj => ?_⟩
    by_cases hji : j = i
    · subst hji; exact hy.qOp hi H
    · exfalso
      obtain ⟨hjun, oj, hoj, hall⟩ := mem_ready.1 hj
      obtain ⟨hiun, _⟩ := mem_ready.1 hr
      have hjs : j < ops.size := (Array.getElem?_eq_some_iff.1 hoj).1
      have his : i < ops.size := (Array.getElem?_eq_some_iff.1 hi).1
      have h1 := H.1 j hjs
      rw [Array.getElem?_setIfInBounds_ne (fun e => hji e.symm)] at h1
      rw [Array.getD_eq_getD_getElem?, h1] at hjun
      have hnj : n ≤ j := by simpa using hjun
      obtain ⟨e, hem, hb, hon⟩ := hw j oj hoj hnj i (by omega)
      have h2 := hall e hem hb
      rw [hon, Array.getD_eq_getD_getElem?, Array.getElem?_eq_getElem (by omega)] at h2
      rw [Array.getD_eq_getD_getElem?, Array.getElem?_eq_getElem (by omega)] at hiun
      simp at h2 hiun
      rw [h2] at hiun
      cases hiun
  | succ fuel ih =>
    intro listed a hsz hfree hr hy H
    refine ⟨fun h => (by rw [h] at hr; cases hr), fun j hj => ?_⟩
    by_cases hji : j = i
    · subst hji; exact hy.qOp hi H
    · have h1 := H.2 j (ready_mono hj hji)
      obtain ⟨hjun, oj, hoj, hall⟩ := mem_ready.1 hj
      have hnot : ∀ e ∈ oj.after, Region.binds .any e = true → e.on ≠ i := fun e he hb heq => by
        have h1 := hall e he hb
        have h0 := (mem_ready.1 hr).1
        rw [heq] at h1
        rcases Nat.lt_or_ge i listed.size with h' | h'
        · simp [h'] at h0 h1; rw [h0] at h1; cases h1
        · simp [Array.getElem?_eq_none h'] at h1
      have h2 := qOp_put hoj (hfree j oj hoj hji hjun hnot) (fun cs b => hsel i oi cs b hi) (fun cs b => hsel j oj cs b hoj) hy h1
      have hfree' : ∀ k ok, ops[k]? = some ok → k ≠ i → (listed.setIfInBounds j true).getD k true = false →
          (∀ e ∈ ok.after, Region.binds .any e = true → e.on ≠ i) → oi.apart ops ok = true := fun k ok hk hki hun hno => by
        refine hfree k ok hk hki ?_ hno
        by_cases hjk : j = k
        · subst hjk; exact hjun
        · rw [getD_set_ne true hjk] at hun; exact hun
      refine qOp_mono (fun a' h3 => ih (listed.setIfInBounds j true) a' (by simpa using hsz) hfree' (ready_mono hr (Ne.symm hji)) h3.1 ?_) h2
      rw [Array.setIfInBounds_comm _ _ hji]
      exact h3.2

/-- the order of the text for the first n -/
theorem wpPre_lex (hs : Region.noSelect ops = true) (hw : Waits ops n) : ∀ (l : List Oper) (k : Nat) (listed : Array Bool) (a : Act), listed.size = ops.size → (∀ j, j < ops.size → listed[j]? = some (decide (j < k))) → k + l.length = n → n ≤ ops.size → (∀ j, j < l.length → l[j]? = ops[k + j]?) →
    (∀ j o, k ≤ j → j < n → ops[j]? = some o → edgeOk j o = true ∧ ∀ i oi, i > j → ops[i]? = some oi → pairOk ops j o oi = true) → wpQuiet P ops C Qm l a → wpPre P ops C Qm n l.length listed a
  | [], k, listed, a, hsz, hli, hk, hn, hl, _, h => by
    simp at hk
    subst hk
    exact ⟨hli, h⟩
  | o :: l, k, listed, a, hsz, hli, hk, hn, hl, hB, h => by
    simp at hk
    have h0 : ops[k]? = some o := by simpa using (hl 0 (by simp)).symm
    have hks : k < ops.size := (Array.getElem?_eq_some_iff.1 h0).1
    obtain ⟨he, hp⟩ := hB k o (Nat.le_refl k) (by omega) h0
    have hst : qOp P ops C k (wpQuiet P ops C Qm l) a := by unfold qOp; simp only [h0]; exact h
    obtain ⟨v, hy, hK⟩ := yieldsIn_of_qOp h0 hst
    refine wpPre_first h0 (by omega) hw (Region.noSelect_spec hs) l.length listed a hsz ?_ ?_ hy ?_
    · intro j oj hj hne hun hno
      have hlt : j < ops.size := (Array.getElem?_eq_some_iff.1 hj).1
      rw [listed_getD true hli hlt] at hun
      have hkj : k < j := by
        have : ¬ j < k := by simpa using hun
        omega
      have hpo := hp j oj hkj hj
      unfold pairOk at hpo
      rw [Bool.or_eq_true] at hpo
      rcases hpo with hpo | hpo
      · obtain ⟨e, he, hb⟩ := Array.any_eq_true'.1 hpo
        rw [Bool.and_eq_true] at hb
        exact absurd (Nat.eq_of_beq_eq_true hb.2) (hno e he hb.1)
      · exact hpo
    · refine mem_ready.2 ⟨?_, o, h0, fun e hem hb => ?_⟩
      · rw [listed_getD true hli hks]; simp
      · have := Array.all_eq_true_iff_forall_mem.1 he e hem
        rw [hb] at this
        have hon : e.on < k := by simpa [Nat.blt_eq] using this
        rw [listed_getD false hli (by omega)]
        simpa using hon
    · refine wpPre_lex hs hw l (k + 1) _ _ (by simpa using hsz) ?_ (by omega) hn (fun j hj => by have := hl (j + 1) (by simp; omega); simpa [Nat.add_assoc, Nat.add_comm 1 j] using this) (fun j o hj => hB j o (by omega)) hK
      intro j hj
      by_cases hjk : j = k
      · subst hjk
        simp [hsz, hj]
      · rw [Array.getElem?_setIfInBounds_ne (by omega), hli j hj]
        congr 1
        rw [decide_eq_decide]
        omega

variable {Q : Exit → Act → World → Prop}
/-- the tail: each waits for all ahead of it: one order alone -/
theorem wpAny_tail (hw : Waits ops n) : ∀ (l : List Oper) (k : Nat) (listed : Array Bool) (a : Act) (w : World), n ≤ k → listed.size = ops.size → (∀ j, j < ops.size → listed[j]? = some (decide (j < k))) → (∀ j, l[j]? = ops[k + j]?) → k + l.length = ops.size →
    (∀ j o, n ≤ j → ops[j]? = some o → edgeOk j o = true) → wpList P ops Q l a w → wpAny P .any ops Q l.length listed a w
  | [], k, listed, a, w, hnk, hsz, hli, hl, hk, he, h => by
    simp at hk
    refine ⟨List.eq_nil_iff_forall_not_mem.2 fun j hj => ?_, h⟩
    obtain ⟨h1, o, ho, _⟩ := mem_ready.1 hj
    have hlt : j < ops.size := (Array.getElem?_eq_some_iff.1 ho).1
    rw [listed_getD true hli hlt] at h1
    have : ¬ j < k := by simpa using h1
    omega
  | o :: l, k, listed, a, w, hnk, hsz, hli, hl, hk, he, h => by
    simp at hk
    have h0 : ops[k]? = some o := by simpa using (hl 0).symm
    have hks : k < ops.size := (Array.getElem?_eq_some_iff.1 h0).1
    have hrk : k ∈ Region.ready .any ops listed := by
      refine mem_ready.2 ⟨?_, o, h0, fun e hem hb => ?_⟩
      · rw [listed_getD true hli hks]; simp
      · have := Array.all_eq_true_iff_forall_mem.1 (he k o hnk h0) e hem
        rw [hb] at this
        have hon : e.on < k := by simpa [Nat.blt_eq] using this
        rw [listed_getD false hli (by omega)]
        simpa using hon
    refine ⟨fun h => (by rw [h] at hrk; cases hrk), fun j hj => ?_⟩
    obtain ⟨h1, oj, hoj, hall⟩ := mem_ready.1 hj
    have hlt : j < ops.size := (Array.getElem?_eq_some_iff.1 hoj).1
    rw [listed_getD true hli hlt] at h1
    have hjk : ¬ j < k := by simpa using h1
    by_cases hje : j = k
    · subst hje
      have hnext : ∀ a w, wpList P ops Q l a w → wpAny P .any ops Q l.length (listed.setIfInBounds j true) a w := fun a w hh => by
        refine wpAny_tail hw l (j + 1) _ a w (by omega) (by simpa using hsz) ?_ (fun i => by have := hl (i + 1); simpa [Nat.add_assoc, Nat.add_comm 1 i] using this) (by omega) he hh
        intro i hi
        by_cases hij : i = j
        · subst hij
          simp [hsz, hi]
        · rw [Array.getElem?_setIfInBounds_ne (by omega), hli i hi]
          congr 1
          rw [decide_eq_decide]
          omega
      unfold wpList at h
      unfold wpOp
      simp only [h0]
      split
      · rename_i hwa
        rw [if_pos hwa] at h
        exact h.imp (fun h => Oper.wp_mono hnext h) id
      · rename_i hwa
        rw [if_neg hwa] at h
        exact hnext _ _ h
    · exfalso
      obtain ⟨e, hem, hb, hon⟩ := hw j oj hoj (by omega) k (by omega)
      have h2 := hall e hem hb
      rw [hon, listed_getD false hli hks] at h2
      simp at h2

theorem wpAny_of_pre (hw : Waits ops n) (m : Nat) (hend : ∀ listed a w, listed.size = ops.size → (∀ j, j < ops.size → listed[j]? = some (decide (j < n))) → C w → Qm a → wpAny P .any ops Q m listed a w) :
    ∀ (fuel : Nat) (listed : Array Bool) (a : Act) (w : World), listed.size = ops.size → C w → wpPre P ops C Qm n fuel listed a → wpAny P .any ops Q (fuel + m) listed a w
  | 0, listed, a, w, hsz, hC, h => by rw [Nat.zero_add]; exact hend listed a w hsz h.1 hC h.2
  | fuel + 1, listed, a, w, hsz, hC, h => by
    rw [Nat.add_right_comm]
    exact ⟨fun h0 => absurd h0 h.1, fun i hi => wpOp_of_qOp hC (fun a' w' hw' h' => wpAny_of_pre hw m hend fuel _ a' w' (by simpa using hsz) hw' h') (h.2 i hi)⟩
end tail

/-- each of these waits for all ahead of it -/
def waitsF : Nat → List Oper → Bool
  | _, [] => true
  | j, o :: rest => (List.range j).all (fun i => o.after.any fun e => Region.binds .any e && Nat.beq e.on i) && waitsF (Nat.succ j) rest
theorem waitsF_spec : ∀ (l : List Oper) (j : Nat), waitsF j l = true → ∀ m o, l[m]? = some o → ∀ i, i < j + m → ∃ e ∈ o.after, Region.binds .any e = true ∧ e.on = i
  | [], _, _, m, o, ho, _, _ => by simp at ho
  | x :: l, j, h, m, o, ho, i, hi => by
    unfold waitsF at h
    rw [Bool.and_eq_true] at h
    cases m with
    | zero =>
      simp at ho
      subst ho
      have := List.all_eq_true.1 h.1 i (List.mem_range.2 (by omega))
      obtain ⟨e, he, hb⟩ := Array.any_eq_true'.1 this
      rw [Bool.and_eq_true] at hb
      exact ⟨e, he, hb.1, Nat.eq_of_beq_eq_true hb.2⟩
    | succ m =>
      simp at ho
      exact waitsF_spec l (j + 1) h.2 m o ho i (by omega)

theorem lexF_spec {ops : Array Oper} : ∀ (l : List Oper) (k : Nat), lexF ops k l = true → ∀ m o, l[m]? = some o → edgeOk (k + m) o = true ∧ ∀ i oi, i > m → l[i]? = some oi → pairOk ops (k + m) o oi = true
  | [], _, _, m, o, ho => by simp at ho
  | x :: l, k, h, m, o, ho => by
    unfold lexF at h
    simp only [Bool.and_eq_true] at h
    obtain ⟨h1, h2, h3⟩ := h
    cases m with
    | zero =>
      simp at ho
      subst ho
      refine ⟨h1, fun i oi hi hoi => ?_⟩
      obtain ⟨i', rfl⟩ : ∃ i', i = i' + 1 := ⟨i - 1, by omega⟩
      simp at hoi
      exact List.all_eq_true.1 h2 oi (List.mem_of_getElem? hoi)
    | succ m =>
      simp at ho
      obtain ⟨h4, h5⟩ := lexF_spec l (k + 1) h3 m o ho
      rw [show k + (m + 1) = k + 1 + m from by omega]
      refine ⟨h4, fun i oi hi hoi => ?_⟩
      obtain ⟨i', rfl⟩ : ∃ i', i = i' + 1 := ⟨i - 1, by omega⟩
      simp at hoi
      exact h5 i' oi (by omega) hoi

/-- A region whose first n operations are quiet, and whose others wait each for all ahead of it. -/
theorem wp_region_tail {P : Program} (S : World → Prop) (n : Nat) {id : Nat} {Q : Exit → Act → World → Prop} {a : Act} {w : World} {l : List Oper} (hm : P.follows .mixedOrders = true) (hs : Region.noSelect l.toArray = true) (hB : lexF l.toArray 0 l = true)
    (hn : Nat.ble n l.length = true) (hW : waitsF n (l.drop n) = true)
    (hS : S w) (hd : ∀ w, S w → S { w with drawn := w.drawn + 1 })
    (h : wpQuiet P l.toArray (fun w' => ∃ p : In S, w' = p.w) (fun a' => ∀ w', S w' → wpList P l.toArray Q (l.drop n) a' w') (l.take n) a) : (Code.region id l.toArray true).wp P Q a w := by
  have hn' : n ≤ l.length := Nat.le_of_ble_eq_true hn
  have hsz : l.toArray.size = l.length := by simp
  have hwait : Waits l.toArray n := by
    intro j o ho hj i hi
    refine waitsF_spec (l.drop n) n hW (j - n) o ?_ i (by omega)
    rw [List.getElem?_drop, show n + (j - n) = j from by omega]
    simpa using ho
  have hlex : ∀ j o, l.toArray[j]? = some o → edgeOk j o = true ∧ ∀ i oi, i > j → l.toArray[i]? = some oi → pairOk l.toArray j o oi = true := by
    intro j o ho
    have := lexF_spec l 0 hB j o (by simpa using ho)
    rw [Nat.zero_add] at this
    exact ⟨this.1, fun i oi hi hoi => this.2 i oi hi (by simpa using hoi)⟩
  refine wp_region_any hm ?_
  have hpre := wpPre_lex (P := P) (ops := l.toArray) (C := fun w' => ∃ p : In S, w' = p.w) (n := n) hs hwait (l.take n) 0 (Array.replicate l.toArray.size false) a (by simp) (fun j hj => by simp at hj; simp [hj]) (by simp; omega) (by simpa using hn')
    (fun j hj => by simp at hj; rw [List.getElem?_take_of_lt (by omega)]; simp) (fun j o _ _ ho => hlex j o ho) h
  have hfin := wpAny_of_pre (P := P) (Q := Q) hwait (l.length - n) (fun listed a' w' hls hli hC hq => by
    obtain ⟨p, rfl⟩ := hC
    have := wpAny_tail (P := P) (Q := Q) hwait (l.drop n) n listed a' p.w (Nat.le_refl n) hls hli (fun j => by simp) (by simp; omega) (fun j o _ ho => (hlex j o ho).1) (hq p.w p.h)
    simpa using this) (l.take n).length _ a _ (by simp) ⟨⟨_, hd w hS⟩, rfl⟩ hpre
  have e : (l.take n).length + (l.length - n) = l.toArray.size := by simp; omega
  rw [e] at hfin
  exact hfin


end Go.Proofs.YtpjcfelknkddfaaDoor
