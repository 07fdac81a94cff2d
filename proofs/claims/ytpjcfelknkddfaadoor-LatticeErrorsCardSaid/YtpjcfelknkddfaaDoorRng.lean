/- A range over a function whose body is told what lies behind what is yielded; of the caller's own book-keeping the iterator is told that it lies as it lay. No program in sight. -/
import Derived.Test.YtpjcfelknkddfaaDoorIter
namespace Go.Proofs.YtpjcfelknkddfaaDoor
open Go Go.RowKit

section
variable {F : Fence} {n : Nat} {P : Program}

/-- an iterator's word: wherever it yields x, R x holds; a round that goes on has kept Kp; whatever is no cells, from the iterator's own first block on, lies as it lay -/
def SeqR {α : Type} (F : Fence) (n : Nat) (P : Program) (g : Nat) (lb : Array Value) (encs : α → Array Value) (Kp : Nat → World → World → Prop) (R : Nat → α → World → Prop) (S Sp : List α → Prop) (N : Nat) (w : World) : Prop :=
  ∀ (l : Nat) (J Jx : List α → World → Prop) (W : World), Below w.heap.size w W → OwnFrom W.heap.size J → OwnFrom W.heap.size Jx →
    (∀ pre x W1, J pre W1 → R W.heap.size x W1 → pre.length < N → YieldAt F (n - 1) P l (encs x) W1 fun e W' =>
      (e = .returned (.bool true) ∧ J (pre ++ [x]) W' ∧ Kp W.heap.size W1 W' ∧ KeepsFrom W.heap.size W1 W') ∨ (e = .returned (.bool false) ∧ Jx (pre ++ [x]) W' ∧ KeepsFrom W.heap.size W1 W')) →
    J [] W →
    CallsIn F n P g (#[.func (.yield l) #[] #[]] ++ lb) W fun e W' => (∃ v, e = .returned v) ∧ ((∃ xs, S xs ∧ J xs W') ∨ (∃ pre, Sp pre ∧ Jx pre W'))

/-- the loop's two blocks: the record r at D + 1, the deferred calls' at D -/
structure Two (D : Nat) (r : Loop) (W : World) : Prop where
  lp : W.heap[D + 1]? = some (.loop r)
  df : W.heap[D]? = some (.deferred (some []))
theorem Two.lt {D : Nat} {r : Loop} {W : World} (h : Two D r W) : D + 1 < W.heap.size := (Array.getElem?_eq_some_iff.1 h.lp).1
theorem Two.far {D : Nat} {r : Loop} {A B : World} {row : Option Nat} (h : Two D r A) (hg : A.grownBy B row) (hr : ∀ k, row = some k → D + 2 ≤ k) : Two D r B :=
  ⟨(hg.block _ h.lt (fun e => by have := hr _ e.symm; omega)).trans h.lp, (hg.block _ (by have := h.lt; omega) (fun e => by have := hr _ e.symm; omega)).trans h.df⟩
theorem Two.put {D : Nat} {r : Loop} {W : World} (h : Two D r W) (r' : Loop) : Two D r' (W.putObj (D + 1) (.loop r')) :=
  ⟨World.putObj_heap_same h.lt, (World.putObj_heap_other (by omega)).trans h.df⟩
theorem Two.body {D : Nat} {r : Loop} {W W' : World} (h : Two D r W) (hk : KeepsFrom D W W') : Two D r W' :=
  ⟨hk.same _ _ (by omega) h.lp rfl, hk.same _ _ (Nat.le_refl _) h.df rfl⟩
theorem keeps_mono {B C : Nat} {W W' : World} (h : KeepsFrom B W W') (hB : B ≤ C) : KeepsFrom C W W' := ⟨h.size, fun k o hk => h.same k o (Nat.le_trans hB hk)⟩
theorem keeps_put {D l : Nat} {W W' V : World} {o o' : Obj} (hl : l < D) (hk : KeepsFrom D (W.putObj l o) W') (hV : V = W'.putObj l o') : KeepsFrom D W V := by
  subst hV
  refine ⟨by have := hk.size; simpa using this, fun k q hD hq hc => ?_⟩
  have h1 : (W.putObj l o).heap[k]? = some q := (World.putObj_heap_other (by omega)).trans hq
  exact (World.putObj_heap_other (by omega)).trans (hk.same k q hD h1 hc)

theorem range_R {α : Type} {g : Operand} {ps : Array Tmp} {assign body : Code} {Q : Exit → Act → World → Prop} {a : Act} {w : World}
    (hro : F.round = none) (h1 : 1 ≤ n) {gf : Nat} {lb : Array Value} (hg : a.eval g = .func (.func gf) #[] lb) (hFg : F.fn gf) (eg : ∀ args w, (callFunc gf args).run P w = .ok (.enter gf args) w)
    {encs : α → Array Value} {Kp : Nat → World → World → Prop} {R : Nat → α → World → Prop} {S Sp : List α → Prop} {N : Nat} {w0 : World} (hseq : SeqR F (n - 1) P gf lb encs Kp R S Sp N w0)
    (hKt : ∀ {A B C : World}, Kp (w.heap.size + 2) A B → Kp (w.heap.size + 2) B C → Kp (w.heap.size + 2) A C) (hKb : ∀ (W : World) (o o' : Obj), W.heap[w.heap.size + 1]? = some o → o.isCells = false → o.isWalk = false → Kp (w.heap.size + 2) W (W.putObj (w.heap.size + 1) o')) (hb0 : Below w0.heap.size w0 w) (hps : ∀ x, (encs x).size = ps.size)
    (I : List α → World → Prop) (Ix : Code → List α → World → Prop) (hI : OwnFrom w.heap.size I) (hIx : ∀ c, OwnFrom w.heap.size (Ix c)) (hR : ∀ x, OwnFrom w.heap.size (fun (_ : Unit) W => R (w.heap.size + 2) x W)) (h0 : I [] w) (a₁ : α → Act)
    (hassign : ∀ (l : Nat) (x : α) (W : World) (K : Act → World → Prop), K (a₁ x) W →
      assign.wpIn (F.inRound l) (n - 1 - 1) P (Exit.then K (fun _ _ _ => False)) { tmps := (ps.zip (encs x)).foldl (fun t (p, v) => t.setIfInBounds p v) a.tmps, defers := [] } W)
    (hbody : ∀ (l : Nat) (pre : List α) (x : α) (W : World), I pre W → R (w.heap.size + 2) x W → pre.length < N → body.wpIn (F.inRound l) (n - 1 - 1) P (ownPostG w.heap.size (Kp (w.heap.size + 2)) I Ix (pre ++ [x]) W) (a₁ x) W)
    (hdone : ∀ (D : Nat) (xs : List α) (W : World), w.heap.size ≤ D → S xs → I xs W → W.heap[D]? = some (.deferred (some [])) → Q .normal { a with defers := { target := .collected D, args := #[] } :: a.defers } W)
    (hstop : ∀ (D : Nat) (c : Code) (pre : List α) (W : World), w.heap.size ≤ D → Sp pre → Ix c pre W → W.heap[D]? = some (.deferred (some [])) → c.wpIn F n P Q { a with defers := { target := .collected D, args := #[] } :: a.defers } W) :
    (Code.rangeFunc g ps assign body).wpIn F n P Q a w := by
  refine wpIn_rangeFunc fun fn hfn => ?_
  rw [hro]
  obtain ⟨rc, hrc⟩ : ∃ rc : LoopState → Option Code → Loop, rc = fun st j => { state := st, pending := j, fn := fn, tmps := a.tmps, params := ps, assign := assign, body := body, defers := w.heap.size } := ⟨_, rfl⟩
  obtain ⟨V, hV⟩ : ∃ V, (w.alloc (.deferred (some []))).alloc (.loop (rc .ready none)) = V := ⟨_, rfl⟩
  have hT : Two w.heap.size (rc .ready none) V := by
    rw [← hV]
    refine ⟨?_, ?_⟩
    · have := World.alloc_heap_new (w.alloc (.deferred (some []))) (.loop (rc .ready none))
      rwa [World.size_alloc] at this
    · exact (Below.heap_alloc _ _ _ (by simp)).trans (World.alloc_heap_new w _)
  have hVs : V.heap.size = w.heap.size + 2 := by rw [← hV]; simp
  refine ⟨w.heap.size + 1, [{ target := .collected w.heap.size, args := #[] }], V, { target := .fn (.func gf) lb, args := #[.func (.yield (w.heap.size + 1)) #[] #[]] }, V, gf, #[.func (.yield (w.heap.size + 1)) #[] #[]] ++ lb, V, ?_, ?_, ?_, ?_, fun _ => h1, ?_⟩
  · rw [← hV, hrc]
    exact run_enterLoop_outer _ _ _ _ _
  · simp only [resolve, hg]
    simp [go_sem]
  · intro f' hf'
    simp [Target.leads] at hf'
    subst hf'
    exact hFg
  · simp [invoke, go_sem, eg]
  have lift : ∀ {A B : World} {row : Option Nat}, (∀ r, row = some r → V.heap.size ≤ r ∧ ∃ o : Obj, A.heap[r]? = some o ∧ o.isCells = false) → (∀ r, row = some r → w.heap.size ≤ r ∧ ∃ o : Obj, A.heap[r]? = some o ∧ o.isCells = false) := by
    intro A B row hr r e
    obtain ⟨hB, o, ho, hw⟩ := hr r e
    exact ⟨by omega, o, ho, hw⟩
  refine (hseq (w.heap.size + 1) (fun pre W => I pre W ∧ Two w.heap.size (rc .ready none) W) (fun pre W => ∃ c, Ix c pre W ∧ Two w.heap.size (rc .done (some c)) W) V ?_ ?_ ?_ ?_ ⟨?_, hT⟩).mono ?_
  · rw [← hV]
    exact hb0.trans ((((Below.refl _ w).alloc (Nat.le_refl _) _).alloc (by simp) _).mono hb0.size)
  · exact fun s A B row hs hg' hr => ⟨hI s A B row hs.1 hg' (lift (B := B) hr), hs.2.far hg' (fun r e => by have := (hr r e).1; omega)⟩
  · rintro s A B row ⟨c, hc, ht⟩ hg' hr
    exact ⟨c, hIx c s A B row hc hg' (lift (B := B) hr), ht.far hg' (fun r e => by have := (hr r e).1; omega)⟩
  · rintro pre x W ⟨hi, ht⟩ hx hlen
    have hy := run_yield (P := P) (args := encs x) ht.lp (by rw [hrc]; exact hps x)
    rw [hrc] at hy
    refine ⟨fn, _, assign, body, hy, roundIn_of_wpIn hfn (hassign _ x W _ ?_)⟩
    refine ⟨_, run_beginRound ht.lp (by rw [hrc]), ?_⟩
    have hbusy : { rc .ready none with state := LoopState.busy } = rc .busy none := by rw [hrc]
    rw [hbusy]
    have ht2 := ht.put (rc .busy none)
    have hk2 : Kp (w.heap.size + 2) W (W.putObj (w.heap.size + 1) (.loop (rc .busy none))) := hKb _ _ _ ht.lp rfl rfl
    rw [hVs] at hx
    refine wpIn_mono (hbody _ pre x _ (hI.putObj _ hi (by omega) ht.lp rfl) ((hR x).putObj (s := ()) _ hx (by omega) ht.lp rfl) hlen) ?_
    -- the round's end
    have fin : ∀ (j : Option Code) (W3 : World), KeepsFrom w.heap.size (W.putObj (w.heap.size + 1) (.loop (rc .busy none))) W3 →
        (Instr.endRound (w.heap.size + 1) j).run P W3 = .ok (.bool j.isNone) (W3.putObj (w.heap.size + 1) (.loop (rc (if j.isNone then .ready else .done) j))) ∧ Two w.heap.size (rc .busy none) W3 ∧ Two w.heap.size (rc (if j.isNone then .ready else .done) j) (W3.putObj (w.heap.size + 1) (.loop (rc (if j.isNone then .ready else .done) j))) ∧
          KeepsFrom V.heap.size W (W3.putObj (w.heap.size + 1) (.loop (rc (if j.isNone then .ready else .done) j))) := by
      intro j W3 hk3
      have ht3 := ht2.body hk3
      refine ⟨?_, ht3, ht3.put _, keeps_put (by omega) (keeps_mono hk3 (by omega)) rfl⟩
      have := run_endRound (P := P) j ht3.lp
      rw [hrc] at this ⊢
      exact this
    rintro e a3 W3 hp
    rw [hVs] at fin ⊢
    cases e with
    | normal =>
      obtain ⟨hk3, hkp, hi3⟩ := hp
      obtain ⟨hr, ht3, ht4, hk4⟩ := fin none W3 hk3
      exact ⟨_, _, hr, .inl ⟨rfl, ⟨hI.putObj _ hi3 (by omega) ht3.lp rfl, ht4⟩, hKt (hKt hk2 hkp) (hKb _ _ _ ht3.lp rfl rfl), hk4⟩⟩
    | ret =>
      obtain ⟨hk3, hi3⟩ := hp
      obtain ⟨hr, ht3, ht4, hk4⟩ := fin (some .ret) W3 hk3
      exact ⟨_, _, hr, .inr ⟨rfl, ⟨.ret, (hIx _).putObj _ hi3 (by omega) ht3.lp rfl, ht4⟩, hk4⟩⟩
    | exit id =>
      obtain ⟨hk3, hi3⟩ := hp
      obtain ⟨hr, ht3, ht4, hk4⟩ := fin (some (.exit id)) W3 hk3
      exact ⟨_, _, hr, .inr ⟨rfl, ⟨.exit id, (hIx _).putObj _ hi3 (by omega) ht3.lp rfl, ht4⟩, hk4⟩⟩
    | goto t =>
      obtain ⟨hk3, hi3⟩ := hp
      obtain ⟨hr, ht3, ht4, hk4⟩ := fin (some (.goto t)) W3 hk3
      exact ⟨_, _, hr, .inr ⟨rfl, ⟨.goto t, (hIx _).putObj _ hi3 (by omega) ht3.lp rfl, ht4⟩, hk4⟩⟩
    | panic ch => exact hp.elim
    | outgrown => exact hp.elim
  · rw [← hV]
    exact hI.alloc _ (hI.alloc _ h0)
  · rintro e W2 ⟨⟨v, rfl⟩, (⟨xs, hS, hi, ht⟩ | ⟨pre, hSp, c, hi, ht⟩)⟩
    · exact ⟨none, _, by have := run_endLoop (P := P) ht.lp (by rw [hrc]; simp); rw [hrc] at this; exact this, hdone _ xs _ (Nat.le_refl _) hS (hI.putObj _ hi (by omega) ht.lp rfl) ((World.putObj_heap_other (by omega)).trans ht.df)⟩
    · exact ⟨some c, _, by have := run_endLoop (P := P) ht.lp (by rw [hrc]; simp); rw [hrc] at this; exact this, hstop _ c pre _ (Nat.le_refl _) hSp ((hIx c).putObj _ hi (by omega) ht.lp rfl) ((World.putObj_heap_other (by omega)).trans ht.df)⟩
/-- a round goes at any size of a fence that lets all in, within a round too -/
theorem roundIn_any {m l₀ l : Nat} {f : FuncId} {tmps : Array Value} {assign body : Code} {w : World} {R : Ending → World → Prop} (h : RoundIn Fence.wide n P l f tmps assign body w R) : RoundIn (Fence.wide.inRound l₀) m P l f tmps assign body w R :=
  ⟨h.1, fun c cs _ => h.2 c cs (room_wide _)⟩
end
end Go.Proofs.YtpjcfelknkddfaaDoor
