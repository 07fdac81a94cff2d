/- a row that may begin in the midst of its block (what a reslice `xs[n:]` leaves), and append onto it. No program in sight. -/
import Derived.Test.YtflpelacjdnplaaStep
import Derived.Test.YtflpelacjdnplaaIter
import Derived.ArgAppend
import Derived.Laws.IdiomCopy
namespace Go.Proofs.Ytflpelacjdnplaa
open Go.RowKit

theorem addr_mid (g o m : Nat) : (⟨g, o, none⟩ : Addr).add m = ⟨g, o + m, none⟩ := by unfold Addr.add; split <;> simp_all
/-- a row of n elements of sz cells, its capacity c, in a block of B or beyond, nothing of it frozen -/
structure Tl (w : World) (B sz : Nat) (A : Option Addr) (n c : Nat) (vs : List Value) : Prop where
  len : vs.length = n * sz
  le : n ≤ c
  cap : c ≤ maxLen
  lies : (A = none ∧ c = 0) ∨ ∃ g o, A = some ⟨g, o, none⟩ ∧ B ≤ g ∧ g < w.heap.size ∧ (∀ j u, vs[j]? = some u → w.cell? ⟨g, o + j, none⟩ = some u) ∧ (∀ j, j < c * sz → (w.cell? ⟨g, o + j, none⟩).isSome = true ∧ w.frozen? ⟨g, o + j, none⟩ = false)
theorem Tl.nil (w : World) (B sz : Nat) : Tl w B sz none 0 0 [] := ⟨by simp, Nat.le_refl _, by simp [maxLen], .inl ⟨rfl, rfl⟩⟩
theorem Tl.chS {S : Nat → Prop} {w w' : World} {B sz n c : Nat} {A : Option Addr} {vs : List Value} (h : Tl w B sz A n c vs) (hc : Ch S w w') (hS : ∀ a, A = some a → ¬ S a.block) : Tl w' B sz A n c vs := by
  refine ⟨h.len, h.le, h.cap, ?_⟩
  rcases h.lies with h0 | ⟨g, o, rfl, hB, hg, h1, h2⟩
  · exact .inl h0
  · have hn := hS _ rfl
    refine .inr ⟨g, o, rfl, hB, Nat.lt_of_lt_of_le hg hc.size, fun j u hj => hc.cell (h1 j u hj) hn, fun j hj => ?_⟩
    obtain ⟨u, hu⟩ := Option.isSome_iff_exists.1 (h2 j hj).1
    exact ⟨by rw [hc.cell hu hn]; rfl, hc.frozen (a := ⟨g, o + j, none⟩) hg (h2 j hj).2 hn⟩
theorem Tl.no {w w' : World} {B sz n c : Nat} {A : Option Addr} {vs : List Value} (h : Tl w B sz A n c vs) (hc : Ch No w w') : Tl w' B sz A n c vs := h.chS hc (fun _ _ h => h)
theorem Tl.lower {w : World} {B C sz n c : Nat} {A : Option Addr} {vs : List Value} (h : Tl w B sz A n c vs) (hC : C ≤ B) : Tl w C sz A n c vs := by
  refine ⟨h.len, h.le, h.cap, ?_⟩
  rcases h.lies with h0 | ⟨g, o, rfl, hB, r⟩
  · exact .inl h0
  · exact .inr ⟨g, o, rfl, Nat.le_trans hC hB, r⟩
theorem Tl.blk {w : World} {B sz n c : Nat} {A : Option Addr} {vs : List Value} (h : Tl w B sz A n c vs) : ∀ a, A = some a → B ≤ a.block ∧ a.block < w.heap.size := by
  rintro a ha
  rcases h.lies with ⟨h0, _⟩ | ⟨g, o, rfl, hB, hg, _⟩
  · rw [h0] at ha; cases ha
  · cases ha; exact ⟨hB, hg⟩
/-- what a reslice leaves -/
theorem Tl.drop {w : World} {B sz n c : Nat} {A : Option Addr} {vs : List Value} (h : Tl w B sz A n c vs) (m : Nat) (hm : m ≤ n) : Tl w B sz (if m = c then A else A.map (·.add (m * sz))) (n - m) (c - m) (vs.drop (m * sz)) := by
  have hl := h.len
  have hle := h.le
  have hcp := h.cap
  refine ⟨by rw [List.length_drop, hl, Nat.sub_mul], by omega, by omega, ?_⟩
  by_cases hmc : m = c
  · rw [if_pos hmc]
    have hv : vs.drop (m * sz) = [] := List.drop_eq_nil_of_le (by rw [hl]; exact Nat.mul_le_mul_right sz (by omega))
    rw [hv]
    have hz : c - m = 0 := by omega
    rw [hz]
    rcases h.lies with ⟨h0, _⟩ | ⟨g, o, rfl, hB, hg, _⟩
    · exact .inl ⟨h0, rfl⟩
    · exact .inr ⟨g, o, rfl, hB, hg, by simp, by simp⟩
  · rw [if_neg hmc]
    rcases h.lies with ⟨_, h0⟩ | ⟨g, o, rfl, hB, hg, h1, h2⟩
    · omega
    · refine .inr ⟨g, o + m * sz, by simp [addr_mid], hB, hg, fun j u hj => ?_, fun j hj => ?_⟩
      · rw [List.getElem?_drop] at hj
        have := h1 _ _ hj
        rwa [← Nat.add_assoc] at this
      · have h3 : m * sz + j < c * sz := by
          have : (c - m) * sz = c * sz - m * sz := Nat.sub_mul _ _ _
          omega
        have := h2 _ h3
        rwa [← Nat.add_assoc] at this
theorem Tl.of_row {w : World} {B sz n : Nat} {e : TypeId} {v : Value} {vs : List Value} (h : w.ownsRow B e sz v n vs) : ∃ A c, v = .slice A n c ∧ Tl w B sz A n c vs := by
  obtain ⟨hl, ⟨rfl, rfl⟩ | ⟨g, cap, cur, rfl, hB, hg, hn, hm, hs, ht⟩⟩ := h
  · exact ⟨none, 0, rfl, hl, Nat.le_refl _, by simp [maxLen], .inl ⟨rfl, rfl⟩⟩
  · refine ⟨_, cap, rfl, hl, hn, hm, .inr ⟨g, 0, rfl, hB, (Array.getElem?_eq_some_iff.1 hg).1, fun j u hj => ?_, fun j hj => ?_⟩⟩
    · have h1 : cur[j]? = some u := by
        rw [← ht, List.getElem?_take] at hj
        split at hj
        · simpa using hj
        · cases hj
      simp [World.cell?, hg, h1]
    · refine ⟨?_, by simp [World.frozen?, hg]⟩
      simp [World.cell?, hg, hs, hj]
theorem Tl.cls {w : World} {B sz n c : Nat} {A : Option Addr} {vs : List Value} (h : Tl w B sz A n c vs) (hn : 0 < n) : ∃ g o, A = some ⟨g, o, none⟩ ∧ ∀ j u, vs[j]? = some u → w.cell? ⟨g, o + j, none⟩ = some u := by
  rcases h.lies with ⟨_, h0⟩ | ⟨g, o, rfl, _, _, h1, _⟩
  · have := h.le; omega
  · exact ⟨g, o, rfl, h1⟩
theorem Ch.setCells (w : World) (b o : Nat) (vs : List Value) : Ch (fun k => k = b) w (w.setCells b o vs) := by
  induction vs generalizing o w with
  | nil => exact Ch.refl _ _
  | cons v vs ih => exact (((Ch.refl (fun k => k = b) w).setCell (p := ⟨b, o, none⟩) (fun _ => rfl) v)).trans' (ih (w.setCell ⟨b, o, none⟩ v) (o + 1)) (fun i _ h => h)

/-- append of one element onto it -/
theorem run_appT {P : Program} {w : World} (t ty e : TypeId) (z : Value) (sz bytes : Nat)
    (ht : P.underlying t = some (.slice e)) (hinfo : (P.info? e).map (fun i => (i.zero, i.size, i.bytes)) = some (some z, sz, bytes)) (hz : z.cells.size = sz) (hsz : 0 < sz)
    (B : Nat) (A : Option Addr) (n c : Nat) (vs : List Value) (hown : Tl w B sz A n c vs) (ad : Addr) (c2 : Nat) (us : List Value) (hul : us.length = sz) (hsrc : ∀ j u, us[j]? = some u → w.cell? (ad.add j) = some u) (h1 : ∀ u ∈ us, u.oneCell' = true)
    (hn : n + 1 ≤ maxLen) (hb : (n + 1) * bytes ≤ 140737488355328) (hB : B ≤ w.heap.size) :
    ∃ A' c' w', (Builtin.append_ #[t, t] ty #[.slice A n c, .slice (some ad) 1 c2]).run P w = .ok (.slice A' (n + 1) c') w' ∧ Tl w' B sz A' (n + 1) c' (vs ++ us) ∧ Ch (fun k => (Value.slice A n c).ownBlock = some k) w w' ∧ (∀ a, A' = some a → (Value.slice A n c).ownBlock = some a.block ∨ w.heap.size ≤ a.block) := by
  obtain ⟨i0, hi, h0, hs, h2⟩ := info_parts hinfo
  have hul1 : us.length = 1 * sz := by omega
  have hlen := hown.len
  have hle := hown.le
  have hgrow : ∀ (v' : Value) (w' : World), w'.ownsRow w.heap.size e sz v' (n + 1) (vs ++ us) → w.grownBy w' none → ∃ A' c', v' = .slice A' (n + 1) c' ∧ Tl w' B sz A' (n + 1) c' (vs ++ us) ∧ Ch (fun k => (Value.slice A n c).ownBlock = some k) w w' ∧ (∀ a, A' = some a → (Value.slice A n c).ownBlock = some a.block ∨ w.heap.size ≤ a.block) := by
    intro v' w' hr hg
    obtain ⟨A', c', rfl, ht'⟩ := Tl.of_row hr
    exact ⟨A', c', rfl, ht'.lower hB, (Ch.refl _ w).grown hg (fun k hk => by cases hk), fun a ha => .inr (ht'.blk a ha).1⟩
  rcases hown.lies with ⟨rfl, hc0⟩ | ⟨g, o, rfl, hBg, hgs, hcs, hsp⟩
  · obtain rfl : n = 0 := by omega
    subst hc0
    obtain rfl : vs = [] := List.eq_nil_of_length_eq_zero (by simpa using hlen)
    obtain ⟨v', w', hrun, r1, r2, _⟩ := run_append_own (P := P) (w := w) w.heap.size t ty e i0 z sz bytes ht hi h0 hs h2 hz hsz (.slice none 0 0) 0 [] (World.ownsRow_nil w _ e sz) ad 1 c2 us hul1 hsrc h1 hn hb (Nat.le_refl _)
    obtain ⟨A', c', rfl, q1, q2, q3⟩ := hgrow v' w' r1 r2
    exact ⟨A', c', w', hrun, q1, q2, q3⟩
  · by_cases hroom : n + 1 ≤ c
    · have hspare : ∀ j, j < us.length → (w.cell? ⟨g, o + n * sz + j, none⟩).isSome = true ∧ w.frozen? ⟨g, o + n * sz + j, none⟩ = false := fun j hj => by
        have h3 : n * sz + j < c * sz := by
          have h4 : (n + 1) * sz ≤ c * sz := Nat.mul_le_mul_right sz hroom
          rw [Nat.add_mul] at h4
          omega
        have := hsp _ h3
        rwa [← Nat.add_assoc] at this
      have hrun := run_append_room_cells (P := P) w t ty e i0 ht hi g o n c ad 1 c2 us (by rw [hs]; exact hul1) hsrc h1 hroom (fun j hj => by rw [hs]; exact (hspare j hj).1) (fun j hj => by rw [hs]; exact (hspare j hj).2)
      rw [hs] at hrun
      have hch := Ch.setCells w g (o + n * sz) us
      refine ⟨_, c, _, hrun, ⟨?_, hroom, hown.cap, .inr ⟨g, o, rfl, hBg, Nat.lt_of_lt_of_le hgs hch.size, ?_, ?_⟩⟩, hch.mono (fun k _ hk => by rw [hk]; rfl), fun a ha => by cases ha; exact .inl rfl⟩
      · rw [List.length_append, hlen, hul1, Nat.add_mul]
      · intro j u hj
        by_cases hjn : j < n * sz
        · rw [List.getElem?_append_left (by rw [hlen]; exact hjn)] at hj
          rw [World.cell?_setCells_out g us (o + n * sz) w ⟨g, o + j, none⟩ (fun _ _ => .inl (by simp; omega))]
          exact hcs j u hj
        · rw [List.getElem?_append_right (by omega), hlen] at hj
          obtain ⟨hj1, hj2⟩ := List.getElem?_eq_some_iff.1 hj
          have := World.cell?_setCells_in g us (o + n * sz) w (fun j hj => (hspare j hj).1) (j - n * sz) hj1
          rw [hj2, show o + n * sz + (j - n * sz) = o + j from by omega] at this
          exact this
      · intro j hj
        rw [World.frozen?_setCells]
        refine ⟨?_, (hsp j hj).2⟩
        by_cases hin : n * sz ≤ j ∧ j < n * sz + us.length
        · have := World.cell?_setCells_in g us (o + n * sz) w (fun j hj => (hspare j hj).1) (j - n * sz) (by omega)
          rw [show o + n * sz + (j - n * sz) = o + j from by omega] at this
          rw [this]; rfl
        · rw [World.cell?_setCells_out g us (o + n * sz) w ⟨g, o + j, none⟩ (fun _ _ => by simp; omega)]
          exact (hsp j hj).1
    · obtain ⟨v', w', hrun, r1, r2⟩ := run_append_arg_grows (P := P) w t ty e i0 z sz bytes ht hi h0 hs h2 hz hsz ⟨g, o, none⟩ n c vs hlen (fun j u hj => by rw [addr_mid]; exact hcs j u hj) ad 1 c2 us hul1 hsrc (by omega) hn hb
      obtain ⟨A', c', rfl, q1, q2, q3⟩ := hgrow v' w' r1 r2
      exact ⟨A', c', w', hrun, q1, q2, q3⟩
/-- .. as a step of a region that draws its order -/
theorem step_appT {P : Program} {ops : Array Oper} {Q : Exit → Act → World → Prop} {a : Act} {w : World} {K : Act → World → Prop} {E : Prop} {o : Oper} (hgd : o.guard = none) (s x : Operand) (t e : TypeId)
    (ho : o.op = .call { callee := .builtin .append, args := #[s, x], argTypes := #[t, t] }) (z : Value) (sz bytes : Nat)
    (ht : P.underlying t = some (.slice e)) (hinfo : (P.info? e).map (fun i => (i.zero, i.size, i.bytes)) = some (some z, sz, bytes)) (hz : z.cells.size = sz) (hsz : 0 < sz)
    (B : Nat) (A : Option Addr) (n c : Nat) (vs : List Value) (hs : a.eval s = .slice A n c) (hown : Tl w B sz A n c vs) (ad : Addr) (c2 : Nat) (us : List Value) (hx : a.eval x = .slice (some ad) 1 c2) (hul : us.length = sz) (hsrc : ∀ j u, us[j]? = some u → w.cell? (ad.add j) = some u) (h1 : ∀ u ∈ us, u.oneCell' = true)
    (hn : n + 1 ≤ maxLen) (hb : (n + 1) * bytes ≤ 140737488355328) (hB : B ≤ w.heap.size)
    (h : ∀ A' c' w', Tl w' B sz A' (n + 1) c' (vs ++ us) → Ch (fun k => (Value.slice A n c).ownBlock = some k) w w' → (∀ a, A' = some a → (Value.slice A n c).ownBlock = some a.block ∨ w.heap.size ≤ a.block) → K (a.put o.dst (.slice A' (n + 1) c')) w') :
    if Region.wanted o (yielded ops a.tmps) = true then Oper.wp P o a w K Q else E := by
  rw [if_pos (by simp [Region.wanted, hgd])]
  obtain ⟨A', c', w', hr, h2, h3, h4⟩ := run_appT (P := P) (w := w) t o.type e z sz bytes ht hinfo hz hsz B A n c vs hown ad c2 us hul hsrc h1 hn hb hB
  unfold Oper.wp execOp
  simp only [ho, resolve, invoke, builtin, Sem.run_bind, Sem.run_pure, Result.andThen_ok, List.map_toArray, List.map_cons, List.map_nil, hs, hx, hr]
  exact h A' c' w' h2 h3 h4
end Go.Proofs.Ytflpelacjdnplaa
