/- Frames, in plain Lean: rows of bytes that are cut into bodies. -/
import Derived.Test.YtdkkffmnpholdaaOctGet
import Derived.Test.YtdkkffmnpholdaaRefJoin
namespace Go.Proofs.Ytdkkffmnpholdaa
open Go.RowKit

/-- the first two bytes' number -/
def two (xs : List Int) : Nat := getN (xs.take 2)
/-- what comes of looking for a frame -/
inductive Nx where
  | short
  | long
  | ok (body rest : List Int)
def nxt (xs : List Int) : Nx :=
  if xs.length < 2 then .short else if 1024 < two xs then .long else if xs.length < 2 + two xs then .short else .ok ((xs.drop 2).take (two xs)) (xs.drop (2 + two xs))
def Nx.err : Nx → Int
  | .short => 20
  | .long => 2
  | .ok _ _ => 0
def Nx.body : Nx → List Int
  | .ok b _ => b
  | _ => []
def Nx.rest : Nx → List Int
  | .ok _ r => r
  | _ => []
/-- bytes that are cut: all bodies, what is left, the error's number -/
inductive Spl : List Int → List (List Int) → List Int → Int → Prop
  | short {xs : List Int} (h : nxt xs = .short) : Spl xs [] xs 0
  | long {xs : List Int} (h : nxt xs = .long) : Spl xs [] xs 2
  | ok {xs b r l : List Int} {bs : List (List Int)} {e : Int} (h : nxt xs = .ok b r) (t : Spl r bs l e) : Spl xs (b :: bs) l e

theorem two_lt {xs : List Int} (h : ∀ x ∈ xs, isB x) : two xs < 65536 := by
  have h1 := getN_lt (xs := xs.take 2) (fun x hx => h x (List.mem_of_mem_take hx))
  have h2 : (xs.take 2).length ≤ 2 := List.length_take_le _ _
  have h3 : 256 ^ (xs.take 2).length ≤ 256 ^ 2 := Nat.pow_le_pow_right (by decide) h2
  unfold two
  omega
theorem nxt_ok {xs b r : List Int} (h : nxt xs = .ok b r) : 2 ≤ xs.length ∧ two xs ≤ 1024 ∧ 2 + two xs ≤ xs.length ∧ b = (xs.drop 2).take (two xs) ∧ r = xs.drop (2 + two xs) ∧ b.length = two xs ∧ xs = xs.take 2 ++ b ++ r := by
  unfold nxt at h
  split at h
  · cases h
  split at h
  · cases h
  split at h
  · cases h
  have h' := Nx.ok.inj h
  refine ⟨by omega, by omega, by omega, h'.1.symm, h'.2.symm, by rw [← h'.1, List.length_take, List.length_drop]; omega, ?_⟩
  rw [← h'.1, ← h'.2, List.append_assoc, ← List.drop_drop, List.take_append_drop, List.take_append_drop]
theorem nxt_lt {xs b r : List Int} (h : nxt xs = .ok b r) : r.length < xs.length := by
  obtain ⟨h1, h2, h3, h4, h5, _⟩ := nxt_ok h
  rw [h5, List.length_drop]
  omega
theorem nxt_mem {xs b r : List Int} (h : nxt xs = .ok b r) (p : Int → Prop) (hp : ∀ x ∈ xs, p x) : (∀ x ∈ b, p x) ∧ ∀ x ∈ r, p x := by
  obtain ⟨h1, h2, h3, h4, h5, _⟩ := nxt_ok h
  subst h4
  subst h5
  exact ⟨fun x hx => hp x (List.mem_of_mem_drop (List.mem_of_mem_take hx)), fun x hx => hp x (List.mem_of_mem_drop hx)⟩
theorem spl_all (xs : List Int) : ∃ bs l e, Spl xs bs l e := by
  have H : ∀ n, ∀ xs : List Int, xs.length ≤ n → ∃ bs l e, Spl xs bs l e := by
    intro n
    induction n with
    | zero =>
      intro xs hl
      refine ⟨[], xs, 0, .short ?_⟩
      unfold nxt
      rw [if_pos (by omega)]
    | succ n ih =>
      intro xs hl
      cases h : nxt xs with
      | short => exact ⟨[], xs, 0, .short h⟩
      | long => exact ⟨[], xs, 2, .long h⟩
      | ok b r =>
        obtain ⟨bs, l, e, ht⟩ := ih r (by have := nxt_lt h; omega)
        exact ⟨b :: bs, l, e, .ok h ht⟩
  exact H _ xs (Nat.le_refl _)
theorem spl_fun {xs : List Int} {bs : List (List Int)} {l : List Int} {e : Int} (h : Spl xs bs l e) : ∀ {bs' : List (List Int)} {l' : List Int} {e' : Int}, Spl xs bs' l' e' → bs = bs' ∧ l = l' ∧ e = e' := by
  induction h with
  | short h =>
    intro bs' l' e' k
    cases k with
    | short k => exact ⟨rfl, rfl, rfl⟩
    | long k => rw [h] at k; cases k
    | ok k _ => rw [h] at k; cases k
  | long h =>
    intro bs' l' e' k
    cases k with
    | short k => rw [h] at k; cases k
    | long k => exact ⟨rfl, rfl, rfl⟩
    | ok k _ => rw [h] at k; cases k
  | ok h t ih =>
    intro bs' l' e' k
    cases k with
    | short k => rw [h] at k; cases k
    | long k => rw [h] at k; cases k
    | ok k kt =>
      rw [h] at k
      obtain ⟨rfl, rfl⟩ := Nx.ok.inj k
      obtain ⟨rfl, rfl, rfl⟩ := ih kt
      exact ⟨rfl, rfl, rfl⟩
theorem spl_len {xs : List Int} {bs : List (List Int)} {l : List Int} {e : Int} (h : Spl xs bs l e) : 2 * bs.length + l.length ≤ xs.length ∧ (∀ b ∈ bs, b.length ≤ xs.length ∧ b.length ≤ 1024) ∧ (e = 0 ∨ e = 2) := by
  induction h with
  | short h => exact ⟨by simp, by simp, .inl rfl⟩
  | long h => exact ⟨by simp, by simp, .inr rfl⟩
  | ok h t ih =>
    rename_i xs b r l bs e
    obtain ⟨h1, h2, h3, h4, h5, h6, _⟩ := nxt_ok h
    have h7 : r.length = xs.length - (2 + two xs) := by rw [h5, List.length_drop]
    refine ⟨?_, ?_, ih.2.2⟩
    · rw [List.length_cons]; have := ih.1; omega
    · intro c hc
      rcases List.mem_cons.1 hc with rfl | hc
      · omega
      · have := ih.2.1 c hc; omega
theorem spl_mem {xs : List Int} {bs : List (List Int)} {l : List Int} {e : Int} (h : Spl xs bs l e) (p : Int → Prop) (hp : ∀ x ∈ xs, p x) : (∀ b ∈ bs, ∀ x ∈ b, p x) ∧ ∀ x ∈ l, p x := by
  induction h with
  | short h => exact ⟨by simp, hp⟩
  | long h => exact ⟨by simp, hp⟩
  | ok h t ih =>
    obtain ⟨h1, h2⟩ := nxt_mem h p hp
    obtain ⟨h3, h4⟩ := ih h2
    refine ⟨?_, h4⟩
    intro c hc
    rcases List.mem_cons.1 hc with rfl | hc
    · exact h1
    · exact h3 c hc

/-- bytes that lie in a block of bytes -/
def U8 (w : World) (A : Option Addr) : Prop := ∀ a, A = some a → ∃ cs, w.heap[a.block]? = some (.cells cs 5 (0, 0))
theorem U8.none (w : World) : U8 w none := fun _ h => by cases h
theorem U8.ch {S : Nat → Prop} {w w' : World} {A : Option Addr} (h : U8 w A) (hc : Ch S w w') (hn : ∀ a, A = some a → ¬ S a.block) : U8 w' A := fun a ha => by
  obtain ⟨cs, h1⟩ := h a ha
  exact ⟨cs, hc.at h1 (hn a ha)⟩
theorem U8.blk {w : World} {A A' : Option Addr} (h : U8 w A) (hA : ∀ a, A' = some a → ∃ a0, A = some a0 ∧ a.block = a0.block) : U8 w A' := fun a ha => by
  obtain ⟨a0, h0, h1⟩ := hA a ha
  rw [h1]
  exact h a0 h0
theorem OwnS.u8 {w : World} {B n c : Nat} {A : Option Addr} {vs : List Value} (h : OwnS w B 5 (.slice A n c) vs) : U8 w A := by
  rintro a rfl
  rcases h.2 with ⟨h0, _⟩ | ⟨g, _, cs, h0, _, hg, _⟩
  · cases h0
  · have : a = ⟨g, 0, none⟩ := by simpa using (Value.slice.inj h0).1
    rw [this]
    exact ⟨cs, hg⟩

set_option maxHeartbeats 1000000 in
theorem Open_u8 (w : World) (A : Option Addr) (c : Nat) (xs : List Int) (hx : Cls w A (ints .u8 xs)) (hl : xs.length ≤ 100000000000000) :
    Calls Try.prog 20 #[.slice A xs.length c] w fun e w' => ∃ g A' c', e = .returned (.pointer (some ⟨g, 0, none⟩)) ∧ Rdr w' g A' c' xs false ∧ w.heap.size ≤ g ∧ (∀ a, A' = some a → w.heap.size ≤ a.block ∧ a.block < w'.heap.size) ∧ U8 w' A' ∧ Ch No w w' := by
  have HC := Lib.hid (Clone_any w A c xs hx hl)
  clear hx
  go_enter Try.func20, Try.ntmps20
  go_wp2_with fail
  refine HC.out.mono ?_
  rintro e w1 ⟨A1, c1, rfl, h1, h2⟩
  have hc1 : c1 ≤ maxLen := by
    rcases h1.2 with ⟨h, _⟩ | ⟨_, _, _, h, _, _, _, h3, _⟩
    · have : c1 = 0 := by simp at h; exact h.2.2
      omega
    · have := (Value.slice.inj h).2.2
      omega
  have hge := h1.ge
  have hle := h1.slice_ints
  have HP := Lib.hid (And.intro h1 (And.intro h2 (And.intro hc1 (And.intro hge hle))))
  clear h1 h2 hc1 hge hle
  go_wp2_with fail
  go_ret
  obtain ⟨h1, h2, hc1, hge, A2, c2, e2, hcl, hle⟩ := HP.out
  obtain ⟨rfl, rfl⟩ : A1 = A2 ∧ c1 = c2 := by simpa using e2
  refine ⟨w1.heap.size, A1, c1, rfl, ⟨Blk.new w1 _ [.slice A1 xs.length c1, .bool false], hcl.ch ((Ch.refl No w1).alloc _) (fun _ _ h => h), hle, ?_, hc1⟩, h2.size, ?_, h1.u8.ch ((Ch.refl No w1).alloc _) (fun _ _ h => h), h2.alloc _⟩
  · rintro a rfl
    have : a.block < w1.heap.size := by
      obtain ⟨cs, h⟩ := h1.u8 a rfl
      exact (Array.getElem?_eq_some_iff.1 h).1
    omega
  · rintro a rfl
    have h5 : a.block < w1.heap.size := by
      obtain ⟨cs, h⟩ := h1.u8 a rfl
      exact (Array.getElem?_eq_some_iff.1 h).1
    have := hge a.block (by rcases h1.2 with ⟨h0, _⟩ | ⟨g, _, cs, h0, _⟩; cases h0; have h6 := (Value.slice.inj h0).1; have h7 : a = ⟨g, 0, none⟩ := by simpa using h6
                            rw [h7]; rfl)
    exact ⟨this.1, by simp; omega⟩

/-- a slice of slices of bytes, as it reads -/
def Bds (w : World) (O : Option Addr) (bs : List (List Int)) : Prop := ∃ ps : List Prt, ps.map (·.bs) = bs ∧ Cls w O (ps.map Prt.enc) ∧ ∀ p ∈ ps, Cls w p.A (ints .u8 p.bs)
theorem Bds.no {w w' : World} {O : Option Addr} {bs : List (List Int)} (h : Bds w O bs) (hc : Ch No w w') : Bds w' O bs := by
  obtain ⟨ps, h1, h2, h3⟩ := h
  exact ⟨ps, h1, h2.ch hc (fun _ _ h => h), fun p hp => (h3 p hp).ch hc (fun _ _ h => h)⟩
theorem Bds.nil (w : World) (O : Option Addr) : Bds w O [] := ⟨[], rfl, Cls.nil _ _, by simp⟩

/-- a slice of slices of bytes that a call makes: its own array, the bodies' bytes elsewhere -/
structure Acc2 (w : World) (B : Nat) (v : Value) (bs : List (List Int)) : Prop where
  ex : ∃ ps : List Prt, ps.map (·.bs) = bs ∧ OwnS w B 22 v (ps.map Prt.enc) ∧ (∀ p ∈ ps, Cls w p.A (ints .u8 p.bs)) ∧ ∀ p ∈ ps, ∀ a, p.A = some a → v.ownBlock ≠ some a.block ∧ a.block < w.heap.size
theorem Acc2.nil (w : World) (B : Nat) : Acc2 w B (.slice none 0 0) [] := ⟨[], rfl, OwnS.nil _ _ _, by simp, by simp⟩
theorem Acc2.no {w w' : World} {B : Nat} {v : Value} {bs : List (List Int)} (h : Acc2 w B v bs) (hc : Ch No w w') : Acc2 w' B v bs := by
  obtain ⟨ps, h1, h2, h3, h4⟩ := h.ex
  exact ⟨ps, h1, h2.ch hc (fun _ _ h => h), fun p hp => (h3 p hp).ch hc (fun _ _ h => h), fun p hp a ha => ⟨(h4 p hp a ha).1, by have := (h4 p hp a ha).2; have := hc.size; omega⟩⟩
theorem Acc2.slice {w : World} {B : Nat} {v : Value} {bs : List (List Int)} (h : Acc2 w B v bs) : ∃ A c, v = .slice A bs.length c ∧ Bds w A bs := by
  obtain ⟨ps, h1, h2, h3, h4⟩ := h.ex
  obtain ⟨A, c, rfl, h5, h6⟩ := h2.slice
  refine ⟨A, c, by rw [← h1]; simp, ps, h1, h5, h3⟩
theorem Acc2.slice2 {w : World} {B : Nat} {v : Value} {bs : List (List Int)} (h : Acc2 w B v bs) : ∃ A c, v = .slice A bs.length c ∧ Bds w A bs ∧ bs.length ≤ c := by
  obtain ⟨ps, h1, h2, h3, h4⟩ := h.ex
  obtain ⟨A, c, rfl, h5, h6⟩ := h2.slice
  have hl : bs.length = (ps.map Prt.enc).length := by rw [← h1]; simp
  exact ⟨A, c, by rw [hl], ⟨ps, h1, h5, h3⟩, by rw [hl]; exact h6⟩
/-- one more -/
theorem Acc2.app {w w' : World} {B : Nat} {v : Value} {A' : Option Addr} {c' c'' g : Nat} {bs : List (List Int)} {x : List Int} {ps : List Prt} (h1 : ps.map (·.bs) = bs)
    (h3 : ∀ p ∈ ps, Cls w p.A (ints .u8 p.bs)) (h4 : ∀ p ∈ ps, ∀ a, p.A = some a → v.ownBlock ≠ some a.block ∧ a.block < w.heap.size)
    (hx : Cls w A' (ints .u8 x)) (hA : ∀ a, A' = some a → v.ownBlock ≠ some a.block ∧ a.block < w.heap.size)
    (h5 : OwnS w' B 22 (.slice (some ⟨g, 0, none⟩) (bs.length + 1) c') (ps.map Prt.enc ++ [.slice A' x.length c'']))
    (hc : Ch (fun k => v.ownBlock = some k) w w') (hg : v.ownBlock = some g ∨ w.heap.size ≤ g) :
    Acc2 w' B (.slice (some ⟨g, 0, none⟩) (bs.length + 1) c') (bs ++ [x]) := by
  have hall : ∀ a : Addr, (a.block < w.heap.size ∧ v.ownBlock ≠ some a.block) → (Value.slice (some ⟨g, 0, none⟩) (bs.length + 1) c').ownBlock ≠ some a.block ∧ a.block < w'.heap.size := by
    rintro a ⟨h6, h7⟩
    refine ⟨?_, by have := hc.size; omega⟩
    intro he
    have he' : g = a.block := by simpa [Value.ownBlock] using he
    rcases hg with hg | hg
    · exact h7 (by rw [hg, he'])
    · omega
  refine ⟨ps ++ [⟨A', c'', x⟩], by simp [h1], by simpa [Prt.enc] using h5, ?_, ?_⟩
  · intro p hp
    rcases List.mem_append.1 hp with hp | hp
    · exact (h3 p hp).ch hc (fun a ha he => (h4 p hp a ha).1 he)
    · obtain rfl := by simpa using hp
      exact hx.ch hc (fun a ha he => (hA a ha).1 he)
  · intro p hp a ha
    rcases List.mem_append.1 hp with hp | hp
    · exact hall a ⟨(h4 p hp a ha).2, (h4 p hp a ha).1⟩
    · obtain rfl := by simpa using hp
      exact hall a ⟨(hA a ha).2, (hA a ha).1⟩
end Go.Proofs.Ytdkkffmnpholdaa
