/- octet: what a writer and a reader are in memory; the bytes of numbers, in plain Lean. -/
import Derived.Test.YtflpelacjdnplaaProg
import Derived.Test.YtflpelacjdnplaaOwn
import Derived.Test.YtflpelacjdnplaaNum
import Derived.Test.YtflpelacjdnplaaLexF
namespace Go.Proofs.Ytflpelacjdnplaa
open Go.RowKit

/-- a number's lowest s bytes, the highest one first -/
def putB (n : Nat) : Nat → List Int
  | 0 => []
  | s + 1 => ((n / 256 ^ s % 256 : Nat) : Int) :: putB n s
@[simp] theorem putB_length (n s : Nat) : (putB n s).length = s := by
  induction s with
  | zero => rfl
  | succ s ih => simp [putB, ih]
def isB (x : Int) : Prop := 0 ≤ x ∧ x < 256
theorem put_byte (n r : Nat) : IntKind.u8.wrap ((n : Int) / 2 ^ (8 * (r : Int)).toNat) = ((n / 256 ^ r % 256 : Nat) : Int) := by
  have e1 : (8 * (r : Int)).toNat = 8 * r := by omega
  have e2 : (2 : Nat) ^ (8 * r) = 256 ^ r := by rw [Nat.pow_mul]
  have e3 : (2 : Int) ^ (8 * r) = ((256 ^ r : Nat) : Int) := by rw [← e2, Int.natCast_pow]; rfl
  rw [e1, e3, ← Int.natCast_ediv]
  generalize n / 256 ^ r = m
  simp [IntKind.wrap, IntKind.bits, IntKind.signed]
theorem putB_isB (n s : Nat) : ∀ x ∈ putB n s, isB x := by
  induction s with
  | zero => simp [putB]
  | succ s ih =>
    intro x hx
    simp only [putB, List.mem_cons] at hx
    rcases hx with rfl | hx
    · unfold isB; omega
    · exact ih x hx
/-- bytes as a number -/
def getB (xs : List Int) : Int := xs.foldl (fun a x => 256 * a + x) 0
/-- a number of 64 bits, of either kind, as one without a sign -/
def toU (n : Int) : Nat := (n % 18446744073709551616).toNat
theorem toU_eq (n : Int) : IntKind.u64.wrap n = ((toU n : Nat) : Int) := by
  have : IntKind.u64.wrap n = n % 18446744073709551616 := by simp [IntKind.wrap, IntKind.bits, IntKind.signed]
  rw [this]
  unfold toU
  omega
theorem toU_lt (n : Int) : toU n < 2 ^ 64 := by unfold toU; omega
/-- a size within its bounds -/
def heldB (n : Int) : Nat := (min (max n 1) 8).toNat
theorem heldB_le (n : Int) : 1 ≤ heldB n ∧ heldB n ≤ 8 := by unfold heldB; omega

theorem Cls.takeI {w : World} {A : Option Addr} {vs : List Value} (h : Cls w A vs) (n : Nat) : Cls w A (vs.take n) := by
  intro pre v post e
  refine h pre v (post ++ vs.drop n) ?_
  rw [← List.cons_append, ← List.append_assoc, ← e, List.take_append_drop]
theorem addr_add (b off n : Nat) : (⟨b, off, none⟩ : Addr).add n = ⟨b, off + n, none⟩ := by
  unfold Addr.add
  split
  · rename_i h; rw [h]; rfl
  · rfl
theorem Cls.dropI {w : World} {A : Option Addr} {vs : List Value} (h : Cls w A vs) (n : Nat) : Cls w (A.map (·.add n)) (vs.drop n) := by
  intro pre v post e
  have hn : n ≤ vs.length := by
    rcases Nat.lt_or_ge vs.length n with h' | h'
    · rw [List.drop_eq_nil_of_le (by omega)] at e
      simp at e
    · exact h'
  obtain ⟨b, off, rfl, hc⟩ := h (vs.take n ++ pre) v post (by rw [List.append_assoc, ← e, List.take_append_drop])
  refine ⟨b, off + n, by simp [addr_add], ?_⟩
  rw [List.length_append, List.length_take, Nat.min_eq_left hn, ← Nat.add_assoc] at hc
  exact hc
theorem ints_take (k : IntKind) (xs : List Int) (n : Nat) : ints k (xs.take n) = (ints k xs).take n := by simp [ints, List.map_take]
theorem ints_drop (k : IntKind) (xs : List Int) (n : Nat) : ints k (xs.drop n) = (ints k xs).drop n := by simp [ints, List.map_drop]
/-- a writer: its block, and its slice, whose array (block k, if there is one) is its own -/
structure Wr (w : World) (B g : Nat) (k : Option Nat) (bs : List Int) : Prop where
  ex : ∃ A c, Blk w g 85 [.slice A bs.length c] ∧ OwnS w B 5 (.slice A bs.length c) (ints .u8 bs) ∧ (Value.slice A bs.length c).ownBlock = k
  ne : k ≠ some g
theorem Wr.lt {w : World} {B g : Nat} {k : Option Nat} {bs : List Int} (h : Wr w B g k bs) : g < w.heap.size := by
  obtain ⟨A, c, h1, _⟩ := h.ex
  exact h1.lt
theorem Wr.klt {w : World} {B g i : Nat} {k : Option Nat} {bs : List Int} (h : Wr w B g k bs) (hk : k = some i) : B ≤ i ∧ i < w.heap.size := by
  obtain ⟨A, c, _, h2, h3⟩ := h.ex
  exact h2.ge i (h3.trans hk)
theorem Wr.ch {S : Nat → Prop} {w w' : World} {B g : Nat} {k : Option Nat} {bs : List Int} (h : Wr w B g k bs) (hw : Ch S w w') (hg : ¬ S g) (hk : ∀ i, k = some i → ¬ S i) : Wr w' B g k bs := by
  obtain ⟨A, c, h1, h2, h3⟩ := h.ex
  exact ⟨⟨A, c, h1.ch hw hg, h2.ch hw (fun i hi => hk i (h3 ▸ hi)), h3⟩, h.ne⟩
theorem Wr.new (w : World) (B : Nat) : Wr (w.alloc (.cells #[.slice none 0 0] 85)) B w.heap.size none [] :=
  ⟨⟨none, 0, Blk.new w _ [.slice none 0 0], OwnS.nil _ _ _, rfl⟩, by simp⟩
/-- what a writer's step turns: its block, and its array's -/
def WrS (g : Nat) (k : Option Nat) : Nat → Prop := fun i => i = g ∨ k = some i
/-- where its array is behind a step -/
def WrK (w : World) (k k' : Option Nat) : Prop := ∀ i, k' = some i → k = some i ∨ w.heap.size ≤ i
theorem WrK.refl (w : World) (k : Option Nat) : WrK w k k := fun _ h => .inl h
theorem WrK.trans {w w1 : World} {k k1 k2 : Option Nat} (h : WrK w k k1) (h2 : WrK w1 k1 k2) (hw : w.heap.size ≤ w1.heap.size) : WrK w k k2 := fun i hi => by
  rcases h2 i hi with h3 | h3
  · exact h i h3
  · exact .inr (Nat.le_trans hw h3)
/-- a step behind steps -/
theorem Ch.wr {w w1 w2 : World} {g : Nat} {k k1 : Option Nat} (h : Ch (WrS g k) w w1) (h2 : Ch (WrS g k1) w1 w2) (hk : WrK w k k1) : Ch (WrS g k) w w2 :=
  h.trans' h2 fun i hi hT => by
    rcases hT with hT | hT
    · exact .inl hT
    · rcases hk i hT with h3 | h3
      · exact .inr h3
      · omega

/-- what a writer's step leaves -/
def WrPost (w : World) (B g : Nat) (k : Option Nat) (bs : List Int) (w' : World) : Prop := ∃ k', Wr w' B g k' bs ∧ Ch (WrS g k) w w' ∧ WrK w k k'
/-- the slice that an append has left is stored -/
theorem wr_app {w wa w1 : World} {B g c c1 : Nat} {k : Option Nat} {A A1 : Option Addr} {ys news : List Int} (hblk : Blk w g 85 [.slice A ys.length c]) (hne : k ≠ some g)
    (hwa : Ch No w wa) (hown : OwnS w1 B 5 (.slice A1 (ys ++ news).length c1) (ints .u8 (ys ++ news))) (hch : Ch (fun i => k = some i) wa w1)
    (hat : ∀ i, (Value.slice A1 (ys ++ news).length c1).ownBlock = some i → k = some i ∨ wa.heap.size ≤ i) :
    WrPost w B g k (ys ++ news) (w1.setCell ⟨g, 0, none⟩ (.slice A1 (ys ++ news).length c1)) := by
  have hlt := hblk.lt
  have hsz := hwa.size
  have hb1 : Blk w1 g 85 [.slice A ys.length c] := (hblk.ch hwa (fun h => h)).ch hch hne
  have hng : ∀ i, (Value.slice A1 (ys ++ news).length c1).ownBlock = some i → i ≠ g := by
    intro i hi he
    subst he
    rcases hat i hi with h | h
    · exact hne h
    · omega
  refine ⟨(Value.slice A1 (ys ++ news).length c1).ownBlock, ⟨⟨A1, c1, hb1.set 0 _, ?_, rfl⟩, fun h => hng g h rfl⟩, ?_, ?_⟩
  · refine hown.ch (S := Only g) ⟨rfl, rfl, rfl, by simp [World.setCell], fun k _ hn => Below.heap_setCell _ _ _ _ hn⟩ (fun i hi he => hng i hi he)
  · have h1 : Ch (WrS g k) w w1 := (hwa.mono (fun _ _ h => h.elim)).trans (hch.mono (fun i _ h => .inr h))
    exact h1.setCell (fun _ => .inl rfl) _
  · intro i hi
    rcases hat i hi with h | h
    · exact .inl h
    · exact .inr (Nat.le_trans hsz h)

/-- a reader: its block, and what is left of its bytes -/
structure Rdr (w : World) (g : Nat) (A : Option Addr) (c : Nat) (xs : List Int) (bad : Bool) : Prop where
  blk : Blk w g 118 [.slice A xs.length c, .bool bad]
  cls : Cls w A (ints .u8 xs)
  le : xs.length ≤ c
  ne : ∀ a, A = some a → a.block ≠ g
  max : c ≤ maxLen
theorem Rdr.lt {w : World} {g c : Nat} {A : Option Addr} {xs : List Int} {bad : Bool} (h : Rdr w g A c xs bad) : g < w.heap.size := h.blk.lt
theorem Rdr.ch {S : Nat → Prop} {w w' : World} {g c : Nat} {A : Option Addr} {xs : List Int} {bad : Bool} (h : Rdr w g A c xs bad) (hw : Ch S w w') (hg : ¬ S g) (hA : ∀ a, A = some a → ¬ S a.block) : Rdr w' g A c xs bad :=
  ⟨h.blk.ch hw hg, h.cls.ch hw hA, h.le, h.ne, h.max⟩
theorem WrPost.blk {w w' : World} {B g b : Nat} {k : Option Nat} {bs : List Int} {t : TypeId} {vs : List Value} (hp : WrPost w B g k bs w') (hb : Blk w b t vs) (hg : b ≠ g) (hk : k ≠ some b) : Blk w' b t vs := by
  obtain ⟨_, _, h2, _⟩ := hp
  exact hb.ch h2 (fun h => by rcases h with h | h; exact hg h; exact hk h)
/-- what a writer's, or a reader's, step turns lies beyond what was old -/
theorem Ch.wr0 {w w1 w2 : World} {B g : Nat} {k : Option Nat} {bs : List Int} (h : Ch No w w1) (hw : Wr w1 B g k bs) (hB : w.heap.size ≤ B) (hg : w.heap.size ≤ g) (h2 : Ch (WrS g k) w1 w2) : Ch No w w2 :=
  h.trans' h2 fun i hi hT => by
    rcases hT with hT | hT
    · omega
    · have := (hw.klt hT).1; omega
theorem Ch.rd0 {w w1 w2 : World} {g : Nat} (h : Ch No w w1) (hg : w.heap.size ≤ g) (h2 : Ch (Only g) w1 w2) : Ch No w w2 :=
  h.trans' h2 fun i hi hT => by have e : i = g := hT; omega
end Go.Proofs.Ytflpelacjdnplaa
