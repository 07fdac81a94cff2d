/- Memory words of my own: slices that are read as lists of rows, worlds that differ in a set of blocks alone. No program in sight. -/
import Derived.WalkKit
import Derived.WalkSpells
import Derived.WalkLawsBesides
import Derived.Lib.Hide
namespace Go.Proofs.YtpjcfelknkddfaaDoor
open Go.RowKit

theorem ret_i64 {a b : Int} (h : a = b) : Ending.returned (.int .i64 a) = .returned (.int .i64 b) := by rw [h]
theorem ret_int {k : IntKind} {a b : Int} (h : a = b) : Ending.returned (.int k a) = .returned (.int k b) := by rw [h]
theorem ret_bool {a b : Bool} (h : a = b) : Ending.returned (.bool a) = .returned (.bool b) := by rw [h]

/-- the slice at A reads, cell by cell, as these rows of sz cells each -/
def Rws (w : World) (A : Option Addr) (sz : Nat) (rows : List (List Value)) : Prop :=
  ∀ pre r post, rows = pre ++ r :: post → r.length = sz ∧ ∃ b off, A = some ⟨b, off, none⟩ ∧ ∀ j v, r[j]? = some v → w.cell? ⟨b, off + pre.length * sz + j, none⟩ = some v

/-- one cell an element -/
def Cls (w : World) (A : Option Addr) (vs : List Value) : Prop :=
  ∀ pre v post, vs = pre ++ v :: post → ∃ b off, A = some ⟨b, off, none⟩ ∧ w.cell? ⟨b, off + pre.length, none⟩ = some v

def ints (k : IntKind) (xs : List Int) : List Value := xs.map fun x => .int k x
@[simp] theorem ints_length (k : IntKind) (xs : List Int) : (ints k xs).length = xs.length := by simp [ints]

theorem Cls.at {w : World} {A : Option Addr} {k : IntKind} {xs pre post : List Int} {x : Int} (h : Cls w A (ints k xs)) (e : xs = pre ++ x :: post) :
    ∃ b off, A = some ⟨b, off, none⟩ ∧ w.cell? ⟨b, off + pre.length, none⟩ = some (.int k x) := by
  have := h (ints k pre) (.int k x) (ints k post) (by simp [e, ints])
  simpa using this

theorem Cls.get {w : World} {A : Option Addr} {k : IntKind} {xs : List Int} (h : Cls w A (ints k xs)) (j : Nat) (hj : j < xs.length) :
    ∃ b off, A = some ⟨b, off, none⟩ ∧ w.cell? ⟨b, off + j, none⟩ = some (.int k xs[j]) := by
  have e : xs = xs.take j ++ xs[j] :: xs.drop (j + 1) := by simp
  obtain ⟨b, off, hA, hc⟩ := h.at e
  refine ⟨b, off, hA, ?_⟩
  rw [List.length_take, Nat.min_eq_left (by omega)] at hc
  exact hc

theorem Cls.congr {w w' : World} {A : Option Addr} {vs : List Value} (h : Cls w A vs) (hw : ∀ a v, w.cell? a = some v → w'.cell? a = some v) : Cls w' A vs := by
  intro pre v post e
  obtain ⟨b, off, hA, hc⟩ := h pre v post e
  exact ⟨b, off, hA, hw _ _ hc⟩

theorem cell_below {W w : World} (hb : Below W.heap.size W w) {a : Addr} {v : Value} (h : W.cell? a = some v) : w.cell? a = some v :=
  (hb.cell (World.block_lt_of_cell? W a h)).trans h

theorem Cls.below {w w' : World} {A : Option Addr} {vs : List Value} (h : Cls w A vs) (hb : Below w.heap.size w w') : Cls w' A vs :=
  h.congr fun _ _ hc => cell_below hb hc

theorem below_drewN {B : Nat} {a w : World} (h : Below B a w) (k : Nat) : Below B a (w.drewN k) := ⟨h.os, h.tape, h.output, h.size, h.block⟩

/-- of the blocks that there were none has turned but those in S; the streams are as they were -/
structure Ch (S : Nat → Prop) (w w' : World) : Prop where
  os : w'.os = w.os
  tape : w'.tape = w.tape
  output : w'.output = w.output
  size : w.heap.size ≤ w'.heap.size
  block : ∀ k, k < w.heap.size → ¬ S k → w'.heap[k]? = w.heap[k]?

def No : Nat → Prop := fun _ => False
def Only (g : Nat) : Nat → Prop := fun k => k = g

theorem Ch.refl (S : Nat → Prop) (w : World) : Ch S w w := ⟨rfl, rfl, rfl, Nat.le_refl _, fun _ _ _ => rfl⟩
theorem Ch.mono {S T : Nat → Prop} {w w' : World} (h : Ch S w w') (hS : ∀ k, k < w.heap.size → S k → T k) : Ch T w w' :=
  ⟨h.os, h.tape, h.output, h.size, fun k hk hn => h.block k hk (fun hs => hn (hS k hk hs))⟩
theorem Ch.trans {S : Nat → Prop} {a b c : World} (h : Ch S a b) (k : Ch S b c) : Ch S a c :=
  ⟨k.os.trans h.os, k.tape.trans h.tape, k.output.trans h.output, Nat.le_trans h.size k.size, fun i hi hn => (k.block i (Nat.lt_of_lt_of_le hi h.size) hn).trans (h.block i hi hn)⟩
/-- the second step may turn what the first one has made, too -/
theorem Ch.trans' {S T : Nat → Prop} {a b c : World} (h : Ch S a b) (k : Ch T b c) (hT : ∀ i, i < a.heap.size → T i → S i) : Ch S a c :=
  ⟨k.os.trans h.os, k.tape.trans h.tape, k.output.trans h.output, Nat.le_trans h.size k.size, fun i hi hn => (k.block i (Nat.lt_of_lt_of_le hi h.size) (fun ht => hn (hT i hi ht))).trans (h.block i hi hn)⟩
theorem Ch.drewN {S : Nat → Prop} {a w : World} (h : Ch S a w) (k : Nat) : Ch S a (w.drewN k) := ⟨h.os, h.tape, h.output, h.size, h.block⟩
theorem Ch.drew {S : Nat → Prop} {a w : World} (h : Ch S a w) : Ch S a w.drew := ⟨h.os, h.tape, h.output, h.size, h.block⟩
theorem Ch.alloc {S : Nat → Prop} {a w : World} (h : Ch S a w) (o : Obj) : Ch S a (w.alloc o) :=
  h.trans ⟨rfl, rfl, rfl, by simp, fun k hk _ => Below.heap_alloc _ _ _ hk⟩
theorem Ch.setCell {S : Nat → Prop} {a w : World} (h : Ch S a w) {p : Addr} (hp : p.block < a.heap.size → S p.block) (u : Value) : Ch S a (w.setCell p u) :=
  h.trans' (T := Only p.block) ⟨rfl, rfl, rfl, by simp [World.setCell], fun k _ hn => Below.heap_setCell _ _ _ _ hn⟩ (fun i hi e => by have e' : i = p.block := e; subst e'; exact hp hi)
theorem Ch.grown {S : Nat → Prop} {a w w' : World} {row : Option Nat} (h : Ch S a w) (hg : w.grownBy w' row) (hr : ∀ k, row = some k → k < a.heap.size → S k) : Ch S a w' :=
  h.trans' (T := fun k => row = some k) ⟨hg.os, hg.tape, hg.output, hg.size, fun k hk hn => hg.block k hk (fun e => hn e.symm)⟩ (fun i hi e => hr i e hi)
theorem Ch.of_below {S : Nat → Prop} {w w' : World} (h : Below w.heap.size w w') : Ch S w w' := ⟨h.os, h.tape, h.output, h.size, fun k hk _ => h.block k hk⟩
theorem Ch.to_below {B : Nat} {S : Nat → Prop} {W w w' : World} (h : Below B W w) (k : Ch S w w') (hB : B ≤ w.heap.size) (hS : ∀ i, S i → B ≤ i) : Below B W w' :=
  h.trans ⟨k.os, k.tape, k.output, k.size, fun i hi => k.block i (Nat.lt_of_lt_of_le hi hB) (fun hs => by have := hS i hs; omega)⟩
theorem Ch.to_below1 {B g : Nat} {W w w' : World} (h : Below B W w) (k : Ch (Only g) w w') (hB : B ≤ w.heap.size) (hg : B ≤ g) : Below B W w' :=
  Ch.to_below h k hB (fun i e => by have e' : i = g := e; omega)
theorem Ch.same {w w' : World} (k : Ch No w w') : Below w.heap.size w w' := ⟨k.os, k.tape, k.output, k.size, fun i hi => k.block i hi (fun h => h)⟩
theorem Ch.cell {S : Nat → Prop} {w w' : World} (h : Ch S w w') {a : Addr} {v : Value} (hc : w.cell? a = some v) (hn : ¬ S a.block) : w'.cell? a = some v :=
  (World.cell?_of_block (h.block a.block (World.block_lt_of_cell? w a hc) hn)).trans hc
theorem Ch.frozen {S : Nat → Prop} {w w' : World} (h : Ch S w w') {a : Addr} {b : Bool} (hl : a.block < w.heap.size) (hf : w.frozen? a = b) (hn : ¬ S a.block) : w'.frozen? a = b :=
  (World.frozen?_of_block (h.block a.block hl hn)).trans hf
theorem Ch.at {S : Nat → Prop} {w w' : World} (h : Ch S w w') {g : Nat} {o : Obj} (hg : w.heap[g]? = some o) (hn : ¬ S g) : w'.heap[g]? = some o :=
  (h.block g (Array.getElem?_eq_some_iff.1 hg).1 hn).trans hg
theorem Cls.ch {S : Nat → Prop} {w w' : World} {A : Option Addr} {vs : List Value} (h : Cls w A vs) (hw : Ch S w w') (hn : ∀ a, A = some a → ¬ S a.block) : Cls w' A vs := by
  intro pre v post e
  obtain ⟨b, off, hA, hc⟩ := h pre v post e
  have hb : ¬ S b := hn _ hA
  exact ⟨b, off, hA, hw.cell hc hb⟩

theorem Cls.nil (w : World) (A : Option Addr) : Cls w A [] := fun pre v post e => by simp at e
theorem Cls.lit (w : World) (t : TypeId) (vs : List Value) : Cls (w.alloc (.cells vs.toArray t)) (some ⟨w.heap.size, 0, none⟩) vs := by
  intro pre v post e
  refine ⟨_, _, rfl, ?_⟩
  have h := cell_of_row (w.alloc (.cells vs.toArray t)) w.heap.size (0 + pre.length) vs.toArray t (0, 0) (heap_alloc_new w _)
  rw [h]
  simp [e]

/-- a block of cells, not frozen -/
def Blk (w : World) (g : Nat) (t : TypeId) (vs : List Value) : Prop := w.heap[g]? = some (.cells vs.toArray t (0, 0))
theorem Blk.lt {w : World} {g : Nat} {t : TypeId} {vs : List Value} (h : Blk w g t vs) : g < w.heap.size := (Array.getElem?_eq_some_iff.1 h).1
theorem Blk.cell {w : World} {g : Nat} {t : TypeId} {vs : List Value} (h : Blk w g t vs) (i : Nat) : w.cell? ⟨g, i, none⟩ = vs[i]? := by
  have := cell_of_row w g i _ t (0, 0) h
  simpa using this
theorem Blk.frozen {w : World} {g : Nat} {t : TypeId} {vs : List Value} (h : Blk w g t vs) (i : Nat) : w.frozen? ⟨g, i, none⟩ = false := by
  unfold Blk at h
  simp [World.frozen?, h]
theorem Blk.ch {S : Nat → Prop} {w w' : World} {g : Nat} {t : TypeId} {vs : List Value} (h : Blk w g t vs) (hw : Ch S w w') (hn : ¬ S g) : Blk w' g t vs := hw.at h hn
theorem Blk.new (w : World) (t : TypeId) (vs : List Value) : Blk (w.alloc (.cells vs.toArray t)) w.heap.size t vs := heap_alloc_new w _
theorem Blk.alloc {w : World} {g : Nat} {t : TypeId} {vs : List Value} (h : Blk w g t vs) (o : Obj) : Blk (w.alloc o) g t vs := (Below.heap_alloc w o g h.lt).trans h
theorem Blk.drewN {w : World} {g : Nat} {t : TypeId} {vs : List Value} (h : Blk w g t vs) (k : Nat) : Blk (w.drewN k) g t vs := h
theorem Blk.set {w : World} {g : Nat} {t : TypeId} {vs : List Value} (h : Blk w g t vs) (i : Nat) (u : Value) : Blk (w.setCell ⟨g, i, none⟩ u) g t (vs.set i u) := by
  unfold Blk at *
  simp [World.setCell, Array.getElem?_modify, h]
theorem Blk.set_other {w : World} {g : Nat} {t : TypeId} {vs : List Value} (h : Blk w g t vs) {p : Addr} (hp : g ≠ p.block) (u : Value) : Blk (w.setCell p u) g t vs :=
  (Below.heap_setCell w p u g hp).trans h
theorem Blk.grown {w w' : World} {g : Nat} {t : TypeId} {vs : List Value} {row : Option Nat} (h : Blk w g t vs) (hg : w.grownBy w' row) (hne : some g ≠ row) : Blk w' g t vs :=
  (hg.block g h.lt hne).trans h
theorem Blk.four {w : World} {g : Nat} {t : TypeId} {a b c d : Value} (h : Blk w g t [a, b, c, d]) : w.cell? ⟨g, 0, none⟩ = some a ∧ w.cell? ⟨g, 1, none⟩ = some b ∧ w.cell? ⟨g, 2, none⟩ = some c ∧ w.cell? ⟨g, 3, none⟩ = some d := ⟨h.cell 0, h.cell 1, h.cell 2, h.cell 3⟩
theorem Blk.ne_new {w : World} {g : Nat} {t : TypeId} {vs : List Value} (h : Blk w g t vs) : g ≠ w.heap.size := by have := h.lt; omega
end Go.Proofs.YtpjcfelknkddfaaDoor
