/- A lattice in memory; its functions but New and Close. -/
import Derived.Test.YtpjcfelknkddfaaDoorLatMap
import Derived.Test.YtpjcfelknkddfaaDoorLatMath
import Derived.Test.YtpjcfelknkddfaaDoorQuiet
import Derived.Test.YtpjcfelknkddfaaDoorLexF
import Derived.Deep.Cut
namespace Go.Proofs.YtpjcfelknkddfaaDoor
open Go.RowKit

/-- a label's cells -/
def labR (x : Nat × Nat) : List Value := [.int .u8 x.1, .int .u16 x.2]
theorem Rws.no {w w' : World} {A : Option Addr} {sz : Nat} {rows : List (List Value)} (h : Rws w A sz rows) (hc : Ch No w w') : Rws w' A sz rows := by
  intro pre r post e
  obtain ⟨h1, b, off, hA, h2⟩ := h pre r post e
  exact ⟨h1, b, off, hA, fun j v hj => hc.cell (h2 j v hj) (fun h => h)⟩
theorem Rws.lab {w : World} {A : Option Addr} {xs pre post : List (Nat × Nat)} {a : Nat × Nat} (h : Rws w A 2 (xs.map labR)) (e : xs = pre ++ a :: post) :
    ∃ b off, A = some ⟨b, off, none⟩ ∧ w.cell? ⟨b, off + pre.length * 2, none⟩ = some (.int .u8 a.1) ∧ w.cell? ⟨b, off + pre.length * 2 + 1, none⟩ = some (.int .u16 a.2) := by
  obtain ⟨_, b, off, hA, hc⟩ := h (pre.map labR) (labR a) (post.map labR) (by rw [e]; simp)
  rw [List.length_map] at hc
  exact ⟨b, off, hA, hc 0 _ rfl, hc 1 _ rfl⟩
theorem split_at {α : Type} {xs : List α} {i : Nat} (h : i < xs.length) : ∃ pre x post, xs = pre ++ x :: post ∧ pre.length = i ∧ xs[i]? = some x :=
  ⟨xs.take i, xs[i], xs.drop (i + 1), by simp, by simp; omega, List.getElem?_eq_getElem h⟩
/-- labels that are labels -/
def okL (Ls : List (Nat × Nat)) : Prop := ∀ x ∈ Ls, x.1 < 256 ∧ x.2 < 65536
/-- a lattice lies at pb: its labels at A, its map at mb, its down-sets at D -/
structure Lat (w : World) (pb N : Nat) (A : Option Addr) (c mb : Nat) (D : Option Addr) (cd : Nat) (Ls : List (Nat × Nat)) : Prop where
  len : Ls.length = N
  ok : okL Ls
  le : N ≤ 16
  blk : Blk w pb 56 [.slice A N c, .map (some mb), .slice D N cd]
  lab : Rws w A 2 (Ls.map labR)
  map : w.heap[mb]? = some (.map (entsFrom Ls 0).toArray N)
  dwn : Cls w D (ints .u32 (Ls.map fun x => ((bel Ls x : Nat) : Int)))
section
variable {w w' : World} {pb N : Nat} {A : Option Addr} {c mb : Nat} {D : Option Addr} {cd : Nat} {Ls : List (Nat × Nat)}
theorem Lat.no (h : Lat w pb N A c mb D cd Ls) (hc : Ch No w w') : Lat w' pb N A c mb D cd Ls :=
  ⟨h.len, h.ok, h.le, h.blk.ch hc (fun h => h), h.lab.no hc, hc.at h.map (fun h => h), h.dwn.ch hc (fun _ _ h => h)⟩
theorem Lat.three (h : Lat w pb N A c mb D cd Ls) : w.cell? ⟨pb, 0, none⟩ = some (.slice A N c) ∧ w.cell? ⟨pb, 1, none⟩ = some (.map (some mb)) ∧ w.cell? ⟨pb, 2, none⟩ = some (.slice D N cd) := ⟨h.blk.cell 0, h.blk.cell 1, h.blk.cell 2⟩
theorem LtLen_any (h : Lat w pb N A c mb D cd Ls) : Calls Tryd.prog 16 #[.pointer (some ⟨pb, 0, none⟩)] w fun e w' => e = .returned (.int .i64 N) ∧ Ch No w w' := by
  obtain ⟨k0, _, _⟩ := h.three
  clear h
  go_enter Tryd.func16, Tryd.ntmps16
  go_wp2_with fail
  go_ret
  exact ⟨rfl, Ch.refl _ _⟩
theorem LtAll_any (h : Lat w pb N A c mb D cd Ls) : Calls Tryd.prog 31 #[.pointer (some ⟨pb, 0, none⟩)] w fun e w' => e = .returned (.int .u32 ((2 ^ N - 1 : Nat) : Int)) ∧ Ch No w w' := by
  obtain ⟨k0, _, _⟩ := h.three
  have hN := h.le
  clear h
  go_enter Tryd.func31, Tryd.ntmps31
  go_wp2_with fail
  go_ret
  refine ⟨ret_int ?_, Ch.refl _ _⟩
  have h2 : 2 ^ N ≤ 2 ^ 16 := Nat.pow_le_pow_right (by omega) hN
  have h1 := Nat.two_pow_pos N
  have e : (2 : Int) ^ N = ((2 ^ N : Nat) : Int) := by simp
  rw [e]
  generalize 2 ^ N = p at *
  omega
/-- the label of a number, and the error -/
def atL (Ls : List (Nat × Nat)) (i : Int) : (Nat × Nat) × Int := if i < 0 then ((0, 0), 30) else match Ls[i.toNat]? with | some x => (x, 0) | none => ((0, 0), 30)
theorem LtAt_any (h : Lat w pb N A c mb D cd Ls) (i : Int) : Calls Tryd.prog 13 #[.pointer (some ⟨pb, 0, none⟩), .int .i64 i] w fun e w' => e = .returned (.tuple #[.agg #[.int .u8 (atL Ls i).1.1, .int .u16 (atL Ls i).1.2], .int .i64 (atL Ls i).2]) ∧ Ch No w w' := by
  obtain ⟨k0, _, _⟩ := h.three
  have hlen := h.len
  have lp := h.blk.lt
  by_cases h0 : i < 0
  · have e : atL Ls i = ((0, 0), 30) := by unfold atL; rw [if_pos h0]
    rw [e]
    clear h hlen e
    go_enter Tryd.func13, Tryd.ntmps13
    go_wp2_with fail
    refine bodyPost_ret (v := .tuple #[.agg #[.int .u8 0, .int .u16 0], .int .i64 30]) (by simp [results, Tryd.f13, go_sem]) rfl ?_
    exact ⟨rfl, (by repeat (first | exact Ch.refl _ _ | apply Ch.alloc | apply Ch.drewN))⟩
  · obtain ⟨j, rfl⟩ : ∃ j : Nat, i = j := ⟨i.toNat, by omega⟩
    by_cases hj : j < N
    · obtain ⟨pre, x, post, e, hp, hx⟩ := split_at (xs := Ls) (i := j) (by omega)
      have ea : atL Ls j = (x, 0) := by unfold atL; rw [if_neg h0, Int.toNat_natCast, hx]
      rw [ea]
      obtain ⟨b, off, hA, c0, c1⟩ := h.lab.lab e
      rw [hp] at c0 c1
      have lb : b < w.heap.size := World.block_lt_of_cell? _ _ c0
      clear h hlen e hp hx ea
      subst hA
      go_enter Tryd.func13, Tryd.ntmps13
      go_wp2_with fail
      refine bodyPost_ret (v := .tuple #[.agg #[.int .u8 x.1, .int .u16 x.2], .int .i64 0]) (by simp [results, Tryd.f13, go_sem]) rfl ?_
      exact ⟨rfl, (by repeat (first | exact Ch.refl _ _ | apply Ch.setCell | apply Ch.alloc | apply Ch.drewN))⟩
    · have ea : atL Ls j = ((0, 0), 30) := by unfold atL; rw [if_neg h0, Int.toNat_natCast, List.getElem?_eq_none (by omega)]
      rw [ea]
      clear h hlen ea
      go_enter Tryd.func13, Tryd.ntmps13
      go_wp2_with fail
      refine bodyPost_ret (v := .tuple #[.agg #[.int .u8 0, .int .u16 0], .int .i64 30]) (by simp [results, Tryd.f13, go_sem]) rfl ?_
      exact ⟨rfl, (by repeat (first | exact Ch.refl _ _ | apply Ch.alloc | apply Ch.drewN))⟩
theorem LtDown_any (h : Lat w pb N A c mb D cd Ls) (i : Int) : Calls Tryd.prog 17 #[.pointer (some ⟨pb, 0, none⟩), .int .i64 i] w fun e w' => e = .returned (.int .u32 ((if i < 0 then 0 else dwn Ls i : Nat) : Int)) ∧ Ch No w w' := by
  obtain ⟨_, _, k2⟩ := h.three
  have hlen := h.len
  by_cases h0 : i < 0
  · rw [if_pos h0]
    clear h hlen
    go_enter Tryd.func17, Tryd.ntmps17
    go_wp2_with fail
    go_ret
    exact ⟨rfl, Ch.refl _ _⟩
  · rw [if_neg h0]
    obtain ⟨j, rfl⟩ : ∃ j : Nat, i = j := ⟨i.toNat, by omega⟩
    unfold dwn
    rw [Int.toNat_natCast]
    by_cases hj : j < N
    · obtain ⟨pre, x, post, e, hp, hx⟩ := split_at (xs := Ls) (i := j) (by omega)
      rw [hx, Option.map_some, Option.getD_some]
      have hsp : (Ls.map fun x => ((bel Ls x : Nat) : Int)) = (pre.map fun x => ((bel Ls x : Nat) : Int)) ++ ((bel Ls x : Nat) : Int) :: (post.map fun x => ((bel Ls x : Nat) : Int)) := by
        generalize hB : (fun x => ((bel Ls x : Nat) : Int)) = B
        have e1 : ((bel Ls x : Nat) : Int) = B x := by rw [← hB]
        rw [e1, e]
        simp
      obtain ⟨b, off, hA, hcell⟩ := h.dwn.at hsp
      rw [List.length_map, hp] at hcell
      clear h hlen e hp hx hsp
      subst hA
      generalize bel Ls x = m at *
      go_enter Tryd.func17, Tryd.ntmps17
      go_wp2_with fail
      go_ret
      exact ⟨rfl, Ch.refl _ _⟩
    · rw [List.getElem?_eq_none (by omega)]
      clear h hlen
      go_enter Tryd.func17, Tryd.ntmps17
      go_wp2_with fail
      go_ret
      exact ⟨rfl, Ch.refl _ _⟩
end
end Go.Proofs.YtpjcfelknkddfaaDoor
