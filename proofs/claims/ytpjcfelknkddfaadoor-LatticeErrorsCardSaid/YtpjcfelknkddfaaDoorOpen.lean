/- How the arguments of a law are opened: slices of whole numbers as lists. -/
import Derived.Test.YtpjcfelknkddfaaDoorMem
import Derived.ProofKit
import Derived.SizedLaws
import Derived.ChangeSlices
namespace Go.Proofs.YtpjcfelknkddfaaDoor
open Go.ChangeShapes Go.WideShapes Go.RowKit

theorem open_row_ints {H : Type} {enc : TypeId × Value → H} {P : Program} {W : World} {base : Nat} {spare : Nat → Bool} {held : Bool} {t e : TypeId} {k : IntKind} {a : Option Addr} {len cap : Nat} {d : DataW H} {ps : List MemPlace} {ts : List TypeId} {ds : List (DataW H)} {j : Nat}
    (hsz : (DataW.weightsEach P ts ds).all (· ≤ reachBytes) = true) (ht : ts[j]? = some t) (hd : ds[j]? = some d) (hu : P.underlying t = some (.slice e)) (he : P.underlying e = some (.int k)) (hc : P.cellsOf e = 1) {B : Nat} (hB : P.bytesOf e = B)
    (h : DataW.Trod enc P W base spare held t (.slice a len cap) d ps) :
    ∃ xs : List Int, len = xs.length ∧ Cls W a (ints k xs) ∧ xs.length ≤ cap ∧ xs.length * B ≤ 140737488351232 ∧ ∀ x ∈ xs, (Lit.int k x).wf = true := by
  obtain ⟨fuel, hf⟩ := h
  rcases open_ints hu he hc hf with ⟨hcs, _⟩ | ⟨x, l, c, zs, hcs, _, hl, hm, hz, hx, hcell, hwz⟩
  · simp [Value.cells] at hcs
    obtain ⟨rfl, rfl, rfl⟩ := hcs
    exact ⟨[], rfl, Cls.nil _ _, Nat.le_refl _, by simp, by simp⟩
  · simp [Value.cells] at hcs
    obtain ⟨rfl, rfl, rfl⟩ := hcs
    obtain ⟨hx, _⟩ := Prod.mk.inj hx
    subst hx
    have z := sized_slice hsz ht hd hu
    rw [hB] at z
    have hl2 : len ≤ zs.length := by
      rw [hz]
      split
      · exact hl
      · exact Nat.le_refl _
    have h1 : (lits (H := H) k (zs.take len)).length + (lits (H := H) k (zs.drop len)).length = zs.length := by
      simp [lits]
      omega
    rw [h1] at z
    have hlen : len = (zs.take len).length := by simp; omega
    refine ⟨zs.take len, hlen, ?_, by rw [← hlen]; exact hl, by rw [← hlen]; exact Nat.le_trans (Nat.mul_le_mul_right _ hl2) z, fun y hy => hwz y (List.mem_of_mem_take hy)⟩
    intro pre v post e
    have hp : pre.length < len := by
      have : (ints k (zs.take len)).length = (pre ++ v :: post).length := by rw [e]
      simp at this
      omega
    have hv : v = .int k (zs.getD pre.length 0) := by
      have h2 : (ints k (zs.take len))[pre.length]? = some v := by rw [e]; simp
      simp only [ints, List.getElem?_map, List.getElem?_take, if_pos hp] at h2
      rw [List.getElem?_eq_getElem (by omega)] at h2
      simp only [Option.map_some, Option.some.injEq] at h2
      rw [← h2]
      simp [List.getD_eq_getElem?_getD, List.getElem?_eq_getElem (show pre.length < zs.length by omega)]
    have hcl := hcell pre.length (by omega)
    rw [← hv] at hcl
    obtain ⟨xb, xo, xs⟩ := x
    cases xs with
    | none =>
      refine ⟨xb, xo, rfl, ?_⟩
      unfold Addr.add at hcl
      split at hcl
      · rename_i h0; rw [h0]; simpa using hcl
      · exact hcl
    | some sp =>
      have h0 := hcell 0 (by omega)
      simp [Addr.add, World.cell?] at h0
      split at h0 <;> simp at h0
end Go.Proofs.YtpjcfelknkddfaaDoor
