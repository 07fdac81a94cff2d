/- The references' helpers: Held, Same, Low: what each comes to. -/
import Derived.Test.YtflpelacjdnplaaRefBit
import Derived.Test.YtflpelacjdnplaaOctMem
import Derived.Laws.BytesArg
import Derived.WideShapes
namespace Go.Proofs.Ytflpelacjdnplaa
open Go.RowKit

theorem RHeld_any (n lo hi : Int) (w : World) (hlh : lo ≤ hi) : Calls Try.prog 41 #[.int .i64 n, .int .i64 lo, .int .i64 hi] w fun e w' => e = .returned (.int .i64 (max lo (min n hi))) ∧ w = w' := by
  by_cases h1 : hi < n
  · go_enter Try.func41, Try.ntmps41
    go_wp2
    go_ret
    exact ⟨ret_i64 (by omega), rfl⟩
  · by_cases h2 : n < lo
    · go_enter Try.func41, Try.ntmps41
      go_wp2
      go_ret
      exact ⟨ret_i64 (by omega), rfl⟩
    · go_enter Try.func41, Try.ntmps41
      go_wp2
      go_ret
      exact ⟨ret_i64 (by omega), rfl⟩
theorem RHeld_18 (n : Int) (w : World) : Calls Try.prog 41 #[.int .i64 n, .int .i64 1, .int .i64 8] w fun e w' => e = .returned (.int .i64 (heldB n)) ∧ w = w' := by
  have e : ((heldB n : Nat) : Int) = max 1 (min n 8) := by unfold heldB; omega
  rw [e]
  exact RHeld_any n 1 8 w (by omega)
theorem RHeld_64 (n : Int) (w : World) : Calls Try.prog 41 #[.int .i64 n, .int .i64 0, .int .i64 64] w fun e w' => e = .returned (.int .i64 (hld n)) ∧ w = w' := by
  have e : ((hld n : Nat) : Int) = max 0 (min n 64) := by unfold hld; omega
  rw [e]
  exact RHeld_any n 0 64 w (by omega)

/-- bytes as a string -/
theorem conv_bytes (w : World) (A : Option Addr) (c : Nat) (xs : List Int) (h : Cls w A (ints .u8 xs)) : (convert 58 9 (.slice A xs.length c)).run Try.prog w = .ok (.string (strOfNums xs)) w := by
  cases A with
  | none =>
    have hnil : xs = [] := by
      cases xs with
      | nil => rfl
      | cons u us =>
        obtain ⟨b, off, h, _⟩ := h [] (.int .u8 u) (ints .u8 us) rfl
        cases h
    subst hnil
    exact run_convert_bytes_nil w 58 5 Try.underlying58 Try.underlying5 0 c 9 Try.underlying9
  | some ad =>
    by_cases h0 : xs = []
    · subst h0
      rw [show (Value.slice (some ad) ([] : List Int).length c) = Value.slice (some ad) 0 c from rfl]
      rw [run_convert_bytes_string (P := Try.prog) w 58 9 5 (some ad) 0 c Try.underlying58 Try.underlying5 Try.underlying9]
      rw [run_bytesToString w ad 0 c [] (by simp [loadCells, loadCellsFrom])]
      rfl
    · obtain ⟨b, off, e, _⟩ := h.get 0 (List.length_pos_iff.2 h0)
      cases e
      refine run_convert_bytes_arg w 58 5 Try.underlying58 Try.underlying5 b off xs.length c xs rfl (fun i hi => ?_) 9 Try.underlying9
      obtain ⟨b', off', e, hc⟩ := h.get i hi
      cases e
      rw [hc]
      simp [List.getD_eq_getElem?_getD, List.getElem?_eq_getElem hi]
theorem strOfNums_inj {xs ys : List Int} (hx : ∀ x ∈ xs, isB x) (hy : ∀ y ∈ ys, isB y) (h : strOfNums xs = strOfNums ys) : xs = ys := by
  have h1 : xs.map (fun n => UInt8.ofNat n.toNat) = ys.map (fun n => UInt8.ofNat n.toNat) := by
    rw [← strOfNums_data, ← strOfNums_data, h]
  clear h
  induction xs generalizing ys with
  | nil => cases ys with
    | nil => rfl
    | cons y ys => simp at h1
  | cons x xs ih => cases ys with
    | nil => simp at h1
    | cons y ys =>
      simp only [List.map_cons, List.cons.injEq] at h1
      have hx0 := hx x (by simp)
      have hy0 := hy y (by simp)
      unfold isB at hx0 hy0
      have e := congrArg UInt8.toNat h1.1
      simp only [UInt8.toNat_ofNat'] at e
      have : x = y := by omega
      rw [this, ih (fun z hz => hx z (List.mem_cons_of_mem _ hz)) (fun z hz => hy z (List.mem_cons_of_mem _ hz)) h1.2]

theorem Same_any (w : World) (A1 : Option Addr) (c1 : Nat) (xs : List Int) (A2 : Option Addr) (c2 : Nat) (ys : List Int) (h1 : Cls w A1 (ints .u8 xs)) (h2 : Cls w A2 (ints .u8 ys)) (hx : ∀ x ∈ xs, isB x) (hy : ∀ y ∈ ys, isB y) :
    Calls Try.prog 35 #[.slice A1 xs.length c1, .slice A2 ys.length c2] w fun e w' => e = .returned (.bool (decide (xs = ys))) ∧ w = w' := by
  have e1 := conv_bytes w A1 c1 xs h1
  have e2 := conv_bytes w A2 c2 ys h2
  go_enter Try.func35, Try.ntmps35
  go_wp2_with fail
  go_ret
  refine ⟨ret_bool ?_, rfl⟩
  rw [Bool.eq_iff_iff]
  simp only [beq_iff_eq, decide_eq_true_eq]
  constructor
  · intro h
    refine strOfNums_inj hx hy ?_
    have h' := h
    rw [ByteArray.toList_eq, ByteArray.toList_eq] at h'
    exact Go.WideShapes.bytes_inj h'
  · rintro rfl
    rfl
end Go.Proofs.Ytflpelacjdnplaa
