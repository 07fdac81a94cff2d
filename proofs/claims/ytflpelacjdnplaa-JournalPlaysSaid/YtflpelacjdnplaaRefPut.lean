/- The reference's Put, Int: what they come to. -/
import Derived.Test.YtflpelacjdnplaaRefs
import Derived.Test.YtflpelacjdnplaaOctClone
namespace Go.Proofs.Ytflpelacjdnplaa
open Go.RowKit

set_option maxHeartbeats 1000000 in
theorem RPut_any (n : Nat) (size : Int) (w : World) (hn : n < 2 ^ 64) : Calls Try.prog 61 #[.int .u64 n, .int .i64 size] w (MadeS w (putB n (heldB size))) := by
  obtain ⟨hh1, hh8⟩ := heldB_le size
  have ho := fun w => RHeld_18 size w
  generalize heldB size = s at *
  go_enter Try.func61, Try.ntmps61
  go_wp2_with fail
  go_loopw [0, 5, 6, 7] (fun m out i _ wr => ∃ j : Nat, j ≤ s ∧ i = .int .i64 j ∧ m = .int .u64 ((n / 256 ^ j : Nat) : Int) ∧ Hid (OwnS wr w.heap.size 5 out (ints .u8 (putB n j)) ∧ Ch No w wr)) (fun _ _ i _ _ => s - (intOf i).toNat)
  case atStart => exact ⟨0, by omega, rfl, by simp, Lib.hid ⟨by simpa [ints, putB] using OwnS.lit w w.heap.size 5 [] (Nat.le_refl _) (by simp), (Ch.refl No w).alloc _⟩⟩
  case round =>
    obtain ⟨j, hj, rfl, rfl, hst⟩ := hrel
    have hyl := putB_length n j
    obtain ⟨ys, hys⟩ : ∃ ys, putB n j = ys := ⟨_, rfl⟩
    rw [hys] at hst hyl
    obtain ⟨A, c, rfl, L, _⟩ := hst.out.1.slice_ints
    have hy8 : ys.length ≤ 8 := by omega
    have HY := Lib.hid (And.intro hys hyl)
    clear hys hyl
    have hsz := hst.out.2.size
    by_cases hjs : j < s
    · have hlt : n / 256 ^ j < 18446744073709551616 := Nat.lt_of_le_of_lt (Nat.div_le_self _ _) hn
      have hs2 : n / 256 ^ (j + 1) = n / 256 ^ j / 256 := by rw [Nat.pow_succ, Nat.div_div_eq_div_mul]
      have hp : putB n (j + 1) = [((n / 256 ^ j % 256 : Nat) : Int)] ++ ys := by rw [← HY.out.1]; rfl
      obtain ⟨q, hq⟩ : ∃ q, n / 256 ^ j = q := ⟨_, rfl⟩
      rw [hq] at hlt hs2 hp ⊢
      have HS := Lib.hid (And.intro hs2 hp)
      have HL := Lib.hid L
      clear hs2 hp hq L
      obtain ⟨b, hb⟩ : ∃ b : Nat, q % 256 = b := ⟨_, rfl⟩
      have hbl : b < 256 := by omega
      have hqb : ((q : Int) % 256) = (b : Int) := by omega
      rw [hb] at HS
      clear hb
      go_wp2_with fail
      refine (ho _).mono ?_
      rintro e w1 ⟨rfl, rfl⟩
      go_wp2_with (at_builtin; refine appI rfl _ _ 58 5 rfl .u8 0 1 Try.underlying58 u8info w.heap.size (some ⟨wr.heap.size, 0, none⟩) 1 [(b : Int)] rfl (OwnS.lit wr w.heap.size 5 [.int .u8 b] hsz (by simp [maxLen])) A c ys rfl (HL.out.ch ((Ch.refl No wr).alloc _) (fun _ _ h => h)) ?hn ?hb ?hB ?_)
      case hn => simp [maxLen]; omega
      case hb => simp; omega
      case hB => simp; omega
      intro A1 c1 w2 o2 h2 _
      have HO : Hid (OwnS w2 w.heap.size 5 (.slice A1 (1 + ys.length) c1) (ints .u8 (putB n (j + 1))) ∧ Ch No w w2) := by
        refine Lib.hid ⟨?_, Ch.trans' (hst.out.2.alloc _) h2 (fun i hi he => by simp [Value.ownBlock] at he; omega)⟩
        rw [HS.out.2]
        have := o2
        simpa [Nat.add_comm] using this
      clear o2 h2 hst HL
      go_wp2_with fail
      go_roundw
      case rel => exact ⟨j + 1, by omega, by go_num, by rw [HS.out.1]; simp, HO⟩
      case measure => simp [intOf]; omega
    · obtain rfl : j = s := by omega
      obtain ⟨q, hq⟩ : ∃ q, n / 256 ^ j = q := ⟨_, rfl⟩
      rw [hq]
      clear hq L
      go_wp2_with fail
      refine (ho _).mono ?_
      rintro e w1 ⟨rfl, rfl⟩
      go_wp2_with fail
      go_ret
      rw [HY.out.1]
      exact ⟨A, c, rfl, hst.out.1, hst.out.2⟩

theorem RInt2_any (n : Int) (size : Int) (w : World) : Calls Try.prog 45 #[.int .i64 n, .int .i64 size] w (MadeS w (putB (toU n) (heldB size))) := by
  have hq := toU_eq n
  have HP := Lib.hid (RPut_any (toU n) size w (toU_lt n))
  go_enter Try.func45, Try.ntmps45
  go_wp2_with fail
  refine HP.out.mono ?_
  rintro e w1 ⟨A, c, rfl, h1, h2⟩
  have H1 := Lib.hid (And.intro h1 h2)
  clear h1 h2
  go_wp2_with fail
  go_ret
  exact ⟨A, c, by simp, H1.out.1, H1.out.2⟩
end Go.Proofs.Ytflpelacjdnplaa
