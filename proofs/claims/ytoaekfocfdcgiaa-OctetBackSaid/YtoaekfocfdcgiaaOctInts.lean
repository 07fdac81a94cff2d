/- OctetInts: numbers of either kind come back by as many bytes as they need: the walk. -/
import Derived.Test.YtoaekfocfdcgiaaOctAlive
import Derived.Test.YtoaekfocfdcgiaaRefLow
import Derived.Test.YtoaekfocfdcgiaaRead
namespace Go.Proofs.Ytoaekfocfdcgiaa
open Go.RowKit

theorem getN_put_from (m s : Nat) : ∀ a : Nat, (putB m s).foldl (fun a x => 256 * a + x.toNat) a = a * 256 ^ s + m % 256 ^ s := by
  induction s with
  | zero => intro a; simp [putB, Nat.mod_one]
  | succ s ih =>
    intro a
    rw [putB, List.foldl_cons, ih]
    have h1 : m % 256 ^ (s + 1) = m % 256 ^ s + 256 ^ s * (m / 256 ^ s % 256) := by rw [Nat.pow_succ, Nat.mod_mul]
    rw [h1]
    have h2 : ((m / 256 ^ s % 256 : Nat) : Int).toNat = m / 256 ^ s % 256 := Int.toNat_natCast _
    rw [h2, Nat.add_mul, Nat.pow_succ]
    generalize m / 256 ^ s % 256 = q
    generalize 256 ^ s = p
    have e1 : 256 * a * p = a * (p * 256) := by rw [Nat.mul_comm p 256, ← Nat.mul_assoc, Nat.mul_comm a 256]
    have e2 : q * p = p * q := Nat.mul_comm _ _
    omega
theorem getN_putB (m s : Nat) : getN (putB m s) = m % 256 ^ s := by
  have := getN_put_from m s 0
  simpa [getN] using this
theorem heldB_id (s : Nat) (h1 : 1 ≤ s) (h8 : s ≤ 8) : heldB (s : Int) = s := by unfold heldB; omega

/-- what comes back -/
structure IntsFact (n : Int) (s : Nat) (x : Int) (b0 : Int) : Prop where
  got : x = n ↔ (s = 8 ∨ (-2 ^ (8 * s - 1) ≤ n ∧ n < 2 ^ (8 * s - 1)))
  neg : x < 0 ↔ 128 ≤ b0
theorem ints_fact (n : Int) (hn : wfI n) (s : Nat) (h1 : 1 ≤ s) (h8 : s ≤ 8) : IntsFact n s (sgn (toU n % 256 ^ s) (8 * s)) ((toU n / 256 ^ (s - 1) % 256 : Nat) : Int) := by
  unfold wfI at hn
  have h : s = 1 ∨ s = 2 ∨ s = 3 ∨ s = 4 ∨ s = 5 ∨ s = 6 ∨ s = 7 ∨ s = 8 := by omega
  have ht : ((toU n : Nat) : Int) = n % 18446744073709551616 := by unfold toU; omega
  generalize toU n = m at *
  rcases h with rfl | rfl | rfl | rfl | rfl | rfl | rfl | rfl <;>
  · refine ⟨?_, ?_⟩
    · simp only [sgn, Nat.reduceMul, Nat.reduceSub, Nat.reducePow, Int.reducePow, Int.reduceNeg, Nat.reduceEqDiff, if_false, false_or, true_or, iff_true]
      split <;> omega
    · simp only [sgn, Nat.reduceMul, Nat.reduceSub, Nat.reducePow, Int.reducePow, Nat.reduceEqDiff, if_false]
      split <;> omega

set_option maxHeartbeats 4000000 in
set_option maxRecDepth 100000 in
theorem octetInts_core (W : World) (n size : Int) (hn : wfI n) :
    Calls Try.prog 5 #[.int .i64 n, .int .i64 size] W fun e w' => e = .returned (.bool true) ∧ Ch No W w' := by
  have hq : bits .and .i64 size 7 = size % 8 := i64_mask size 3 (by omega)
  obtain ⟨s, hs⟩ : ∃ s : Nat, (1 : Int) + size % 8 = s := ⟨(1 + size % 8).toNat, by omega⟩
  have h1 : 1 ≤ s := by omega
  have h8 : s ≤ 8 := by omega
  have hF := ints_fact n hn s h1 h8
  have hlo : lowB (toU n) (8 * (s : Int)) = toU n % 256 ^ s := by
    unfold lowB
    rw [hld_8 s h8, show (2 : Nat) ^ (8 * s) = 256 ^ s from by rw [Nat.pow_mul]]
  have hlow := fun w => RLow_any (toU n) (8 * (s : Int)) w (toU_lt n)
  rw [hlo] at hlow
  have hnu := toU_eq n
  have hput : putB (toU n) s = ((toU n / 256 ^ (s - 1) % 256 : Nat) : Int) :: putB (toU n) (s - 1) := by
    obtain ⟨r, rfl⟩ : ∃ r, s = r + 1 := ⟨s - 1, by omega⟩
    rfl
  go_enter Try.func5, Try.ntmps5
  go_wp2_with fail
  refine (octAlive_any _).mono ?_
  rintro e w0 ⟨rfl, C0⟩
  go_wp2_with fail
  have HF := Lib.hid hF
  have HPUT := Lib.hid hput
  clear hq hs hF hput hlo
  have b1 := Wr.new w0 w0.heap.size
  have C1 : Ch No W (w0.alloc (.cells #[.slice none 0 0] 27)) := C0.alloc _
  have g1 : W.heap.size ≤ w0.heap.size := C0.size
  have z1 : w0.heap.size ≤ (w0.alloc (.cells #[.slice none 0 0] 27)).heap.size := by simp
  generalize w0.alloc (.cells #[.slice none 0 0] 27) = w1 at *
  refine (WInt_any n s w1 w0.heap.size w0.heap.size none [] b1 z1 (by simp)).mono ?_
  rintro e w2 ⟨rfl, k2, b2, h2, _⟩
  rw [heldB_id s h1 h8, List.nil_append] at b2
  have HP2 := Lib.hid (And.intro b2 (C1.wr0 b1 g1 g1 h2))
  clear C0 C1 b1 z1 b2 h2
  go_wp2_with fail
  refine (Done_any w2 w0.heap.size w0.heap.size k2 _ HP2.out.1 (by simp; omega)).mono ?_
  rintro e w3 ⟨A, c, rfl, o3, h3⟩
  have HP3 := Lib.hid (And.intro o3 (HP2.out.2.trans h3))
  clear HP2 o3 h3
  rw [putB_length]
  go_wp2_with fail
  obtain ⟨o3, C3⟩ := HP3.out
  obtain ⟨A', c', e3, L3, _⟩ := o3.slice_ints
  obtain ⟨rfl, rfl⟩ : A = A' ∧ c = c' := by simpa using e3
  have hge3 := o3.ge
  have q3 := Open_any w3 A c (putB (toU n) s) L3 (by simp; omega)
  rw [putB_length] at q3
  refine q3.mono ?_
  rintro e w4 ⟨g, A4, c4, rfl, r4, hg4, _, h4⟩
  have HP4 : Hid (Rdr w4 g A4 c4 (putB (toU n) s) false ∧ Ch No W w4 ∧ Cls w4 A (ints .u8 (putB (toU n) s)) ∧ (∀ a, A = some a → a.block ≠ g) ∧ W.heap.size ≤ g) := by
    refine Lib.hid ⟨r4, C3.trans h4, L3.ch h4 (fun _ _ h => h), fun a ha => ?_, Nat.le_trans C3.size hg4⟩
    subst ha
    have := (hge3 a.block rfl).2
    omega
  clear HP3 o3 C3 L3 e3 hge3 q3 r4 hg4 h4
  go_wp2_with fail
  obtain ⟨r4, C4, L4, n4, g4⟩ := HP4.out
  obtain ⟨t1, t2, t3⟩ := tk_all (putB_length (toU n) s)
  have q4 := RInt_any w4 g A4 c4 _ false r4 (putB_isB _ _) s
  rw [heldB_id s h1 h8, t1, getN_putB] at q4
  refine q4.mono ?_
  rintro e w5 ⟨A5, c5, rfl, _, _, h5⟩
  have HP5 := Lib.hid (And.intro (C4.rd0 g4 h5) (L4.ch h5 (fun a ha => n4 a ha)))
  obtain ⟨got, hgot⟩ : ∃ got, sgn (toU n % 256 ^ s) (8 * s) = got := ⟨_, rfl⟩
  obtain ⟨m, hm⟩ : ∃ m, toU n % 256 ^ s = m := ⟨_, rfl⟩
  obtain ⟨b0, hb0⟩ : ∃ b0 : Int, ((toU n / 256 ^ (s - 1) % 256 : Nat) : Int) = b0 := ⟨_, rfl⟩
  rw [hgot, hb0] at HF
  rw [hgot]
  rw [hm] at hlow
  obtain ⟨bk, off, rfl, hc0⟩ := HP5.out.2.at (pre := []) (x := b0) (post := putB (toU n) (s - 1)) (by rw [HPUT.out, hb0]; rfl)
  simp only [List.length_nil, Nat.add_zero] at hc0
  have HM := Lib.hid hm
  have HC0 := Lib.hid hc0
  clear HP4 r4 C4 L4 n4 g4 t1 t2 t3 q4 h5 hgot hm hb0 hc0
  have hng : decide (got < 0) = decide (128 ≤ b0) := decide_eq_decide.2 HF.out.neg
  obtain ⟨x, hx⟩ : ∃ x, decide (128 ≤ b0) = x := ⟨_, rfl⟩
  rw [hx] at hng
  obtain ⟨L, hL⟩ : ∃ L, wrap64 (-2 ^ (8 * s - 1)) = L := ⟨_, rfl⟩
  obtain ⟨U, hU⟩ : ∃ U, wrap64 (2 ^ (8 * s - 1)) = U := ⟨_, rfl⟩
  have hx1 : IntKind.i64.wrap (8 * (s : Int)) = 8 * (s : Int) := by rw [IntKind.wrap_i64]; omega
  have hcase : (got = n ∧ ((s : Int) == 8) = true) ∨ (got = n ∧ ((s : Int) == 8) = false ∧ L ≤ n ∧ n < U) ∨ ((got == n) = false ∧ ((s : Int) == 8) = false ∧ n < L) ∨ ((got == n) = false ∧ ((s : Int) == 8) = false ∧ L ≤ n ∧ U ≤ n) := by
    have hg := HF.out.got
    by_cases h : s = 8
    · exact .inl ⟨hg.2 (.inl h), by simp; omega⟩
    · right
      have hs7 : s ≤ 7 := by omega
      have hp : (2 : Int) ^ (8 * s - 1) ≤ 2 ^ 55 := by exact_mod_cast Nat.pow_le_pow_right (by omega : 0 < 2) (by omega : 8 * s - 1 ≤ 55)
      have hp0 : (0 : Int) < 2 ^ (8 * s - 1) := Int.pow_pos (by omega)
      have e1 : L = -2 ^ (8 * s - 1) := by rw [← hL]; unfold wrap64; omega
      have e2 : U = 2 ^ (8 * s - 1) := by rw [← hU]; unfold wrap64; omega
      rw [← e1, ← e2] at hg
      have hs : ((s : Int) == 8) = false := by simp; omega
      by_cases h1 : n < L
      · exact .inr (.inl ⟨by simp; intro p; have := hg.1 p; omega, hs, h1⟩)
      · by_cases h2 : n < U
        · exact .inl ⟨hg.2 (.inr ⟨by omega, h2⟩), hs, by omega, h2⟩
        · exact .inr (.inr ⟨by simp; intro p; have := hg.1 p; omega, hs, by omega, by omega⟩)
  have hv : getN (tkO (putB (toU n) s) false (heldB (s : Int))) = m := by
    rw [heldB_id s h1 h8, (tk_all (putB_length (toU n) s)).1, getN_putB, HM.out]
  have q5 := Open_any w5 (some ⟨bk, off, none⟩) c (putB (toU n) s) HP5.out.2 (by simp; omega)
  rw [putB_length] at q5
  have HQ5 := Lib.hid q5
  have HV := Lib.hid hv
  clear q5 hv HF hn HPUT HM
  rcases hcase with ⟨rfl, hs⟩ | ⟨rfl, hs, hl, hu⟩ | ⟨hgn, hs, hl⟩ | ⟨hgn, hs, hl, hu⟩
  all_goals
    go_wp2_with fail
    refine HQ5.out.mono ?_
    rintro e w6 ⟨g6, A6, c6, rfl, r6, hg6, _, h6⟩
    have HP6 := Lib.hid (And.intro r6 (And.intro (HP5.out.1.trans h6) (Nat.le_trans HP5.out.1.size hg6)))
    have hc6 := h6.cell HC0.out (fun h => h)
    have hne6 : bk ≠ g6 := by have := World.block_lt_of_cell? _ _ HC0.out; simp at this; omega
    have HC6 := Lib.hid (And.intro hc6 hne6)
    clear r6 h6 hc6 hne6 hg6
    go_wp2_with fail
    refine (Get_any w6 g6 A6 c6 _ false HP6.out.1 (putB_isB _ _) _).mono ?_
    rintro e w7 ⟨A7, c7, rfl, _, _, h7⟩
    have HP7 := Lib.hid (HP6.out.2.1.rd0 HP6.out.2.2 h7)
    have hc7 := h7.cell HC6.out.1 HC6.out.2
    rw [HV.out]
    clear h7
    go_wp2_with fail
    refine (hlow _).mono ?_
    rintro e w8 ⟨rfl, rfl⟩
    go_wp2_with fail
    go_ret
    exact ⟨by first | rfl | (simp; omega), HP7.out⟩

theorem octetInts_walk (W : World) (a0 a1 : Int) (w0 : (Lit.int .i64 a0).wf = true) (_w1 : (Lit.int .i64 a1).wf = true) :
    Calls Try.prog 5 #[.int .i64 a0, .int .i64 a1] W fun e w' => e = .returned (.bool true) ∧ Below W.heap.size W w' :=
  (octetInts_core W a0 a1 (by have := bounds_i64 w0; unfold wfI; omega)).mono fun e w' ⟨h1, h2⟩ => ⟨h1, h2.same⟩
end Go.Proofs.Ytoaekfocfdcgiaa
