/- OctetSizes: a number that is put in more bytes ends with its fewer ones; bytes of numbers of one size stand in the order of the numbers: the walk. -/
import Derived.Test.YtoaekfocfdcgiaaOctInts
import Derived.Deep.RegionWith
namespace Go.Proofs.Ytoaekfocfdcgiaa
open Go.RowKit

theorem putB_drop (a r s : Nat) : (putB a (r + s)).drop r = putB a s := by
  induction r with
  | zero => simp
  | succ r ih =>
    rw [show r + 1 + s = (r + s) + 1 from by omega, putB, List.drop_succ_cons]
    exact ih
theorem putB_split (a r s : Nat) (h : s ≤ r) : (putB a r).drop (r - s) = putB a s := by
  have := putB_drop a (r - s) s
  rwa [show r - s + s = r from by omega] at this

/-- two writers' things lie apart -/
theorem WrK.ne {w : World} {B g i : Nat} {k k' : Option Nat} {bs : List Int} (h : Wr w B g k bs) (hk : WrK w none k') (hi : k = some i) : k' ≠ some i := by
  intro e
  rcases hk i e with h1 | h1
  · cases h1
  · have := (h.klt hi).2
    omega

theorem less_put : ∀ (s a b : Nat), Op.bytesLess ((putB a s).map fun n => UInt8.ofNat n.toNat) ((putB b s).map fun n => UInt8.ofNat n.toNat) = decide (a % 256 ^ s < b % 256 ^ s)
  | 0, a, b => by simp [putB, Op.bytesLess, Nat.mod_one]
  | s + 1, a, b => by
    have ih := less_put s a b
    have h1 : a % 256 ^ (s + 1) = a % 256 ^ s + 256 ^ s * (a / 256 ^ s % 256) := by rw [Nat.pow_succ, Nat.mod_mul]
    have h2 : b % 256 ^ (s + 1) = b % 256 ^ s + 256 ^ s * (b / 256 ^ s % 256) := by rw [Nat.pow_succ, Nat.mod_mul]
    have hx : a / 256 ^ s % 256 < 256 := Nat.mod_lt _ (by omega)
    have hy : b / 256 ^ s % 256 < 256 := Nat.mod_lt _ (by omega)
    have ha : a % 256 ^ s < 256 ^ s := Nat.mod_lt _ (Nat.pow_pos (by omega))
    have hb : b % 256 ^ s < 256 ^ s := Nat.mod_lt _ (Nat.pow_pos (by omega))
    rw [h1, h2]
    simp only [putB, List.map_cons, Int.toNat_natCast]
    generalize a / 256 ^ s % 256 = x at *
    generalize b / 256 ^ s % 256 = y at *
    generalize a % 256 ^ s = p at *
    generalize b % 256 ^ s = q at *
    generalize 256 ^ s = r at *
    have ex : (UInt8.ofNat x).toNat = x := by simp [UInt8.toNat_ofNat']; omega
    have ey : (UInt8.ofNat y).toNat = y := by simp [UInt8.toNat_ofNat']; omega
    have hm : ∀ u v : Nat, u < v → r * u + r ≤ r * v := fun u v h => by
      have := Nat.mul_le_mul_left r (show u + 1 ≤ v from h)
      rw [Nat.mul_add, Nat.mul_one] at this
      exact this
    unfold Op.bytesLess
    simp only [UInt8.lt_iff_toNat_lt, ex, ey, ih]
    rcases Nat.lt_trichotomy x y with h | h | h
    · have := hm x y h
      simp [h]
      omega
    · subst h
      simp
    · have := hm y x h
      have hne : ¬ UInt8.ofNat x = UInt8.ofNat y := fun e => by rw [e, ey] at ex; omega
      have e2 : (UInt8.ofNat x == UInt8.ofNat y) = false := beq_eq_false_iff_ne.2 hne
      have e1 : decide (x < y) = false := decide_eq_false (by omega)
      rw [e1, e2, Bool.false_and, Bool.or_false]
      exact (decide_eq_false (by omega)).symm
theorem less_put8 (a b : Nat) (ha : a < 2 ^ 64) (hb : b < 2 ^ 64) : Op.bytesLess (strOfNums (putB a 8)).toList (strOfNums (putB b 8)).toList = decide (a < b) := by
  rw [ByteArray.toList_eq, ByteArray.toList_eq, strOfNums_data, strOfNums_data, less_put]
  have e : (256 : Nat) ^ 8 = 2 ^ 64 := by decide
  rw [e, Nat.mod_eq_of_lt ha, Nat.mod_eq_of_lt hb]
theorem tk_app {xs ys : List Int} {n : Nat} (h : xs.length = n) (_ : True) : tkO (xs ++ ys) false n = xs ∧ tkR (xs ++ ys) false n = ys ∧ tkB (xs ++ ys) false n = false := by
  subst h
  have hb : tkB (xs ++ ys) false xs.length = false := by simp [tkB]
  refine ⟨?_, ?_, hb⟩
  · simp [tkO, hb]
  · simp [tkR, hb]
theorem sgn_ones (n : Nat) (h1 : 1 ≤ n) (h8 : n ≤ 8) : sgn (toU (-1) % 256 ^ n) (8 * n) = -1 := by
  have h : n = 1 ∨ n = 2 ∨ n = 3 ∨ n = 4 ∨ n = 5 ∨ n = 6 ∨ n = 7 ∨ n = 8 := by omega
  rcases h with rfl | rfl | rfl | rfl | rfl | rfl | rfl | rfl <;> decide
theorem mod_8 {a : Nat} (ha : a < 2 ^ 64) : a % 256 ^ 8 = a := Nat.mod_eq_of_lt (by rw [show (256 : Nat) ^ 8 = 2 ^ 64 from by decide]; exact ha)
theorem conv_own (w : World) {w0 : Nat} (A : Option Addr) (c : Nat) (xs : List Int) (h : OwnS w w0 5 (.slice A xs.length c) (ints .u8 xs)) : (convert 25 9 (.slice A xs.length c)).run Try.prog w = .ok (.string (strOfNums xs)) w := by
  obtain ⟨A', c', e, L, _⟩ := h.slice_ints
  obtain ⟨rfl, rfl⟩ : A = A' ∧ c = c' := by simpa using e
  exact conv_bytes w A c xs L

set_option maxHeartbeats 20000000 in
set_option maxRecDepth 100000 in
theorem octetSizes_core (W : World) (a b : Nat) (m0 n0 : Int) (ha : a < 2 ^ 64) (hb : b < 2 ^ 64) :
    Calls Try.prog 4 #[.int .u64 a, .int .u64 b, .int .i64 m0, .int .i64 n0] W fun e w' => e = .returned (.bool true) ∧ Ch No W w' := by
  have hq1 : bits .and .i64 m0 7 = m0 % 8 := i64_mask m0 3 (by omega)
  have hq2 : bits .and .i64 n0 7 = n0 % 8 := i64_mask n0 3 (by omega)
  obtain ⟨m, hm⟩ : ∃ m : Nat, (1 : Int) + m0 % 8 = m := ⟨(1 + m0 % 8).toNat, by omega⟩
  obtain ⟨n, hn⟩ : ∃ n : Nat, (1 : Int) + n0 % 8 = n := ⟨(1 + n0 % 8).toNat, by omega⟩
  have hm1 : 1 ≤ m := by omega
  have hm8 : m ≤ 8 := by omega
  have hn1 : 1 ≤ n := by omega
  have hn8 : n ≤ 8 := by omega
  obtain ⟨mi, ma, hmm⟩ : ∃ mi ma : Nat, (mi = m ∧ ma = n ∧ mi < ma) ∨ (mi = n ∧ ma = m ∧ mi < ma) ∨ (mi = m ∧ ma = m ∧ ma = n) := by
    by_cases h : m < n
    · exact ⟨m, n, .inl ⟨rfl, rfl, h⟩⟩
    · by_cases h2 : n < m
      · exact ⟨n, m, .inr (.inl ⟨rfl, rfl, by omega⟩)⟩
      · exact ⟨m, m, .inr (.inr ⟨rfl, rfl, by omega⟩)⟩
  have hi1 : 1 ≤ mi := by omega
  have ha8 : ma ≤ 8 := by omega
  have hia : mi ≤ ma := by omega
  rcases hmm with ⟨rfl, rfl, hmn⟩ | ⟨rfl, rfl, hmn⟩ | ⟨rfl, rfl, rfl⟩
  · go_enter Try.func4, Try.ntmps4
    go_wp2_with fail
    refine (octAlive_any _).mono ?_
    rintro e w0 ⟨rfl, C0⟩
    go_wp2_with fail
    obtain ⟨o, ho⟩ : ∃ o, Obj.cells #[.slice none 0 0] 27 = o := ⟨_, rfl⟩
    have gW : W.heap.size ≤ w0.heap.size := C0.size
    have bx : Wr (((w0.alloc o).alloc o).alloc o) (w0.heap.size + 3) w0.heap.size none [] := by
      rw [← ho]
      exact (Wr.new w0 _).ch (((Ch.refl No _).alloc _).alloc _) (fun h => h) (fun _ _ h => h)
    have bY : Wr (((w0.alloc o).alloc o).alloc o) (w0.heap.size + 3) (w0.heap.size + 1) none [] := by
      have := (Wr.new (w0.alloc o) (w0.heap.size + 3)).ch ((Ch.refl No _).alloc o) (fun h => h) (fun _ _ h => h)
      rw [← ho] at this ⊢
      simpa using this
    have bz : Wr (((w0.alloc o).alloc o).alloc o) (w0.heap.size + 3) (w0.heap.size + 1 + 1) none [] := by
      have := Wr.new ((w0.alloc o).alloc o) (w0.heap.size + 3)
      rw [← ho] at this ⊢
      simpa using this
    have C3 : Ch No W (((w0.alloc o).alloc o).alloc o) := ((C0.alloc _).alloc _).alloc _
    have s3 : w0.heap.size + 3 ≤ (((w0.alloc o).alloc o).alloc o).heap.size := by simp
    rw [ho]
    generalize ((w0.alloc o).alloc o).alloc o = w3 at *
    generalize w0.heap.size = g at *
    refine (Put_any a mi w3 (g + 3) g none [] bx s3 (by simp)).mono ?_
    rintro e w4 ⟨rfl, kx, bx4, h4, _⟩
    rw [heldB_id mi hi1 (by omega), List.nil_append] at bx4
    have HP4 : Hid (Wr w4 (g + 3) g kx (putB a mi) ∧ Wr w4 (g + 3) (g + 1) none [] ∧ Wr w4 (g + 3) (g + 1 + 1) none [] ∧ Ch No W w4 ∧ g + 3 ≤ w4.heap.size) :=
      Lib.hid ⟨bx4, bY.ch h4 (fun h => by rcases h with h | h; omega; cases h) (fun i hi => by cases hi), bz.ch h4 (fun h => by rcases h with h | h; omega; cases h) (fun i hi => by cases hi), C3.wr0 bx (by omega) gW h4, Nat.le_trans s3 h4.size⟩
    clear bx bY bz C0 C3 s3 bx4 h4 ho
    go_wp2_with fail
    obtain ⟨bx, bY, bz, C4, s4⟩ := HP4.out
    refine (Put_any a ma w4 (g + 3) (g + 1) none [] bY s4 (by simp)).mono ?_
    rintro e w5 ⟨rfl, ky, by5, h5, _⟩
    rw [heldB_id ma (by omega) ha8, List.nil_append] at by5
    have HP5 : Hid (Wr w5 (g + 3) g kx (putB a mi) ∧ Wr w5 (g + 3) (g + 1) ky (putB a ma) ∧ Wr w5 (g + 3) (g + 1 + 1) none [] ∧ Ch No W w5 ∧ g + 3 ≤ w5.heap.size) :=
      Lib.hid ⟨bx.ch h5 (fun h => by rcases h with h | h; omega; cases h) (fun i hi h => by have := (bx.klt hi).1; rcases h with h | h; omega; cases h), by5, bz.ch h5 (fun h => by rcases h with h | h; omega; cases h) (fun i hi => by cases hi), C4.wr0 bY (by omega) (by omega) h5, Nat.le_trans s4 h5.size⟩
    clear bx bY bz C4 s4 by5 h5 HP4
    go_wp2_with fail
    obtain ⟨bx, bY, bz, C5, s5⟩ := HP5.out
    refine (Done_any w5 (g + 3) g kx _ bx (by simp; omega)).mono ?_
    rintro e w6 ⟨As, cs, rfl, o6, h6⟩
    obtain ⟨A', c', e6, Ls, _⟩ := o6.slice_ints
    obtain ⟨rfl, rfl⟩ : As = A' ∧ cs = c' := by simpa using e6
    have HP6 : Hid (Wr w6 (g + 3) (g + 1) ky (putB a ma) ∧ Wr w6 (g + 3) (g + 1 + 1) none [] ∧ Ch No W w6 ∧ g + 3 ≤ w6.heap.size ∧ Cls w6 As (ints .u8 (putB a mi))) :=
      Lib.hid ⟨bY.ch h6 (fun h => h) (fun _ _ h => h), bz.ch h6 (fun h => h) (fun _ _ h => h), C5.trans h6, Nat.le_trans s5 h6.size, Ls⟩
    clear bx bY bz C5 s5 HP5 o6 e6 h6 Ls
    rw [putB_length]
    go_wp2_with fail
    obtain ⟨bY, bz, C6, s6, Ls⟩ := HP6.out
    refine (Done_any w6 (g + 3) (g + 1) ky _ bY (by simp; omega)).mono ?_
    rintro e w7 ⟨Al, cl, rfl, o7, h7⟩
    obtain ⟨A', c', e7, Ll, hcl⟩ := o7.slice_ints
    obtain ⟨rfl, rfl⟩ : Al = A' ∧ cl = c' := by simpa using e7
    rw [putB_length] at hcl
    obtain ⟨d, hd⟩ : ∃ d : Nat, (ma : Int) - (mi : Int) = d := ⟨ma - mi, by omega⟩
    have hmd : ma - d = mi := by omega
    have hdl : d ≤ cl := by omega
    have hdn : ¬ cl = d := by omega
    have Ld : Cls w7 (Al.map (·.add d)) (ints .u8 (putB a mi)) := by
      have := Ll.dropI d
      rw [← ints_drop, show d = ma - mi from by omega, putB_split a ma mi hia] at this
      rw [show d = ma - mi from by omega]
      exact this
    have q7 := Same_any w7 (Al.map (·.add d)) (cl - d) (putB a mi) As cs (putB a mi) Ld (Ls.ch h7 (fun _ _ h => h)) (putB_isB _ _) (putB_isB _ _)
    rw [putB_length] at q7
    simp only [decide_true] at q7
    have HQ7 := Lib.hid q7
    have HP7 : Hid (Wr w7 (g + 3) (g + 1 + 1) none [] ∧ Ch No W w7 ∧ g + 3 ≤ w7.heap.size) :=
      Lib.hid ⟨bz.ch h7 (fun h => h) (fun _ _ h => h), C6.trans h7, Nat.le_trans s6 h7.size⟩
    clear bY bz C6 s6 HP6 o7 e7 h7 Ll Ls Ld q7
    rw [putB_length]
    go_wp2_with fail
    refine HQ7.out.mono ?_
    rintro e w8 ⟨rfl, rfl⟩
    clear HQ7
    go_wp2_with fail
    obtain ⟨bz, C7, s7⟩ := HP7.out
    refine (Put_any a 8 w7 (g + 3) (g + 1 + 1) none [] bz s7 (by simp)).mono ?_
    rintro e w8 ⟨rfl, kz, bz8, h8, _⟩
    rw [show heldB 8 = 8 from by decide, List.nil_append] at bz8
    have HP8 : Hid (Wr w8 (g + 3) (g + 1 + 1) kz (putB a 8) ∧ Ch No W w8 ∧ g + 3 ≤ w8.heap.size) :=
      Lib.hid ⟨bz8, C7.wr0 bz (by omega) (by omega) h8, Nat.le_trans s7 h8.size⟩
    clear bz C7 s7 HP7 bz8 h8
    go_wp2_with fail
    obtain ⟨bz, C8, s8⟩ := HP8.out
    refine (Done_any w8 (g + 3) (g + 1 + 1) kz _ bz (by simp)).mono ?_
    rintro e w9 ⟨Af, cf, rfl, o9, h9⟩
    have HP9 : Hid (Wr w9 (g + 3) (g + 1 + 1) kz (putB a 8) ∧ Ch No W w9 ∧ g + 3 ≤ w9.heap.size ∧ OwnS w9 w8.heap.size 5 (.slice Af 8 cf) (ints .u8 (putB a 8)) ∧ g + 3 ≤ w8.heap.size ∧ (∀ i, kz = some i → i < w8.heap.size)) :=
      Lib.hid ⟨bz.ch h9 (fun h => h) (fun _ _ h => h), C8.trans h9, Nat.le_trans s8 h9.size, by simpa using o9, s8, fun i hi => (bz.klt hi).2⟩
    clear bz C8 s8 HP8 o9 h9
    rw [putB_length]
    go_wp2_with fail
    obtain ⟨bz, C9, s9, o9, s8, hz8⟩ := HP9.out
    have bw := Wr.new w9 w9.heap.size
    have c10 : Ch No w9 (w9.alloc (.cells #[.slice none 0 0] 27)) := (Ch.refl No w9).alloc _
    have s10 : w9.heap.size ≤ (w9.alloc (.cells #[.slice none 0 0] 27)).heap.size := by simp
    generalize w9.alloc (.cells #[.slice none 0 0] 27) = w10 at *
    refine (Put_any b 8 w10 w9.heap.size w9.heap.size none [] bw s10 (by simp)).mono ?_
    rintro e w11 ⟨rfl, kw, bw11, h11, _⟩
    rw [show heldB 8 = 8 from by decide, List.nil_append] at bw11
    have hn11 : ∀ i, i < w9.heap.size → ¬ WrS w9.heap.size none i := fun i hi h => by rcases h with h | h; omega; cases h
    have C11 : Ch No W w11 := (C9.trans c10).wr0 bw C9.size C9.size h11
    have bz11 : Wr w11 (g + 3) (g + 1 + 1) kz (putB a 8) := (bz.ch c10 (fun h => h) (fun _ _ h => h)).ch h11 (hn11 _ bz.lt) (fun i hi => hn11 _ (by have := hz8 i hi; have := (bz.klt hi).2; omega))
    have o11 : OwnS w11 w8.heap.size 5 (.slice Af 8 cf) (ints .u8 (putB a 8)) := (o9.ch c10 (fun _ _ h => h)).ch h11 (fun i hi => hn11 _ (o9.ge i hi).2)
    obtain ⟨A', c', e11, L11, _⟩ := o11.slice_ints
    obtain ⟨rfl, rfl⟩ : Af = A' ∧ cf = c' := by simpa using e11
    have HP11 := Lib.hid (And.intro bw11 (And.intro C11 (And.intro bz11 (And.intro o11 (And.intro s8 (And.intro hz8 C9.size))))))
    have hf11 : ∀ w', Ch No w11 w' → (convert 25 9 (.slice Af 8 cf)).run Try.prog w' = .ok (.string (strOfNums (putB a 8))) w' := by
      intro w' h'
      have := conv_bytes w' Af cf (putB a 8) (L11.ch h' (fun _ _ h => h))
      rwa [putB_length] at this
    have HF := Lib.hid hf11
    clear bz C9 s9 o9 s8 hz8 HP9 bw c10 s10 bw11 h11 hn11 C11 bz11 o11 e11 L11 hf11
    go_wp2_with fail
    have hc0 := HF.out w11.drew (Ch.refl No w11).drew
    go_region_with ((go_at_call 22; refine (Done_any _ w9.heap.size w9.heap.size kw _ (HP11.out.1.ch (Ch.refl No w11).drew (fun h => h) (fun _ _ h => h)) (by simp)).mono ?_; rintro e w12 ⟨Aw, cw, rfl, o12, h12⟩; have hc1 := HF.out w12 (((Ch.refl No w11).drew).trans h12); have hc2 := conv_own w12 Aw cw (putB b 8) o12; rw [putB_length] at hc2; have HO12 := Lib.hid h12; clear o12 h12))
    all_goals
      simp only [less_put8 a b ha hb, beq_self_eq_true, Bool.not_true]
      have h1112 : Ch No w11 w12 := (Ch.refl No w11).drew.trans HO12.out
      obtain ⟨_, C11, bz11, o11, s8, hz8, g9⟩ := HP11.out
      have C12 := C11.trans h1112
      have bz12 := bz11.ch h1112 (fun h => h) (fun _ _ h => h)
      have o12 := o11.ch h1112 (fun _ _ h => h)
      obtain ⟨gf, capf, ef, hgf, _⟩ := World.ownsRow.form o12 (by simp [ints])
      obtain ⟨rfl, rfl⟩ : Af = some ⟨gf, 0, none⟩ ∧ cf = capf := by simpa using ef
      have f0 := o12.frozen 0
      obtain ⟨A', c', e12, L12, _⟩ := o12.slice_ints
      obtain ⟨b0, tl, hb0⟩ : ∃ b0 tl, putB a 8 = b0 :: tl := ⟨_, _, rfl⟩
      obtain ⟨bk, off, e13, hc13⟩ := L12.at (pre := []) (x := b0) (post := tl) (by rw [hb0]; rfl)
      obtain ⟨⟨rfl, rfl⟩, _⟩ : (gf = bk ∧ 0 = off) ∧ cf = c' := by rw [e13] at e12; simpa using e12
      simp only [List.length_nil, Nat.add_zero] at hc13
      have hzf : ∀ v, Wr (w12.setCell ⟨gf, 0, none⟩ v) (g + 3) (g + 1 + 1) kz (putB a 8) := fun v =>
        bz12.ch (S := Only gf) ((Ch.refl (Only gf) w12).setCell (p := ⟨gf, 0, none⟩) (fun _ => rfl) _) (fun h => by have h' : g + 1 + 1 = gf := h; omega) (fun i hi h => by have h' : i = gf := h; have := hz8 i hi; omega)
      have hcf : ∀ v, Ch No W (w12.setCell ⟨gf, 0, none⟩ v) := fun v => C12.setCell (p := ⟨gf, 0, none⟩) (fun h => by simp at h; omega) _
      have HZ := Lib.hid (And.intro hzf hcf)
      clear HP11 HF hc0 hc1 hc2 HO12 h1112 C11 bz11 o11 hz8 C12 bz12 o12 ef e12 L12 hb0 e13 hzf hcf
      go_wp2_with fail
      refine (WInt_any (-1) ma _ (g + 3) (g + 1 + 1) kz (putB a 8) (HZ.out.1 _) (by have := (HZ.out.1 (.int .u8 0)).lt; simp at this ⊢; omega) (by simp)).mono ?_
      rintro e w14 ⟨rfl, kz2, bz14, h14, _⟩
      rw [heldB_id ma hn1 hn8] at bz14
      have HP14 : Hid (Wr w14 (g + 3) (g + 1 + 1) kz2 (putB a 8 ++ putB (toU (-1)) ma) ∧ Ch No W w14) := Lib.hid ⟨bz14, (HZ.out.2 _).wr0 (HZ.out.1 _) (by omega) (by omega) h14⟩
      clear HZ bz14 h14 f0 hc13
      go_wp2_with fail
      refine (Done_any w14 (g + 3) (g + 1 + 1) kz2 _ HP14.out.1 (by simp; omega)).mono ?_
      rintro e w15 ⟨Aa, ca, rfl, o15, h15⟩
      obtain ⟨A', c', e15, L15, _⟩ := o15.slice_ints
      obtain ⟨rfl, rfl⟩ : Aa = A' ∧ ca = c' := by simpa using e15
      have HP15 := Lib.hid (And.intro L15 (HP14.out.2.trans h15))
      have q15 := Open_any w15 Aa ca _ L15 (by simp; omega)
      have hl15 : (putB a 8 ++ putB (toU (-1)) ma).length = 8 + ma := by simp
      rw [hl15] at q15
      have HQ := Lib.hid q15
      clear HP14 o15 h15 e15 L15 q15
      rw [hl15]
      clear hl15
      go_wp2_with fail
      refine HQ.out.mono ?_
      rintro e w16 ⟨gr, A16, c16, rfl, r16, hg16, _, h16⟩
      have HP16 : Hid (Rdr w16 gr A16 c16 (putB a 8 ++ putB (toU (-1)) ma) false ∧ Ch No W w16 ∧ W.heap.size ≤ gr) := Lib.hid ⟨r16, HP15.out.2.trans h16, Nat.le_trans HP15.out.2.size hg16⟩
      clear HP15 HQ r16 hg16 h16
      go_wp2_with fail
      have q17 := Get_any w16 gr A16 c16 _ false HP16.out.1 (fun x hx => by rcases List.mem_append.1 hx with h | h; exact putB_isB _ _ x h; exact putB_isB _ _ x h) 8
      unfold GetP at q17
      rw [show heldB 8 = 8 from by decide, (tk_app (putB_length a 8) trivial).1, (tk_app (putB_length a 8) trivial).2.1, (tk_app (putB_length a 8) trivial).2.2, getN_putB, mod_8 ha] at q17
      refine q17.mono ?_
      rintro e w17 ⟨A17, c17, rfl, r17, _, h17⟩
      have HP17 : Hid (Rdr w17 gr A17 c17 (putB (toU (-1)) ma) false ∧ Ch No W w17 ∧ W.heap.size ≤ gr) := Lib.hid ⟨r17, HP16.out.2.1.rd0 HP16.out.2.2 h17, HP16.out.2.2⟩
      clear HP16 q17 r17 h17
      go_wp2_with fail
      have q18 := RInt_any w17 gr A17 c17 _ false HP17.out.1 (putB_isB _ _) ma
      unfold GetP at q18
      rw [heldB_id ma hn1 hn8, (tk_all (putB_length (toU (-1)) ma)).1, (tk_all (putB_length (toU (-1)) ma)).2.1, (tk_all (putB_length (toU (-1)) ma)).2.2, getN_putB, sgn_ones ma hn1 hn8] at q18
      refine q18.mono ?_
      rintro e w18 ⟨A18, c18, rfl, r18, _, h18⟩
      have HP18 : Hid (Rdr w18 gr A18 c18 [] false ∧ Ch No W w18) := Lib.hid ⟨r18, HP17.out.2.1.rd0 HP17.out.2.2 h18⟩
      clear HP17 q18 r18 h18
      go_wp2_with fail
      refine (Left_any _ _ _ _ _ _ HP18.out.1).mono ?_
      rintro e w19 ⟨rfl, rfl⟩
      go_wp2_with fail
      refine (Bad_any _ _ _ _ _ _ HP18.out.1).mono ?_
      rintro e w19 ⟨rfl, rfl⟩
      go_wp2_with fail
      go_ret
      exact ⟨rfl, HP18.out.2⟩
  · go_enter Try.func4, Try.ntmps4
    go_wp2_with fail
    refine (octAlive_any _).mono ?_
    rintro e w0 ⟨rfl, C0⟩
    go_wp2_with fail
    obtain ⟨o, ho⟩ : ∃ o, Obj.cells #[.slice none 0 0] 27 = o := ⟨_, rfl⟩
    have gW : W.heap.size ≤ w0.heap.size := C0.size
    have bx : Wr (((w0.alloc o).alloc o).alloc o) (w0.heap.size + 3) w0.heap.size none [] := by
      rw [← ho]
      exact (Wr.new w0 _).ch (((Ch.refl No _).alloc _).alloc _) (fun h => h) (fun _ _ h => h)
    have bY : Wr (((w0.alloc o).alloc o).alloc o) (w0.heap.size + 3) (w0.heap.size + 1) none [] := by
      have := (Wr.new (w0.alloc o) (w0.heap.size + 3)).ch ((Ch.refl No _).alloc o) (fun h => h) (fun _ _ h => h)
      rw [← ho] at this ⊢
      simpa using this
    have bz : Wr (((w0.alloc o).alloc o).alloc o) (w0.heap.size + 3) (w0.heap.size + 1 + 1) none [] := by
      have := Wr.new ((w0.alloc o).alloc o) (w0.heap.size + 3)
      rw [← ho] at this ⊢
      simpa using this
    have C3 : Ch No W (((w0.alloc o).alloc o).alloc o) := ((C0.alloc _).alloc _).alloc _
    have s3 : w0.heap.size + 3 ≤ (((w0.alloc o).alloc o).alloc o).heap.size := by simp
    rw [ho]
    generalize ((w0.alloc o).alloc o).alloc o = w3 at *
    generalize w0.heap.size = g at *
    refine (Put_any a mi w3 (g + 3) g none [] bx s3 (by simp)).mono ?_
    rintro e w4 ⟨rfl, kx, bx4, h4, _⟩
    rw [heldB_id mi hi1 (by omega), List.nil_append] at bx4
    have HP4 : Hid (Wr w4 (g + 3) g kx (putB a mi) ∧ Wr w4 (g + 3) (g + 1) none [] ∧ Wr w4 (g + 3) (g + 1 + 1) none [] ∧ Ch No W w4 ∧ g + 3 ≤ w4.heap.size) :=
      Lib.hid ⟨bx4, bY.ch h4 (fun h => by rcases h with h | h; omega; cases h) (fun i hi => by cases hi), bz.ch h4 (fun h => by rcases h with h | h; omega; cases h) (fun i hi => by cases hi), C3.wr0 bx (by omega) gW h4, Nat.le_trans s3 h4.size⟩
    clear bx bY bz C0 C3 s3 bx4 h4 ho
    go_wp2_with fail
    obtain ⟨bx, bY, bz, C4, s4⟩ := HP4.out
    refine (Put_any a ma w4 (g + 3) (g + 1) none [] bY s4 (by simp)).mono ?_
    rintro e w5 ⟨rfl, ky, by5, h5, _⟩
    rw [heldB_id ma (by omega) ha8, List.nil_append] at by5
    have HP5 : Hid (Wr w5 (g + 3) g kx (putB a mi) ∧ Wr w5 (g + 3) (g + 1) ky (putB a ma) ∧ Wr w5 (g + 3) (g + 1 + 1) none [] ∧ Ch No W w5 ∧ g + 3 ≤ w5.heap.size) :=
      Lib.hid ⟨bx.ch h5 (fun h => by rcases h with h | h; omega; cases h) (fun i hi h => by have := (bx.klt hi).1; rcases h with h | h; omega; cases h), by5, bz.ch h5 (fun h => by rcases h with h | h; omega; cases h) (fun i hi => by cases hi), C4.wr0 bY (by omega) (by omega) h5, Nat.le_trans s4 h5.size⟩
    clear bx bY bz C4 s4 by5 h5 HP4
    go_wp2_with fail
    obtain ⟨bx, bY, bz, C5, s5⟩ := HP5.out
    refine (Done_any w5 (g + 3) g kx _ bx (by simp; omega)).mono ?_
    rintro e w6 ⟨As, cs, rfl, o6, h6⟩
    obtain ⟨A', c', e6, Ls, _⟩ := o6.slice_ints
    obtain ⟨rfl, rfl⟩ : As = A' ∧ cs = c' := by simpa using e6
    have HP6 : Hid (Wr w6 (g + 3) (g + 1) ky (putB a ma) ∧ Wr w6 (g + 3) (g + 1 + 1) none [] ∧ Ch No W w6 ∧ g + 3 ≤ w6.heap.size ∧ Cls w6 As (ints .u8 (putB a mi))) :=
      Lib.hid ⟨bY.ch h6 (fun h => h) (fun _ _ h => h), bz.ch h6 (fun h => h) (fun _ _ h => h), C5.trans h6, Nat.le_trans s5 h6.size, Ls⟩
    clear bx bY bz C5 s5 HP5 o6 e6 h6 Ls
    rw [putB_length]
    go_wp2_with fail
    obtain ⟨bY, bz, C6, s6, Ls⟩ := HP6.out
    refine (Done_any w6 (g + 3) (g + 1) ky _ bY (by simp; omega)).mono ?_
    rintro e w7 ⟨Al, cl, rfl, o7, h7⟩
    obtain ⟨A', c', e7, Ll, hcl⟩ := o7.slice_ints
    obtain ⟨rfl, rfl⟩ : Al = A' ∧ cl = c' := by simpa using e7
    rw [putB_length] at hcl
    obtain ⟨d, hd⟩ : ∃ d : Nat, (ma : Int) - (mi : Int) = d := ⟨ma - mi, by omega⟩
    have hmd : ma - d = mi := by omega
    have hdl : d ≤ cl := by omega
    have hdn : ¬ cl = d := by omega
    have Ld : Cls w7 (Al.map (·.add d)) (ints .u8 (putB a mi)) := by
      have := Ll.dropI d
      rw [← ints_drop, show d = ma - mi from by omega, putB_split a ma mi hia] at this
      rw [show d = ma - mi from by omega]
      exact this
    have q7 := Same_any w7 (Al.map (·.add d)) (cl - d) (putB a mi) As cs (putB a mi) Ld (Ls.ch h7 (fun _ _ h => h)) (putB_isB _ _) (putB_isB _ _)
    rw [putB_length] at q7
    simp only [decide_true] at q7
    have HQ7 := Lib.hid q7
    have HP7 : Hid (Wr w7 (g + 3) (g + 1 + 1) none [] ∧ Ch No W w7 ∧ g + 3 ≤ w7.heap.size) :=
      Lib.hid ⟨bz.ch h7 (fun h => h) (fun _ _ h => h), C6.trans h7, Nat.le_trans s6 h7.size⟩
    clear bY bz C6 s6 HP6 o7 e7 h7 Ll Ls Ld q7
    rw [putB_length]
    go_wp2_with fail
    refine HQ7.out.mono ?_
    rintro e w8 ⟨rfl, rfl⟩
    clear HQ7
    go_wp2_with fail
    obtain ⟨bz, C7, s7⟩ := HP7.out
    refine (Put_any a 8 w7 (g + 3) (g + 1 + 1) none [] bz s7 (by simp)).mono ?_
    rintro e w8 ⟨rfl, kz, bz8, h8, _⟩
    rw [show heldB 8 = 8 from by decide, List.nil_append] at bz8
    have HP8 : Hid (Wr w8 (g + 3) (g + 1 + 1) kz (putB a 8) ∧ Ch No W w8 ∧ g + 3 ≤ w8.heap.size) :=
      Lib.hid ⟨bz8, C7.wr0 bz (by omega) (by omega) h8, Nat.le_trans s7 h8.size⟩
    clear bz C7 s7 HP7 bz8 h8
    go_wp2_with fail
    obtain ⟨bz, C8, s8⟩ := HP8.out
    refine (Done_any w8 (g + 3) (g + 1 + 1) kz _ bz (by simp)).mono ?_
    rintro e w9 ⟨Af, cf, rfl, o9, h9⟩
    have HP9 : Hid (Wr w9 (g + 3) (g + 1 + 1) kz (putB a 8) ∧ Ch No W w9 ∧ g + 3 ≤ w9.heap.size ∧ OwnS w9 w8.heap.size 5 (.slice Af 8 cf) (ints .u8 (putB a 8)) ∧ g + 3 ≤ w8.heap.size ∧ (∀ i, kz = some i → i < w8.heap.size)) :=
      Lib.hid ⟨bz.ch h9 (fun h => h) (fun _ _ h => h), C8.trans h9, Nat.le_trans s8 h9.size, by simpa using o9, s8, fun i hi => (bz.klt hi).2⟩
    clear bz C8 s8 HP8 o9 h9
    rw [putB_length]
    go_wp2_with fail
    obtain ⟨bz, C9, s9, o9, s8, hz8⟩ := HP9.out
    have bw := Wr.new w9 w9.heap.size
    have c10 : Ch No w9 (w9.alloc (.cells #[.slice none 0 0] 27)) := (Ch.refl No w9).alloc _
    have s10 : w9.heap.size ≤ (w9.alloc (.cells #[.slice none 0 0] 27)).heap.size := by simp
    generalize w9.alloc (.cells #[.slice none 0 0] 27) = w10 at *
    refine (Put_any b 8 w10 w9.heap.size w9.heap.size none [] bw s10 (by simp)).mono ?_
    rintro e w11 ⟨rfl, kw, bw11, h11, _⟩
    rw [show heldB 8 = 8 from by decide, List.nil_append] at bw11
    have hn11 : ∀ i, i < w9.heap.size → ¬ WrS w9.heap.size none i := fun i hi h => by rcases h with h | h; omega; cases h
    have C11 : Ch No W w11 := (C9.trans c10).wr0 bw C9.size C9.size h11
    have bz11 : Wr w11 (g + 3) (g + 1 + 1) kz (putB a 8) := (bz.ch c10 (fun h => h) (fun _ _ h => h)).ch h11 (hn11 _ bz.lt) (fun i hi => hn11 _ (by have := hz8 i hi; have := (bz.klt hi).2; omega))
    have o11 : OwnS w11 w8.heap.size 5 (.slice Af 8 cf) (ints .u8 (putB a 8)) := (o9.ch c10 (fun _ _ h => h)).ch h11 (fun i hi => hn11 _ (o9.ge i hi).2)
    obtain ⟨A', c', e11, L11, _⟩ := o11.slice_ints
    obtain ⟨rfl, rfl⟩ : Af = A' ∧ cf = c' := by simpa using e11
    have HP11 := Lib.hid (And.intro bw11 (And.intro C11 (And.intro bz11 (And.intro o11 (And.intro s8 (And.intro hz8 C9.size))))))
    have hf11 : ∀ w', Ch No w11 w' → (convert 25 9 (.slice Af 8 cf)).run Try.prog w' = .ok (.string (strOfNums (putB a 8))) w' := by
      intro w' h'
      have := conv_bytes w' Af cf (putB a 8) (L11.ch h' (fun _ _ h => h))
      rwa [putB_length] at this
    have HF := Lib.hid hf11
    clear bz C9 s9 o9 s8 hz8 HP9 bw c10 s10 bw11 h11 hn11 C11 bz11 o11 e11 L11 hf11
    go_wp2_with fail
    have hc0 := HF.out w11.drew (Ch.refl No w11).drew
    go_region_with ((go_at_call 22; refine (Done_any _ w9.heap.size w9.heap.size kw _ (HP11.out.1.ch (Ch.refl No w11).drew (fun h => h) (fun _ _ h => h)) (by simp)).mono ?_; rintro e w12 ⟨Aw, cw, rfl, o12, h12⟩; have hc1 := HF.out w12 (((Ch.refl No w11).drew).trans h12); have hc2 := conv_own w12 Aw cw (putB b 8) o12; rw [putB_length] at hc2; have HO12 := Lib.hid h12; clear o12 h12))
    all_goals
      simp only [less_put8 a b ha hb, beq_self_eq_true, Bool.not_true]
      have h1112 : Ch No w11 w12 := (Ch.refl No w11).drew.trans HO12.out
      obtain ⟨_, C11, bz11, o11, s8, hz8, g9⟩ := HP11.out
      have C12 := C11.trans h1112
      have bz12 := bz11.ch h1112 (fun h => h) (fun _ _ h => h)
      have o12 := o11.ch h1112 (fun _ _ h => h)
      obtain ⟨gf, capf, ef, hgf, _⟩ := World.ownsRow.form o12 (by simp [ints])
      obtain ⟨rfl, rfl⟩ : Af = some ⟨gf, 0, none⟩ ∧ cf = capf := by simpa using ef
      have f0 := o12.frozen 0
      obtain ⟨A', c', e12, L12, _⟩ := o12.slice_ints
      obtain ⟨b0, tl, hb0⟩ : ∃ b0 tl, putB a 8 = b0 :: tl := ⟨_, _, rfl⟩
      obtain ⟨bk, off, e13, hc13⟩ := L12.at (pre := []) (x := b0) (post := tl) (by rw [hb0]; rfl)
      obtain ⟨⟨rfl, rfl⟩, _⟩ : (gf = bk ∧ 0 = off) ∧ cf = c' := by rw [e13] at e12; simpa using e12
      simp only [List.length_nil, Nat.add_zero] at hc13
      have hzf : ∀ v, Wr (w12.setCell ⟨gf, 0, none⟩ v) (g + 3) (g + 1 + 1) kz (putB a 8) := fun v =>
        bz12.ch (S := Only gf) ((Ch.refl (Only gf) w12).setCell (p := ⟨gf, 0, none⟩) (fun _ => rfl) _) (fun h => by have h' : g + 1 + 1 = gf := h; omega) (fun i hi h => by have h' : i = gf := h; have := hz8 i hi; omega)
      have hcf : ∀ v, Ch No W (w12.setCell ⟨gf, 0, none⟩ v) := fun v => C12.setCell (p := ⟨gf, 0, none⟩) (fun h => by simp at h; omega) _
      have HZ := Lib.hid (And.intro hzf hcf)
      clear HP11 HF hc0 hc1 hc2 HO12 h1112 C11 bz11 o11 hz8 C12 bz12 o12 ef e12 L12 hb0 e13 hzf hcf
      go_wp2_with fail
      refine (WInt_any (-1) mi _ (g + 3) (g + 1 + 1) kz (putB a 8) (HZ.out.1 _) (by have := (HZ.out.1 (.int .u8 0)).lt; simp at this ⊢; omega) (by simp)).mono ?_
      rintro e w14 ⟨rfl, kz2, bz14, h14, _⟩
      rw [heldB_id mi hn1 hn8] at bz14
      have HP14 : Hid (Wr w14 (g + 3) (g + 1 + 1) kz2 (putB a 8 ++ putB (toU (-1)) mi) ∧ Ch No W w14) := Lib.hid ⟨bz14, (HZ.out.2 _).wr0 (HZ.out.1 _) (by omega) (by omega) h14⟩
      clear HZ bz14 h14 f0 hc13
      go_wp2_with fail
      refine (Done_any w14 (g + 3) (g + 1 + 1) kz2 _ HP14.out.1 (by simp; omega)).mono ?_
      rintro e w15 ⟨Aa, ca, rfl, o15, h15⟩
      obtain ⟨A', c', e15, L15, _⟩ := o15.slice_ints
      obtain ⟨rfl, rfl⟩ : Aa = A' ∧ ca = c' := by simpa using e15
      have HP15 := Lib.hid (And.intro L15 (HP14.out.2.trans h15))
      have q15 := Open_any w15 Aa ca _ L15 (by simp; omega)
      have hl15 : (putB a 8 ++ putB (toU (-1)) mi).length = 8 + mi := by simp
      rw [hl15] at q15
      have HQ := Lib.hid q15
      clear HP14 o15 h15 e15 L15 q15
      rw [hl15]
      clear hl15
      go_wp2_with fail
      refine HQ.out.mono ?_
      rintro e w16 ⟨gr, A16, c16, rfl, r16, hg16, _, h16⟩
      have HP16 : Hid (Rdr w16 gr A16 c16 (putB a 8 ++ putB (toU (-1)) mi) false ∧ Ch No W w16 ∧ W.heap.size ≤ gr) := Lib.hid ⟨r16, HP15.out.2.trans h16, Nat.le_trans HP15.out.2.size hg16⟩
      clear HP15 HQ r16 hg16 h16
      go_wp2_with fail
      have q17 := Get_any w16 gr A16 c16 _ false HP16.out.1 (fun x hx => by rcases List.mem_append.1 hx with h | h; exact putB_isB _ _ x h; exact putB_isB _ _ x h) 8
      unfold GetP at q17
      rw [show heldB 8 = 8 from by decide, (tk_app (putB_length a 8) trivial).1, (tk_app (putB_length a 8) trivial).2.1, (tk_app (putB_length a 8) trivial).2.2, getN_putB, mod_8 ha] at q17
      refine q17.mono ?_
      rintro e w17 ⟨A17, c17, rfl, r17, _, h17⟩
      have HP17 : Hid (Rdr w17 gr A17 c17 (putB (toU (-1)) mi) false ∧ Ch No W w17 ∧ W.heap.size ≤ gr) := Lib.hid ⟨r17, HP16.out.2.1.rd0 HP16.out.2.2 h17, HP16.out.2.2⟩
      clear HP16 q17 r17 h17
      go_wp2_with fail
      have q18 := RInt_any w17 gr A17 c17 _ false HP17.out.1 (putB_isB _ _) mi
      unfold GetP at q18
      rw [heldB_id mi hn1 hn8, (tk_all (putB_length (toU (-1)) mi)).1, (tk_all (putB_length (toU (-1)) mi)).2.1, (tk_all (putB_length (toU (-1)) mi)).2.2, getN_putB, sgn_ones mi hn1 hn8] at q18
      refine q18.mono ?_
      rintro e w18 ⟨A18, c18, rfl, r18, _, h18⟩
      have HP18 : Hid (Rdr w18 gr A18 c18 [] false ∧ Ch No W w18) := Lib.hid ⟨r18, HP17.out.2.1.rd0 HP17.out.2.2 h18⟩
      clear HP17 q18 r18 h18
      go_wp2_with fail
      refine (Left_any _ _ _ _ _ _ HP18.out.1).mono ?_
      rintro e w19 ⟨rfl, rfl⟩
      go_wp2_with fail
      refine (Bad_any _ _ _ _ _ _ HP18.out.1).mono ?_
      rintro e w19 ⟨rfl, rfl⟩
      go_wp2_with fail
      go_ret
      exact ⟨rfl, HP18.out.2⟩
  · go_enter Try.func4, Try.ntmps4
    go_wp2_with fail
    refine (octAlive_any _).mono ?_
    rintro e w0 ⟨rfl, C0⟩
    go_wp2_with fail
    obtain ⟨o, ho⟩ : ∃ o, Obj.cells #[.slice none 0 0] 27 = o := ⟨_, rfl⟩
    have gW : W.heap.size ≤ w0.heap.size := C0.size
    have bx : Wr (((w0.alloc o).alloc o).alloc o) (w0.heap.size + 3) w0.heap.size none [] := by
      rw [← ho]
      exact (Wr.new w0 _).ch (((Ch.refl No _).alloc _).alloc _) (fun h => h) (fun _ _ h => h)
    have bY : Wr (((w0.alloc o).alloc o).alloc o) (w0.heap.size + 3) (w0.heap.size + 1) none [] := by
      have := (Wr.new (w0.alloc o) (w0.heap.size + 3)).ch ((Ch.refl No _).alloc o) (fun h => h) (fun _ _ h => h)
      rw [← ho] at this ⊢
      simpa using this
    have bz : Wr (((w0.alloc o).alloc o).alloc o) (w0.heap.size + 3) (w0.heap.size + 1 + 1) none [] := by
      have := Wr.new ((w0.alloc o).alloc o) (w0.heap.size + 3)
      rw [← ho] at this ⊢
      simpa using this
    have C3 : Ch No W (((w0.alloc o).alloc o).alloc o) := ((C0.alloc _).alloc _).alloc _
    have s3 : w0.heap.size + 3 ≤ (((w0.alloc o).alloc o).alloc o).heap.size := by simp
    rw [ho]
    generalize ((w0.alloc o).alloc o).alloc o = w3 at *
    generalize w0.heap.size = g at *
    refine (Put_any a ma w3 (g + 3) g none [] bx s3 (by simp)).mono ?_
    rintro e w4 ⟨rfl, kx, bx4, h4, _⟩
    rw [heldB_id ma hi1 (by omega), List.nil_append] at bx4
    have HP4 : Hid (Wr w4 (g + 3) g kx (putB a ma) ∧ Wr w4 (g + 3) (g + 1) none [] ∧ Wr w4 (g + 3) (g + 1 + 1) none [] ∧ Ch No W w4 ∧ g + 3 ≤ w4.heap.size) :=
      Lib.hid ⟨bx4, bY.ch h4 (fun h => by rcases h with h | h; omega; cases h) (fun i hi => by cases hi), bz.ch h4 (fun h => by rcases h with h | h; omega; cases h) (fun i hi => by cases hi), C3.wr0 bx (by omega) gW h4, Nat.le_trans s3 h4.size⟩
    clear bx bY bz C0 C3 s3 bx4 h4 ho
    go_wp2_with fail
    obtain ⟨bx, bY, bz, C4, s4⟩ := HP4.out
    refine (Put_any a ma w4 (g + 3) (g + 1) none [] bY s4 (by simp)).mono ?_
    rintro e w5 ⟨rfl, ky, by5, h5, _⟩
    rw [heldB_id ma (by omega) ha8, List.nil_append] at by5
    have HP5 : Hid (Wr w5 (g + 3) g kx (putB a ma) ∧ Wr w5 (g + 3) (g + 1) ky (putB a ma) ∧ Wr w5 (g + 3) (g + 1 + 1) none [] ∧ Ch No W w5 ∧ g + 3 ≤ w5.heap.size) :=
      Lib.hid ⟨bx.ch h5 (fun h => by rcases h with h | h; omega; cases h) (fun i hi h => by have := (bx.klt hi).1; rcases h with h | h; omega; cases h), by5, bz.ch h5 (fun h => by rcases h with h | h; omega; cases h) (fun i hi => by cases hi), C4.wr0 bY (by omega) (by omega) h5, Nat.le_trans s4 h5.size⟩
    clear bx bY bz C4 s4 by5 h5 HP4
    go_wp2_with fail
    obtain ⟨bx, bY, bz, C5, s5⟩ := HP5.out
    refine (Done_any w5 (g + 3) g kx _ bx (by simp; omega)).mono ?_
    rintro e w6 ⟨As, cs, rfl, o6, h6⟩
    obtain ⟨A', c', e6, Ls, _⟩ := o6.slice_ints
    obtain ⟨rfl, rfl⟩ : As = A' ∧ cs = c' := by simpa using e6
    have HP6 : Hid (Wr w6 (g + 3) (g + 1) ky (putB a ma) ∧ Wr w6 (g + 3) (g + 1 + 1) none [] ∧ Ch No W w6 ∧ g + 3 ≤ w6.heap.size ∧ Cls w6 As (ints .u8 (putB a ma))) :=
      Lib.hid ⟨bY.ch h6 (fun h => h) (fun _ _ h => h), bz.ch h6 (fun h => h) (fun _ _ h => h), C5.trans h6, Nat.le_trans s5 h6.size, Ls⟩
    clear bx bY bz C5 s5 HP5 o6 e6 h6 Ls
    rw [putB_length]
    go_wp2_with fail
    obtain ⟨bY, bz, C6, s6, Ls⟩ := HP6.out
    refine (Done_any w6 (g + 3) (g + 1) ky _ bY (by simp; omega)).mono ?_
    rintro e w7 ⟨Al, cl, rfl, o7, h7⟩
    obtain ⟨A', c', e7, Ll, hcl⟩ := o7.slice_ints
    obtain ⟨rfl, rfl⟩ : Al = A' ∧ cl = c' := by simpa using e7
    rw [putB_length] at hcl
    have q7 := Same_any w7 Al cl (putB a ma) As cs (putB a ma) Ll (Ls.ch h7 (fun _ _ h => h)) (putB_isB _ _) (putB_isB _ _)
    rw [putB_length] at q7
    simp only [decide_true] at q7
    have HQ7 := Lib.hid q7
    have HP7 : Hid (Wr w7 (g + 3) (g + 1 + 1) none [] ∧ Ch No W w7 ∧ g + 3 ≤ w7.heap.size) :=
      Lib.hid ⟨bz.ch h7 (fun h => h) (fun _ _ h => h), C6.trans h7, Nat.le_trans s6 h7.size⟩
    clear bY bz C6 s6 HP6 o7 e7 h7 Ll Ls q7
    rw [putB_length]
    go_wp2_with fail
    refine HQ7.out.mono ?_
    rintro e w8 ⟨rfl, rfl⟩
    clear HQ7
    go_wp2_with fail
    obtain ⟨bz, C7, s7⟩ := HP7.out
    refine (Put_any a 8 w7 (g + 3) (g + 1 + 1) none [] bz s7 (by simp)).mono ?_
    rintro e w8 ⟨rfl, kz, bz8, h8, _⟩
    rw [show heldB 8 = 8 from by decide, List.nil_append] at bz8
    have HP8 : Hid (Wr w8 (g + 3) (g + 1 + 1) kz (putB a 8) ∧ Ch No W w8 ∧ g + 3 ≤ w8.heap.size) :=
      Lib.hid ⟨bz8, C7.wr0 bz (by omega) (by omega) h8, Nat.le_trans s7 h8.size⟩
    clear bz C7 s7 HP7 bz8 h8
    go_wp2_with fail
    obtain ⟨bz, C8, s8⟩ := HP8.out
    refine (Done_any w8 (g + 3) (g + 1 + 1) kz _ bz (by simp)).mono ?_
    rintro e w9 ⟨Af, cf, rfl, o9, h9⟩
    have HP9 : Hid (Wr w9 (g + 3) (g + 1 + 1) kz (putB a 8) ∧ Ch No W w9 ∧ g + 3 ≤ w9.heap.size ∧ OwnS w9 w8.heap.size 5 (.slice Af 8 cf) (ints .u8 (putB a 8)) ∧ g + 3 ≤ w8.heap.size ∧ (∀ i, kz = some i → i < w8.heap.size)) :=
      Lib.hid ⟨bz.ch h9 (fun h => h) (fun _ _ h => h), C8.trans h9, Nat.le_trans s8 h9.size, by simpa using o9, s8, fun i hi => (bz.klt hi).2⟩
    clear bz C8 s8 HP8 o9 h9
    rw [putB_length]
    go_wp2_with fail
    obtain ⟨bz, C9, s9, o9, s8, hz8⟩ := HP9.out
    have bw := Wr.new w9 w9.heap.size
    have c10 : Ch No w9 (w9.alloc (.cells #[.slice none 0 0] 27)) := (Ch.refl No w9).alloc _
    have s10 : w9.heap.size ≤ (w9.alloc (.cells #[.slice none 0 0] 27)).heap.size := by simp
    generalize w9.alloc (.cells #[.slice none 0 0] 27) = w10 at *
    refine (Put_any b 8 w10 w9.heap.size w9.heap.size none [] bw s10 (by simp)).mono ?_
    rintro e w11 ⟨rfl, kw, bw11, h11, _⟩
    rw [show heldB 8 = 8 from by decide, List.nil_append] at bw11
    have hn11 : ∀ i, i < w9.heap.size → ¬ WrS w9.heap.size none i := fun i hi h => by rcases h with h | h; omega; cases h
    have C11 : Ch No W w11 := (C9.trans c10).wr0 bw C9.size C9.size h11
    have bz11 : Wr w11 (g + 3) (g + 1 + 1) kz (putB a 8) := (bz.ch c10 (fun h => h) (fun _ _ h => h)).ch h11 (hn11 _ bz.lt) (fun i hi => hn11 _ (by have := hz8 i hi; have := (bz.klt hi).2; omega))
    have o11 : OwnS w11 w8.heap.size 5 (.slice Af 8 cf) (ints .u8 (putB a 8)) := (o9.ch c10 (fun _ _ h => h)).ch h11 (fun i hi => hn11 _ (o9.ge i hi).2)
    obtain ⟨A', c', e11, L11, _⟩ := o11.slice_ints
    obtain ⟨rfl, rfl⟩ : Af = A' ∧ cf = c' := by simpa using e11
    have HP11 := Lib.hid (And.intro bw11 (And.intro C11 (And.intro bz11 (And.intro o11 (And.intro s8 (And.intro hz8 C9.size))))))
    have hf11 : ∀ w', Ch No w11 w' → (convert 25 9 (.slice Af 8 cf)).run Try.prog w' = .ok (.string (strOfNums (putB a 8))) w' := by
      intro w' h'
      have := conv_bytes w' Af cf (putB a 8) (L11.ch h' (fun _ _ h => h))
      rwa [putB_length] at this
    have HF := Lib.hid hf11
    clear bz C9 s9 o9 s8 hz8 HP9 bw c10 s10 bw11 h11 hn11 C11 bz11 o11 e11 L11 hf11
    go_wp2_with fail
    have hc0 := HF.out w11.drew (Ch.refl No w11).drew
    go_region_with ((go_at_call 22; refine (Done_any _ w9.heap.size w9.heap.size kw _ (HP11.out.1.ch (Ch.refl No w11).drew (fun h => h) (fun _ _ h => h)) (by simp)).mono ?_; rintro e w12 ⟨Aw, cw, rfl, o12, h12⟩; have hc1 := HF.out w12 (((Ch.refl No w11).drew).trans h12); have hc2 := conv_own w12 Aw cw (putB b 8) o12; rw [putB_length] at hc2; have HO12 := Lib.hid h12; clear o12 h12))
    all_goals
      simp only [less_put8 a b ha hb, beq_self_eq_true, Bool.not_true]
      have h1112 : Ch No w11 w12 := (Ch.refl No w11).drew.trans HO12.out
      obtain ⟨_, C11, bz11, o11, s8, hz8, g9⟩ := HP11.out
      have C12 := C11.trans h1112
      have bz12 := bz11.ch h1112 (fun h => h) (fun _ _ h => h)
      have o12 := o11.ch h1112 (fun _ _ h => h)
      obtain ⟨gf, capf, ef, hgf, _⟩ := World.ownsRow.form o12 (by simp [ints])
      obtain ⟨rfl, rfl⟩ : Af = some ⟨gf, 0, none⟩ ∧ cf = capf := by simpa using ef
      have f0 := o12.frozen 0
      obtain ⟨A', c', e12, L12, _⟩ := o12.slice_ints
      obtain ⟨b0, tl, hb0⟩ : ∃ b0 tl, putB a 8 = b0 :: tl := ⟨_, _, rfl⟩
      obtain ⟨bk, off, e13, hc13⟩ := L12.at (pre := []) (x := b0) (post := tl) (by rw [hb0]; rfl)
      obtain ⟨⟨rfl, rfl⟩, _⟩ : (gf = bk ∧ 0 = off) ∧ cf = c' := by rw [e13] at e12; simpa using e12
      simp only [List.length_nil, Nat.add_zero] at hc13
      have hzf : ∀ v, Wr (w12.setCell ⟨gf, 0, none⟩ v) (g + 3) (g + 1 + 1) kz (putB a 8) := fun v =>
        bz12.ch (S := Only gf) ((Ch.refl (Only gf) w12).setCell (p := ⟨gf, 0, none⟩) (fun _ => rfl) _) (fun h => by have h' : g + 1 + 1 = gf := h; omega) (fun i hi h => by have h' : i = gf := h; have := hz8 i hi; omega)
      have hcf : ∀ v, Ch No W (w12.setCell ⟨gf, 0, none⟩ v) := fun v => C12.setCell (p := ⟨gf, 0, none⟩) (fun h => by simp at h; omega) _
      have HZ := Lib.hid (And.intro hzf hcf)
      clear HP11 HF hc0 hc1 hc2 HO12 h1112 C11 bz11 o11 hz8 C12 bz12 o12 ef e12 L12 hb0 e13 hzf hcf
      go_wp2_with fail
      refine (WInt_any (-1) ma _ (g + 3) (g + 1 + 1) kz (putB a 8) (HZ.out.1 _) (by have := (HZ.out.1 (.int .u8 0)).lt; simp at this ⊢; omega) (by simp)).mono ?_
      rintro e w14 ⟨rfl, kz2, bz14, h14, _⟩
      rw [heldB_id ma hn1 hn8] at bz14
      have HP14 : Hid (Wr w14 (g + 3) (g + 1 + 1) kz2 (putB a 8 ++ putB (toU (-1)) ma) ∧ Ch No W w14) := Lib.hid ⟨bz14, (HZ.out.2 _).wr0 (HZ.out.1 _) (by omega) (by omega) h14⟩
      clear HZ bz14 h14 f0 hc13
      go_wp2_with fail
      refine (Done_any w14 (g + 3) (g + 1 + 1) kz2 _ HP14.out.1 (by simp; omega)).mono ?_
      rintro e w15 ⟨Aa, ca, rfl, o15, h15⟩
      obtain ⟨A', c', e15, L15, _⟩ := o15.slice_ints
      obtain ⟨rfl, rfl⟩ : Aa = A' ∧ ca = c' := by simpa using e15
      have HP15 := Lib.hid (And.intro L15 (HP14.out.2.trans h15))
      have q15 := Open_any w15 Aa ca _ L15 (by simp; omega)
      have hl15 : (putB a 8 ++ putB (toU (-1)) ma).length = 8 + ma := by simp
      rw [hl15] at q15
      have HQ := Lib.hid q15
      clear HP14 o15 h15 e15 L15 q15
      rw [hl15]
      clear hl15
      go_wp2_with fail
      refine HQ.out.mono ?_
      rintro e w16 ⟨gr, A16, c16, rfl, r16, hg16, _, h16⟩
      have HP16 : Hid (Rdr w16 gr A16 c16 (putB a 8 ++ putB (toU (-1)) ma) false ∧ Ch No W w16 ∧ W.heap.size ≤ gr) := Lib.hid ⟨r16, HP15.out.2.trans h16, Nat.le_trans HP15.out.2.size hg16⟩
      clear HP15 HQ r16 hg16 h16
      go_wp2_with fail
      have q17 := Get_any w16 gr A16 c16 _ false HP16.out.1 (fun x hx => by rcases List.mem_append.1 hx with h | h; exact putB_isB _ _ x h; exact putB_isB _ _ x h) 8
      unfold GetP at q17
      rw [show heldB 8 = 8 from by decide, (tk_app (putB_length a 8) trivial).1, (tk_app (putB_length a 8) trivial).2.1, (tk_app (putB_length a 8) trivial).2.2, getN_putB, mod_8 ha] at q17
      refine q17.mono ?_
      rintro e w17 ⟨A17, c17, rfl, r17, _, h17⟩
      have HP17 : Hid (Rdr w17 gr A17 c17 (putB (toU (-1)) ma) false ∧ Ch No W w17 ∧ W.heap.size ≤ gr) := Lib.hid ⟨r17, HP16.out.2.1.rd0 HP16.out.2.2 h17, HP16.out.2.2⟩
      clear HP16 q17 r17 h17
      go_wp2_with fail
      have q18 := RInt_any w17 gr A17 c17 _ false HP17.out.1 (putB_isB _ _) ma
      unfold GetP at q18
      rw [heldB_id ma hn1 hn8, (tk_all (putB_length (toU (-1)) ma)).1, (tk_all (putB_length (toU (-1)) ma)).2.1, (tk_all (putB_length (toU (-1)) ma)).2.2, getN_putB, sgn_ones ma hn1 hn8] at q18
      refine q18.mono ?_
      rintro e w18 ⟨A18, c18, rfl, r18, _, h18⟩
      have HP18 : Hid (Rdr w18 gr A18 c18 [] false ∧ Ch No W w18) := Lib.hid ⟨r18, HP17.out.2.1.rd0 HP17.out.2.2 h18⟩
      clear HP17 q18 r18 h18
      go_wp2_with fail
      refine (Left_any _ _ _ _ _ _ HP18.out.1).mono ?_
      rintro e w19 ⟨rfl, rfl⟩
      go_wp2_with fail
      refine (Bad_any _ _ _ _ _ _ HP18.out.1).mono ?_
      rintro e w19 ⟨rfl, rfl⟩
      go_wp2_with fail
      go_ret
      exact ⟨rfl, HP18.out.2⟩

theorem octetSizes_walk (W : World) (a0 a1 a2 a3 : Int) (w0 : (Lit.int .u64 a0).wf = true) (w1 : (Lit.int .u64 a1).wf = true) (_w2 : (Lit.int .i64 a2).wf = true) (_w3 : (Lit.int .i64 a3).wf = true) :
    Calls Try.prog 4 #[.int .u64 a0, .int .u64 a1, .int .i64 a2, .int .i64 a3] W fun e w' => e = .returned (.bool true) ∧ Below W.heap.size W w' := by
  obtain ⟨a, rfl, ha⟩ := wf_u64 w0
  obtain ⟨b, rfl, hb⟩ := wf_u64 w1
  exact (octetSizes_core W a b a2 a3 ha hb).mono fun e w' ⟨h1, h2⟩ => ⟨h1, h2.same⟩
end Go.Proofs.Ytoaekfocfdcgiaa
