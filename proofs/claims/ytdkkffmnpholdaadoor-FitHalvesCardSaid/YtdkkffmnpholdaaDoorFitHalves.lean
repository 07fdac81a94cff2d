/- FitHalves: halves are joined anew from their bits; places of two numbers' bits are those of both: the walk. -/
import Derived.Test.YtdkkffmnpholdaaDoorFitBack
namespace Go.Proofs.YtdkkffmnpholdaaDoor
open Go.RowKit

theorem mask12 (m0 : Int) : ∃ m : Nat, m < 4096 ∧ bits .and .i64 m0 4095 = m := by
  have h := i64_mask m0 12 (by decide)
  have e : ((2 : Int) ^ 12 - 1) = 4095 := rfl
  rw [e] at h
  exact ⟨(m0 % 2 ^ 12).toNat, by omega, by rw [h]; omega⟩

set_option maxHeartbeats 4000000 in
set_option maxRecDepth 100000 in
theorem fitHalves_core (W : World) (a b : Nat) (m0 n0 : Int) (ha : a < 18446744073709551616) (hb : b < 18446744073709551616) (hT : TabAt 0 Lib.deBruijn64tab W) :
    Calls Tryd.prog 7 #[.int .u64 a, .int .u64 b, .int .i64 m0, .int .i64 n0] W fun e w' => e = .returned (.bool true) ∧ Ch No W w' := by
  have al := fitAlive_any W hT
  obtain ⟨h, hh⟩ : ∃ h, a / 4294967296 = h := ⟨_, rfl⟩
  obtain ⟨l, hl⟩ : ∃ l, a % 4294967296 = l := ⟨_, rfl⟩
  have hh1 : h < 4294967296 := by omega
  have hl1 : l < 4294967296 := by omega
  have c1 : ∀ w, Calls Tryd.prog 28 #[.int .u64 a] w fun e w' => e = .returned (.tuple #[.int .u32 h, .int .u32 l]) ∧ w = w' := fun w => by
    have q := Halves_any a ha w
    rw [hh, hl] at q
    exact q
  have c2 : ∀ w, Calls Tryd.prog 15 #[.int .i64 h] w fun e w' => e = .returned (.tuple #[.int .u32 h, .bool true]) ∧ w = w' := fun w => by
    have q := To_u32 h w
    rw [if_pos (by omega), decide_eq_true (by omega)] at q
    exact q
  obtain ⟨j, hj⟩ : ∃ j, l * 4294967296 + h = j := ⟨_, rfl⟩
  have c3 : ∀ w, Calls Tryd.prog 29 #[.int .u32 l, .int .u32 h] w fun e w' => e = .returned (.int .u64 j) ∧ w = w' := fun w => by
    have q := Join_any l h hl1 hh1 w
    rw [hj] at q
    exact q
  have c4 := Rot_to a 32 j ha (by
    rw [show ((32 : Int) % 64).toNat = 32 from rfl]
    unfold rotl
    rw [show (2 : Nat) ^ 32 = 4294967296 from rfl]
    omega)
  have c5 := Low_to a 32 l ha (by rw [show (32 : Int) = ((32 : Nat) : Int) from rfl, lowB_nat a 32 (by omega)]; exact hl)
  have H5 := Lib.hid (And.intro c1 (And.intro c2 (And.intro c3 (And.intro c4 c5))))
  clear c1 c2 c3 c4 c5 hh hl hj
  obtain ⟨La, hLa⟩ : ∃ L, (plc a).length = L := ⟨_, rfl⟩
  obtain ⟨Lb, hLb⟩ : ∃ L, (plc b).length = L := ⟨_, rfl⟩
  have hla := plc_len a
  have hlb := plc_len b
  rw [hLa] at hla
  rw [hLb] at hlb
  have pa := all_any W hT a La ha hLa
  have pb := all_any W hT b Lb hb hLb
  obtain ⟨o, ho⟩ : ∃ o, a ||| b = o := ⟨_, rfl⟩
  obtain ⟨d, hd⟩ : ∃ d, a &&& b = d := ⟨_, rfl⟩
  obtain ⟨x, hx⟩ : ∃ x, a ^^^ b = x := ⟨_, rfl⟩
  have ho1 : bits .or .u64 (a : Int) (b : Int) = (o : Int) := by rw [← ho]; exact bits_or_u64_nat a b ha hb
  have hd1 : bits .and .u64 (a : Int) (b : Int) = (d : Int) := by rw [← hd]; exact bits_and_u64_nat a b ha hb
  have hx1 : bits .xor .u64 (a : Int) (b : Int) = (x : Int) := by rw [← hx]; exact bits_xor_u64_nat a b ha hb
  have ho2 : o < 18446744073709551616 := by rw [← ho]; exact Nat.or_lt_two_pow (n := 64) ha hb
  have hd2 : d < 18446744073709551616 := by rw [← hd]; exact Nat.lt_of_le_of_lt Nat.and_le_left ha
  have hx2 : x < 18446744073709551616 := by rw [← hx]; exact Nat.xor_lt_two_pow (n := 64) ha hb
  obtain ⟨Ld, hLd⟩ : ∃ L, (plc d).length = L := ⟨_, rfl⟩
  obtain ⟨Lo, hLo⟩ : ∃ L, (plc o).length = L := ⟨_, rfl⟩
  have hld := plc_len d
  have hlo := plc_len o
  rw [hLd] at hld
  rw [hLo] at hlo
  have hsum : Ld + Lo = La + Lb := by rw [← hLd, ← hLo, ← hLa, ← hLb, ← hd, ← ho]; exact plc_and_or a b
  have pd := all_any W hT d Ld hd2 hLd
  have po := all_any W hT o Lo ho2 hLo
  have cof := fun w A c h1 => Of_same w A c (La + Lb) o (plc a ++ plc b) h1 (by simp [hLa, hLb]) (by simp; omega) (by rw [ofB_both a b ha hb, ho])
  have HP := Lib.hid (And.intro pa (And.intro pb (And.intro pd (And.intro po cof))))
  clear pa pb pd po cof hT hLd hLo ho hd
  obtain ⟨m, hm, hme⟩ := mask12 m0
  obtain ⟨n, hn, hne⟩ := mask12 n0
  obtain ⟨ra, hra⟩ : ∃ r, rotl a (m % 64) = r := ⟨_, rfl⟩
  obtain ⟨rb, hrb⟩ : ∃ r, rotl b (m % 64) = r := ⟨_, rfl⟩
  obtain ⟨rm, hrm⟩ : ∃ r, rotl a ((m + n) % 64) = r := ⟨_, rfl⟩
  obtain ⟨rx, hrx⟩ : ∃ r, rotl x (m % 64) = r := ⟨_, rfl⟩
  have hra2 : ra < 18446744073709551616 := by rw [← hra]; exact rotl_lt a _ ha (Nat.mod_lt _ (by decide))
  have hrb2 : rb < 18446744073709551616 := by rw [← hrb]; exact rotl_lt b _ hb (Nat.mod_lt _ (by decide))
  have q1 := Rot_to a (m : Int) ra ha (by rw [show ((m : Int) % 64).toNat = m % 64 from by omega, hra])
  have q2 := Rot_to ra (n : Int) rm hra2 (by
    rw [show ((n : Int) % 64).toNat = n % 64 from by omega, ← hra, rotl_rotl a _ _ ha (Nat.mod_lt _ (by decide)) (Nat.mod_lt _ (by decide)), ← hrm]
    congr 1
    omega)
  have q3 := Rot_to a ((m : Int) + n) rm ha (by rw [show (((m : Int) + n) % 64).toNat = (m + n) % 64 from by omega, hrm])
  have q4 := Rot_to x (m : Int) rx hx2 (by rw [show ((m : Int) % 64).toNat = m % 64 from by omega, hrx])
  have q5 := Rot_to b (m : Int) rb hb (by rw [show ((m : Int) % 64).toNat = m % 64 from by omega, hrb])
  have hxx : bits .xor .u64 (ra : Int) (rb : Int) = (rx : Int) := by
    rw [bits_xor_u64_nat ra rb hra2 hrb2, ← hra, ← hrb, ← rotl_xor a b _ ha hb (Nat.mod_lt _ (by decide)), hx, hrx]
  have HQ := Lib.hid (And.intro q1 (And.intro q2 (And.intro q3 (And.intro q4 q5))))
  clear q1 q2 q3 q4 q5 hra hrb hrm hrx hx
  obtain ⟨pxa, hpa⟩ : ∃ p, plc a = p := ⟨_, rfl⟩
  obtain ⟨pxb, hpb⟩ : ∃ p, plc b = p := ⟨_, rfl⟩
  rw [hpa] at hLa HP
  rw [hpb] at hLb HP
  have HLL := Lib.hid (And.intro hLa hLb)
  clear hLa hLb hpa hpb
  go_enter Tryd.func7, Tryd.ntmps7
  go_wp2_with fail
  refine al.mono ?_
  rintro e w1 ⟨rfl, h1⟩
  have H1 := Lib.hid h1
  clear h1 al
  go_wp2_with fail
  refine (H5.out.1 _).mono ?_
  rintro e w2 ⟨rfl, rfl⟩
  go_wp2_with fail
  refine (H5.out.2.1 _).mono ?_
  rintro e w2 ⟨rfl, rfl⟩
  go_wp2_with fail
  refine (H5.out.2.2.1 _).mono ?_
  rintro e w2 ⟨rfl, rfl⟩
  go_wp2_with fail
  refine (H5.out.2.2.2.1 _).mono ?_
  rintro e w2 ⟨rfl, rfl⟩
  go_wp2_with fail
  refine (H5.out.2.2.2.2 _).mono ?_
  rintro e w2 ⟨rfl, rfl⟩
  clear H5
  go_wp2_with fail
  refine (HP.out.1 _ H1.out).mono ?_
  rintro e w2 ⟨A2, c2, rfl, o2, s2, h2⟩
  have H2 := Lib.hid (And.intro (H1.out.trans h2) (And.intro o2 (And.intro s2 h2)))
  clear o2 s2 h2
  go_wp2_with fail
  refine (HP.out.2.1 _ H2.out.1).mono ?_
  rintro e w3 ⟨A3, c3, rfl, o3, s3, h3⟩
  have H3 : Hid (Ch No W w3 ∧ OwnS w3 w1.heap.size 3 (.slice A2 La c2) (ints .i64 pxa) ∧ Cls w3 A3 (ints .i64 pxb) ∧ w1.heap.size ≤ w3.heap.size ∧ Ch No w1 w3) := Lib.hid ⟨H2.out.1.trans h3, H2.out.2.1.ch h3 (fun _ _ h => h), s3, Nat.le_trans H2.out.2.2.2.size h3.size, H2.out.2.2.2.trans h3⟩
  clear o3 s3 h3 H2
  go_wp2_with (at_builtin; refine appN rfl _ _ 42 3 rfl (.int .i64 0) 8 Tryd.underlying42 infoInt rfl w1.heap.size (.slice A2 La c2) (ints .i64 pxa) rfl H3.out.2.1 A3 c3 (ints .i64 pxb) ?hx H3.out.2.2.1 ?h1 ?hn ?hb H3.out.2.2.2.1 ?_)
  case hx => rw [ints_length, HLL.out.2]; rfl
  case h1 => intro u hu; obtain ⟨y, _, rfl⟩ := List.mem_map.1 hu; rfl
  case hn => simp [maxLen, HLL.out.1, HLL.out.2]; omega
  case hb => simp [HLL.out.1, HLL.out.2]; omega
  simp only [HLL.out.1, HLL.out.2]
  intro A4 c4 w4 o4 h4 _
  have hcl : Cls w4 A4 (ints .i64 (pxa ++ pxb)) := by
    obtain ⟨A5, c5, e5, s5, _⟩ := o4.slice
    rw [(Value.slice.inj e5).1]
    simpa [ints] using s5
  have hC4 : Ch No W w4 := by
    refine (H1.out.trans (H3.out.2.2.2.2.trans' h4 (fun i hi hk => ?_)))
    have := H3.out.2.1.ge i hk
    omega
  have H4 := Lib.hid (And.intro hC4 hcl)
  clear hC4 hcl o4 h4 H3
  go_wp2_with fail
  refine (HP.out.2.2.2.2 _ _ _ H4.out.2).mono ?_
  rintro e w5 ⟨rfl, rfl⟩
  go_wp2_with fail
  refine (HQ.out.1 _).mono ?_
  rintro e w5 ⟨rfl, rfl⟩
  go_wp2_with fail
  refine (HQ.out.2.1 _).mono ?_
  rintro e w5 ⟨rfl, rfl⟩
  go_wp2_with fail
  refine (HQ.out.2.2.1 _).mono ?_
  rintro e w5 ⟨rfl, rfl⟩
  go_wp2_with fail
  refine (HQ.out.2.2.2.1 _).mono ?_
  rintro e w5 ⟨rfl, rfl⟩
  go_wp2_with fail
  refine (HQ.out.1 _).mono ?_
  rintro e w5 ⟨rfl, rfl⟩
  go_wp2_with fail
  refine (HQ.out.2.2.2.2 _).mono ?_
  rintro e w5 ⟨rfl, rfl⟩
  go_wp2_with fail
  refine (HP.out.2.2.1 _ H4.out.1).mono ?_
  rintro e w5 ⟨A5, c5, rfl, _, _, h5⟩
  have H5 := Lib.hid (H4.out.1.trans h5)
  clear h5 H4
  go_wp2_with fail
  refine (HP.out.2.2.2.1 _ H5.out).mono ?_
  rintro e w6 ⟨A6, c6, rfl, _, _, h6⟩
  have H6 := Lib.hid (H5.out.trans h6)
  clear h6 H5
  go_wp2_with fail
  refine (HP.out.1 _ H6.out).mono ?_
  rintro e w7 ⟨A7, c7, rfl, _, _, h7⟩
  have H7 := Lib.hid (H6.out.trans h7)
  clear h7 H6
  go_wp2_with fail
  refine (HP.out.2.1 _ H7.out).mono ?_
  rintro e w8 ⟨A8, c8, rfl, _, _, h8⟩
  have H8 := Lib.hid (H7.out.trans h8)
  clear h8 H7
  have hsi : ((Ld : Int) + (Lo : Int) == (La : Int) + (Lb : Int)) = true := by simp; omega
  go_wp2_with fail
  go_ret
  exact ⟨ret_bool (by first | rfl | exact hsi | (simp; omega)), H8.out⟩
theorem fitHalves_walk (W : World) (a0 a1 a2 a3 : Int) (w0 : (Lit.int .u64 a0).wf = true) (w1 : (Lit.int .u64 a1).wf = true) (_w2 : (Lit.int .i64 a2).wf = true) (_w3 : (Lit.int .i64 a3).wf = true) (hT : TabAt 0 Lib.deBruijn64tab W) :
    Calls Tryd.prog 7 #[.int .u64 a0, .int .u64 a1, .int .i64 a2, .int .i64 a3] W fun e w' => e = .returned (.bool true) ∧ Below W.heap.size W w' := by
  obtain ⟨a, rfl, ha⟩ := wf_u64 w0
  obtain ⟨b, rfl, hb⟩ := wf_u64 w1
  exact (fitHalves_core W a b a2 a3 ha hb hT).mono fun _ _ ⟨h1, h2⟩ => ⟨h1, h2.same⟩
end Go.Proofs.YtdkkffmnpholdaaDoor
