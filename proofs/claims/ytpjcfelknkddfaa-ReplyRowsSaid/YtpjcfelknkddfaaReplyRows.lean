/- ReplyRows: rows, one behind the other, are all numbers; all but the last have as many; they may be turned, and the reply is not: the walk. -/
import Derived.Test.YtpjcfelknkddfaaRepArg
import Derived.Test.YtpjcfelknkddfaaRepTell
import Derived.Test.YtpjcfelknkddfaaRepRowsD
import Derived.Test.YtpjcfelknkddfaaStep
import Derived.Deep.Cut
namespace Go.Proofs.Ytpjcfelknkddfaa
open Go.RowKit

theorem chks_pos {z : Nat} (hz : 1 ≤ z) {pre post : List (List Int)} {r xs : List Int} (h : chks z xs = pre ++ r :: post) : 1 ≤ r.length ∧ r.length ≤ z := by
  obtain ⟨h1, h2⟩ := chks_at hz pre post r xs h
  rw [h1, List.length_take, List.length_drop]
  omega
theorem chks_full {z : Nat} (hz : 1 ≤ z) {pre post : List (List Int)} {r s xs : List Int} (h : chks z xs = pre ++ r :: s :: post) : r.length = z := by
  obtain ⟨h1, h2⟩ := chks_at hz pre (s :: post) r xs h
  obtain ⟨_, h4⟩ := chks_at hz (pre ++ [r]) post s xs (by rw [h]; simp)
  rw [List.length_append, List.length_singleton, Nat.add_mul, Nat.one_mul] at h4
  rw [h1, List.length_take, List.length_drop]
  omega
/-- the blocks of rows -/
def RowBs (ps : List Lng) : Nat → Prop := fun k => ∃ p ∈ ps, ∃ a, p.A = some a ∧ a.block = k
theorem LngR.chS {S : Nat → Prop} {w w' : World} {p : Lng} (h : LngR p w) (hc : Ch S w w') (hn : ∀ a, p.A = some a → ¬ S a.block) : LngR p w' := by
  refine ⟨h.1.ch hc hn, fun a ha => ?_, h.2.2⟩
  obtain ⟨cs, hcs⟩ := h.2.1 a ha
  exact ⟨cs, hc.at hcs (hn a ha)⟩
theorem LngR.frozen {w : World} {p : Lng} {b : Nat} (h : LngR p w) (hA : p.A = some ⟨b, 0, none⟩) : w.frozen? ⟨b, 0, none⟩ = false := by
  obtain ⟨cs, hcs⟩ := h.2.1 _ hA
  simp [World.frozen?, show w.heap[b]? = some (.cells cs 2 (0, 0)) from hcs]
/-- what holds at the loop's head -/
structure RLp (w8 wr : World) (ps q1 q2 : List Lng) (Al : Option Addr) (nl cl : Nat) : Prop where
  ch : Ch (RowBs ps) w8 wr
  all : OwnS wr w8.heap.size 2 (.slice Al nl cl) (ints .i64 (q1.map (·.xs)).flatten)
  rest : ∀ p ∈ q2, LngR p wr
theorem RLp.app {w8 wr w' : World} {ps q1 q2 : List Lng} {p : Lng} {Al Al' : Option Addr} {nl cl n' cl' : Nat} (h : RLp w8 wr ps q1 (p :: q2) Al nl cl) (hp : ps = q1 ++ p :: q2) (h8 : ∀ p ∈ ps, LngR p w8)
    (h1 : OwnS w' w8.heap.size 2 (.slice Al' n' cl') (ints .i64 ((q1.map (·.xs)).flatten ++ p.xs))) (h2 : Ch (fun i => (Value.slice Al nl cl).ownBlock = some i) wr w') :
    Ch (RowBs ps) w8 w' ∧ OwnS w' w8.heap.size 2 (.slice Al' n' cl') (ints .i64 ((q1 ++ [p]).map (·.xs)).flatten) ∧ (∀ q ∈ p :: q2, LngR q w') := by
  refine ⟨h.ch.trans' h2 (fun i hi he => by have := (h.all.ge i he).1; omega), by simpa using h1, fun q hq => (h.rest q hq).chS h2 (fun a ha he => ?_)⟩
  have := (h.all.ge _ he).1
  have := (h8 q (by rw [hp]; exact List.mem_append.2 (.inr hq))).lt ha
  omega
theorem RLp.store {w8 w' : World} {ps q1 q2 : List Lng} {p : Lng} {Al' : Option Addr} {n' cl' b B8 : Nat} (u : Value) (hp : ps = q1 ++ p :: q2) (h8 : ∀ p ∈ ps, LngR p w8) (hap : Apart B8 ps) (hb : p.A = some ⟨b, 0, none⟩)
    (h : Ch (RowBs ps) w8 w' ∧ OwnS w' w8.heap.size 2 (.slice Al' n' cl') (ints .i64 ((q1 ++ [p]).map (·.xs)).flatten) ∧ (∀ q ∈ p :: q2, LngR q w')) : RLp w8 (w'.setCell ⟨b, 0, none⟩ u) ps (q1 ++ [p]) q2 Al' n' cl' := by
  have hpm : p ∈ ps := by rw [hp]; simp
  have hbl : b < w8.heap.size := (h8 p hpm).lt hb
  have hc : Ch (Only b) w' (w'.setCell ⟨b, 0, none⟩ u) := (Ch.refl (Only b) w').setCell (p := ⟨b, 0, none⟩) (fun _ => rfl) u
  refine ⟨h.1.setCell (p := ⟨b, 0, none⟩) (fun _ => ⟨p, hpm, _, hb, rfl⟩) u, h.2.1.ch hc (fun k hk he => ?_), fun q hq => (h.2.2 q (List.mem_cons_of_mem _ hq)).chS hc (fun a ha he => ?_)⟩
  · have := (h.2.1.ge k hk).1
    have e : k = b := he
    omega
  · have h1 := hap.own
    rw [hp] at h1
    have h2 := (List.pairwise_cons.1 (List.pairwise_append.1 h1).2.1).1 q hq _ _ hb ha
    have e : a.block = b := he
    simp only at h2
    omega
theorem rows_apart {w8 : World} {B : Nat} {v : Value} {vs : List Value} {ps : List Lng} (o : OwnS w8 B 22 v vs) (h8 : ∀ p ∈ ps, LngR p w8) : ∀ k, v.ownBlock = some k → ¬ RowBs ps k := by
  rintro k hk ⟨p, hp, a, ha, rfl⟩
  obtain ⟨cs, hcs⟩ := (h8 p hp).2.1 a ha
  rcases o.2 with ⟨rfl, _⟩ | ⟨g, cap, cur, rfl, _, hg, _⟩
  · cases hk
  · have e : g = a.block := by simpa [Value.ownBlock] using hk
    rw [e, hcs] at hg
    have e2 := Option.some.inj hg
    injection e2 with _ e3
    exact absurd e3 (by decide)

theorem cell_at0 {w : World} {A : Option Addr} {xs xr : List Int} {x0 : Int} {b : Nat} (h : Cls w A (ints .i64 xs)) (hx : xs = x0 :: xr) (hA : A = some ⟨b, 0, none⟩) : w.cell? ⟨b, 0, none⟩ = some (.int .i64 x0) := by
  obtain ⟨b', off, h1, h2⟩ := h [] (.int .i64 x0) (ints .i64 xr) (by rw [hx]; rfl)
  rw [hA] at h1
  cases h1
  exact h2
set_option maxHeartbeats 16000000 in
set_option maxRecDepth 100000 in
theorem replyRows_core (W : World) (code : Int) (A : Option Addr) (c : Nat) (xs : List Int) (width : Int)
    (hx : Cls W A (ints .i64 xs)) (hc : xs.length ≤ c) (hn : xs.length ≤ 140737488351232) (hwd : width ≤ 9223372036854775807) :
    Calls Try.prog 5 #[.agg #[.int .i64 code, .slice A xs.length c], .int .i64 width] W fun e w' => e = .returned (.bool true) ∧ Below W.heap.size W w' := by
  have al := fun w => repAlive_any w
  obtain ⟨N, hN⟩ : ∃ N, xs.length = N := ⟨_, rfl⟩
  have HX := Lib.hid (And.intro hN hx)
  rw [hN] at hn hc ⊢
  clear hN hx
  have X0 : Hid (Ch No W (W.alloc (.cells #[.int .i64 code, .slice A N c] 24)) ∧ Blk (W.alloc (.cells #[.int .i64 code, .slice A N c] 24)) W.heap.size 24 [.int .i64 code, .slice A N c]) := Lib.hid ⟨(Ch.refl No W).alloc _, Blk.new W 24 [.int .i64 code, .slice A N c]⟩
  go_enter Try.func5, Try.ntmps5
  go_wp2_with fail
  refine (al _).mono ?_
  rintro e w1 ⟨rfl, h1⟩
  have X1 := Lib.hid (And.intro (X0.out.1.trans h1) (X0.out.2.ch h1 (fun h => h)))
  clear X0 h1 al
  have k0 := X1.out.2.cell 0
  have k1 := X1.out.2.cell 1
  simp only [List.getElem?_cons_zero, List.getElem?_cons_succ] at k0 k1
  by_cases h200 : 200 < N
  · go_wp2_with fail
    go_ret
    exact ⟨rfl, X1.out.1.same⟩
  have lx := X1.out.2.lt
  have o5 : OwnS (w1.alloc (.cells #[] 2)) w1.heap.size 2 (.slice (some ⟨w1.heap.size, 0, none⟩) 0 0) (ints .i64 []) := by simpa [ints] using OwnS.lit w1 w1.heap.size 2 [] (Nat.le_refl _) (by simp)
  go_wp2_with (at_builtin; refine appJ rfl _ _ 22 2 rfl .i64 0 8 Try.underlying22 i64info w1.heap.size (some ⟨w1.heap.size, 0, none⟩) 0 0 [] rfl rfl o5 A c N xs HX.out.1 rfl (HX.out.2.ch (X1.out.1.alloc _) (fun _ _ h => h)) (by simp [maxLen]; omega) (by omega) (by simp) ?_)
  intro A5 c5 w5 o5' h5
  have C5 : Ch No w1 w5 := ((Ch.refl No w1).alloc _).trans' h5 (fun i hi he => by
    have he' : w1.heap.size = i := by simpa [Value.ownBlock] using he
    omega)
  try simp only [Nat.zero_add, List.nil_append] at o5'
  have X5 : Hid (Ch No W w5 ∧ Blk w5 W.heap.size 24 [.int .i64 code, .slice A N c] ∧ OwnS w5 w1.heap.size 2 (.slice A5 N c5) (ints .i64 xs)) := Lib.hid ⟨X1.out.1.trans C5, X1.out.2.ch C5 (fun h => h), o5'⟩
  clear o5 o5' h5 C5 k0 k1 X1 lx
  try simp only [Nat.zero_add]
  have k0 := X5.out.2.1.cell 0
  have k1 := X5.out.2.1.cell 1
  simp only [List.getElem?_cons_zero, List.getElem?_cons_succ] at k0 k1
  obtain ⟨z, hzw⟩ : ∃ z : Nat, (z : Int) = max width 1 := ⟨(max width 1).toNat, by omega⟩
  have hz1 : 1 ≤ z := by omega
  have hzm : z ≤ 9223372036854775807 := by omega
  have hmax : ∀ (ts : Array TypeId) (t : TypeId) (w : World), (Builtin.max_ ts t #[.int .i64 width, .int .i64 1]).run Try.prog w = .ok (.int .i64 z) w := fun ts t w => by
    rw [hzw]
    simp [Builtin.max_, Builtin.max2]
    split <;> omega
  obtain ⟨m1, hm1⟩ : ∃ m1, min N 1 = m1 := ⟨_, rfl⟩
  have hmin : ∀ (ts : Array TypeId) (t : TypeId) (w : World), (Builtin.min_ ts t #[.int .i64 N, .int .i64 1]).run Try.prog w = .ok (.int .i64 m1) w := fun ts t w => by
    rw [← hm1]
    simp [Builtin.min_, Builtin.min2]
    split <;> omega
  have hR := fun (w : World) (h : Cls w A (ints .i64 xs)) (m : Int) => rowsD_any w code A c xs width z h hz1 hzw hzm (by rw [HX.out.1]; exact hc) (by rw [HX.out.1]; omega) m
  rw [HX.out.1] at hR
  obtain ⟨cs, hcs⟩ : ∃ cs, chks z xs = cs := ⟨_, rfl⟩
  have hsum := chks_sum hz1 N xs (by rw [HX.out.1]; omega)
  have hcl : cs.length ≤ N := by rw [← hcs, ← HX.out.1]; exact chks_len_le hz1 xs.length xs (Nat.le_refl _)
  have hc1 : (cs.take 1).length = m1 := by
    rw [List.length_take, ← hm1]
    rcases Nat.eq_zero_or_pos N with h0 | h0
    · omega
    · have hne : xs ≠ [] := by
        rintro rfl
        have := HX.out.1
        simp at this
        omega
      rw [← hcs, chks_step hz1 hne, List.length_cons]
      omega
  rw [hcs] at hR hsum
  have HR := Lib.hid hR
  have HC := Lib.hid (And.intro hcs (And.intro hsum (And.intro hcl hc1)))
  have HSL : Hid (∀ (w : World) (A1 : Option Addr) (c1 : Nat) (A2 : Option Addr) (c2 : Nat), Cls w A1 (ints .i64 xs) → Cls w A2 (ints .i64 xs) → Calls Try.prog 16 #[.slice A1 N c1, .slice A2 N c2] w fun e w' => e = .returned (.bool true) ∧ Ch No w w') := Lib.hid (fun w A1 c1 A2 c2 h1 h2 => by
    have q := SameL_any w A1 c1 xs A2 c2 xs h1 h2 (by rw [HX.out.1]; omega)
    rw [HX.out.1] at q
    simp only [decide_true] at q
    exact q)
  clear hR hcs hsum hcl hc1 hzw hm1
  go_wp2_with fail
  refine (HR.out w5 (HX.out.2.ch X5.out.1 (fun _ _ h => h)) 1000).mono ?_
  rintro e w8 ⟨v, ps, rfl, hp, o8, hl8, hap8, h8⟩
  rw [List.take_of_length_le (by simp; have := HC.out.2.2.1; omega)] at hp
  obtain ⟨L, hpl⟩ : ∃ L, ps.length = L := ⟨_, rfl⟩
  have hLN : L ≤ N := by
    have := congrArg List.length hp
    have := HC.out.2.2.1
    simp at *
    omega
  obtain ⟨A8, c8, rfl, _, _⟩ := o8.slice
  have hne8 := rows_apart o8 hl8
  rw [List.length_map, hpl] at o8 hne8 ⊢
  have hg5 : W.heap.size < w5.heap.size := X5.out.2.1.lt
  have G8 : Hid (Ch No W w8 ∧ Blk w8 W.heap.size 24 [.int .i64 code, .slice A N c] ∧ OwnS w8 w1.heap.size 2 (.slice A5 N c5) (ints .i64 xs) ∧ OwnS w8 w5.heap.size 22 (.slice A8 L c8) (ps.map Lng.enc) ∧ (∀ p ∈ ps, LngR p w8)) := Lib.hid ⟨X5.out.1.trans h8, X5.out.2.1.ch h8 (fun h => h), X5.out.2.2.ch h8 (fun _ _ h => h), o8, hl8⟩
  have hwn : ∀ k, (Value.slice A5 N c5).ownBlock = some k → k < w5.heap.size := fun k hk => (X5.out.2.2.ge k hk).2
  have P8 : Hid (ps.map (·.xs) = cs ∧ ps.length = L ∧ Apart w5.heap.size ps ∧ (∀ k, (Value.slice A8 L c8).ownBlock = some k → ¬ RowBs ps k) ∧ (∀ k, RowBs ps k → w5.heap.size ≤ k) ∧ (∀ k, (Value.slice A5 N c5).ownBlock = some k → k < w5.heap.size) ∧ W.heap.size < w5.heap.size) := Lib.hid ⟨hp, hpl, hap8, hne8, by
    rintro k ⟨p, hpm, a, ha, rfl⟩
    obtain ⟨b, rfl, hb⟩ := hap8.new p hpm a ha
    exact hb, hwn, hg5⟩
  clear hp hpl o8 hl8 hap8 hne8 hwn hg5 h8 X5 k0 k1
  generalize w5.heap.size = B8 at *
  generalize w1.heap.size = B1 at *
  have oL : Hid (RLp w8 (w8.alloc (.cells #[] 2)) ps [] ps (some ⟨w8.heap.size, 0, none⟩) 0 0) := Lib.hid ⟨(Ch.refl _ w8).alloc _, by simpa [ints] using OwnS.lit w8 w8.heap.size 2 [] (Nat.le_refl _) (by simp), fun p hpm => (G8.out.2.2.2.2 p hpm).chS ((Ch.refl No w8).alloc _) (fun _ _ h => h)⟩
  go_wp2_with fail
  go_loopw [7, 8, 9, 26] (fun al _ _ ix wr => ∃ (q1 q2 : List Lng) (q nl cl : Nat) (Al : Option Addr), Hid (ps = q1 ++ q2 ∧ q1.length = q ∧ ((q1.map (·.xs)).flatten).length = nl) ∧ al = .slice Al nl cl ∧ ix = .int .i64 q ∧ Hid (RLp w8 wr ps q1 q2 Al nl cl)) (fun _ _ _ ix _ => L - (intOf ix).toNat)
  case atStart => exact ⟨[], ps, 0, 0, 0, some ⟨w8.heap.size, 0, none⟩, Lib.hid ⟨rfl, rfl, rfl⟩, rfl, rfl, oL⟩
  case round =>
    clear oL
    obtain ⟨q1, q2, q, nl, cl, Al, hq, rfl, rfl, hw⟩ := hrel
    have hln := congrArg List.length hq.out.1
    rw [P8.out.2.1, List.length_append, hq.out.2.1] at hln
    have BW : Hid (Below W.heap.size W wr) := Lib.hid (Ch.to_below G8.out.1.same hw.out.ch G8.out.1.size (fun i hi => by have := P8.out.2.2.2.2.1 i hi; have := P8.out.2.2.2.2.2.2; omega))
    cases q2 with
    | nil =>
      simp at hln
      have hq1 : L ≤ q := by omega
      have hfl : (q1.map (·.xs)).flatten = xs := by rw [← HC.out.2.1, ← P8.out.1, hq.out.1]; simp
      have hnl : N = nl := by rw [← HX.out.1, ← hfl]; exact hq.out.2.2
      subst hnl
      have Z : Hid (Blk wr W.heap.size 24 [.int .i64 code, .slice A N c] ∧ Cls wr A (ints .i64 xs) ∧ Cls wr A5 (ints .i64 xs) ∧ Cls wr Al (ints .i64 xs)) := Lib.hid ⟨G8.out.2.1.ch hw.out.ch (fun h => by have := P8.out.2.2.2.2.1 _ h; have := P8.out.2.2.2.2.2.2; omega), HX.out.2.below BW.out, (G8.out.2.2.1.ch hw.out.ch (fun k hk h => by have := P8.out.2.2.2.2.1 _ h; have := P8.out.2.2.2.2.2.1 k hk; omega)).cls.1, by have := hw.out.all.cls.1; rw [hfl] at this; exact this⟩
      clear hln hfl hq hw G8 P8
      have k0 := Z.out.1.cell 0
      have k1 := Z.out.1.cell 1
      simp only [List.getElem?_cons_zero, List.getElem?_cons_succ] at k0 k1
      go_wp2_with fail
      refine (HSL.out wr Al cl A5 c5 Z.out.2.2.2 Z.out.2.2.1).mono ?_
      rintro e w9 ⟨rfl, h9⟩
      have Z9 : Hid (Ch No wr w9 ∧ Blk w9 W.heap.size 24 [.int .i64 code, .slice A N c] ∧ Cls w9 A (ints .i64 xs) ∧ Cls w9 A5 (ints .i64 xs)) := Lib.hid ⟨h9, Z.out.1.ch h9 (fun h => h), Z.out.2.1.ch h9 (fun _ _ h => h), Z.out.2.2.1.ch h9 (fun _ _ h => h)⟩
      clear h9 Z k0 k1
      have k0 := Z9.out.2.1.cell 0
      have k1 := Z9.out.2.1.cell 1
      simp only [List.getElem?_cons_zero, List.getElem?_cons_succ] at k0 k1
      go_wp2_with fail
      refine (HSL.out w9 A c A5 c5 Z9.out.2.2.1 Z9.out.2.2.2).mono ?_
      rintro e w10 ⟨rfl, h10⟩
      have Z10 : Hid (Ch No wr w10 ∧ Blk w10 W.heap.size 24 [.int .i64 code, .slice A N c] ∧ Cls w10 A (ints .i64 xs)) := Lib.hid ⟨Z9.out.1.trans h10, Z9.out.2.1.ch h10 (fun h => h), Z9.out.2.2.1.ch h10 (fun _ _ h => h)⟩
      clear h10 Z9 k0 k1
      have k0 := Z10.out.2.1.cell 0
      have k1 := Z10.out.2.1.cell 1
      simp only [List.getElem?_cons_zero, List.getElem?_cons_succ] at k0 k1
      go_wp2_with fail
      refine (HR.out w10 Z10.out.2.2 1).mono ?_
      rintro e w11 ⟨v, ps2, rfl, hp2, o11, _, _, h11⟩
      have hl2 : ps2.length = m1 := by
        have := congrArg List.length hp2
        rw [List.length_map] at this
        rw [this]
        exact HC.out.2.2.2
      obtain ⟨A11, c11, rfl, _, _⟩ := o11.slice
      rw [List.length_map, hl2]
      have HF := Lib.hid (BW.out.trans ((Z10.out.1.trans h11).same.mono BW.out.size))
      clear o11 hp2 hl2 h11 k0 k1
      go_wp2_with fail
      go_ret
      exact ⟨rfl, HF.out⟩
    | cons p q2 =>
      rw [List.length_cons] at hln
      have hqL : q < L := by omega
      have hpm : p ∈ ps := by rw [hq.out.1]; simp
      have hat : chks z xs = q1.map (·.xs) ++ p.xs :: q2.map (·.xs) := by rw [HC.out.1, ← P8.out.1, hq.out.1]; simp
      obtain ⟨PL, hPL⟩ : ∃ n, p.xs.length = n := ⟨_, rfl⟩
      have hps := chks_pos hz1 hat
      rw [hPL] at hps
      obtain ⟨hP1, hPz⟩ := hps
      have hnp : nl + PL ≤ N := by
        have h1 := congrArg List.length HC.out.2.1
        rw [← P8.out.1, hq.out.1, List.map_append, List.flatten_append, List.length_append, hq.out.2.2, List.map_cons, List.flatten_cons, List.length_append, hPL, HX.out.1] at h1
        omega
      have hfull : q + 1 < L → z = PL := by
        intro h
        cases q2 with
        | nil =>
          simp at hln
          omega
        | cons p2 q3 =>
          rw [← hPL]
          exact (chks_full hz1 (by rw [hat]; rfl)).symm
      obtain ⟨x0, xr, hx0⟩ : ∃ x0 xr, p.xs = x0 :: xr := by
        cases hpx : p.xs with
        | nil =>
          rw [hpx] at hPL
          simp at hPL
          omega
        | cons x0 xr => exact ⟨x0, xr, rfl⟩
      obtain ⟨b, hb⟩ : ∃ b, p.A = some ⟨b, 0, none⟩ := by
        obtain ⟨b, off, hA, _⟩ := (G8.out.2.2.2.2 p hpm).1 [] (.int .i64 x0) (ints .i64 xr) (by rw [hx0]; rfl)
        obtain ⟨b', h, _⟩ := P8.out.2.2.1.new p hpm _ hA
        exact ⟨b', by rw [hA, h]⟩
      obtain ⟨bb, off, hA, hcell⟩ := (G8.out.2.2.2.1.ch hw.out.ch P8.out.2.2.2.1).cls.1 (q1.map Lng.enc) (Lng.enc p) (q2.map Lng.enc) (by rw [hq.out.1]; simp)
      rw [List.length_map, hq.out.2.1] at hcell
      subst hA
      unfold Lng.enc at hcell
      rw [hPL, hb] at hcell
      have HA := Lib.hid (And.intro hPL (And.intro hx0 (And.intro hb (And.intro hpm hq.out.1))))
      have hrow : Cls wr (some ⟨b, 0, none⟩) (ints .i64 p.xs) := by have := (hw.out.rest p (by simp)).1; rw [hb] at this; exact this
      clear hln hPL hx0 hb hpm hat
      have hP0 : ¬ (PL : Int) = 0 := by omega
      have hPz2 : ¬ (z : Int) < (PL : Int) := by omega
      by_cases hlast : q + 1 < L
      · have hzP := hfull hlast
        subst hzP
        clear hfull
        go_wp2_with (at_builtin; refine appJ rfl _ _ 22 2 rfl .i64 0 8 Try.underlying22 i64info w8.heap.size Al cl nl ((q1.map (·.xs)).flatten) hq.out.2.2 rfl hw.out.all (some ⟨b, 0, none⟩) p.c z p.xs HA.out.1 rfl hrow (by simp [maxLen]; omega) (by omega) hw.out.ch.size ?_; intro Al' cl' w' h1 h2; have HB := Lib.hid (hw.out.app HA.out.2.2.2.2 G8.out.2.2.2.2 h1 h2); have hpw := HB.out.2.2 p (by simp); have f0 := hpw.frozen HA.out.2.2.1; have c0 : w'.cell? ⟨b, 0, none⟩ = some (.int .i64 x0) := cell_at0 hpw.1 HA.out.2.1 HA.out.2.2.1; clear h1 h2 hpw)
        have HS := fun u => Lib.hid (RLp.store u HA.out.2.2.2.2 G8.out.2.2.2.2 P8.out.2.2.1 HA.out.2.2.1 HB.out)
        clear f0 c0 hrow hcell
        go_roundw
        case rel => exact ⟨q1 ++ [p], q2, q + 1, nl + z, cl', Al', Lib.hid ⟨by rw [HA.out.2.2.2.2]; simp, by simp [hq.out.2.1], by rw [List.map_append, List.flatten_append, List.length_append, hq.out.2.2]; simp [HA.out.1]⟩, rfl, by simp, HS _⟩
        case measure => simp [intOf]; omega
      · clear hfull
        have hlq : ¬ (q : Int) < (L : Int) - 1 := by omega
        go_wp2_with (at_builtin; refine appJ rfl _ _ 22 2 rfl .i64 0 8 Try.underlying22 i64info w8.heap.size Al cl nl ((q1.map (·.xs)).flatten) hq.out.2.2 rfl hw.out.all (some ⟨b, 0, none⟩) p.c PL p.xs HA.out.1 rfl hrow (by simp [maxLen]; omega) (by omega) hw.out.ch.size ?_; intro Al' cl' w' h1 h2; have HB := Lib.hid (hw.out.app HA.out.2.2.2.2 G8.out.2.2.2.2 h1 h2); have hpw := HB.out.2.2 p (by simp); have f0 := hpw.frozen HA.out.2.2.1; have c0 : w'.cell? ⟨b, 0, none⟩ = some (.int .i64 x0) := cell_at0 hpw.1 HA.out.2.1 HA.out.2.2.1; clear h1 h2 hpw)
        have HS := fun u => Lib.hid (RLp.store u HA.out.2.2.2.2 G8.out.2.2.2.2 P8.out.2.2.1 HA.out.2.2.1 HB.out)
        clear f0 c0 hrow hcell
        go_roundw
        case rel => exact ⟨q1 ++ [p], q2, q + 1, nl + PL, cl', Al', Lib.hid ⟨by rw [HA.out.2.2.2.2]; simp, by simp [hq.out.2.1], by rw [List.map_append, List.flatten_append, List.length_append, hq.out.2.2]; simp [HA.out.1]⟩, rfl, by simp, HS _⟩
        case measure => simp [intOf]; omega

theorem replyRows_walk (W : World) (cs0 : Array Value) (a1 : Int) (rd0 : Rd Try.prog W 8 24 cs0.toList) (w1 : (Lit.int .i64 a1).wf = true) :
    Calls Try.prog 5 #[.agg cs0, .int .i64 a1] W fun e w' => e = .returned (.bool true) ∧ Below W.heap.size W w' := by
  obtain ⟨code, A, c, xs, rfl, _, hx, hc, hl, _⟩ := rep_arg rd0
  exact replyRows_core W code A c xs a1 hx hc hl (bounds_i64 w1).2
end Go.Proofs.Ytpjcfelknkddfaa
