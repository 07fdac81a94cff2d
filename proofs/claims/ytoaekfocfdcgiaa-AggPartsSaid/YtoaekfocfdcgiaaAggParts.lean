/- AggParts: in whichever order, and parts, values are told the same: the walk. -/
import Derived.Test.YtoaekfocfdcgiaaAggKinds
import Derived.Test.YtoaekfocfdcgiaaPert
import Derived.Test.YtoaekfocfdcgiaaOctMem
import Derived.Test.YtoaekfocfdcgiaaStep
import Derived.Deep.Cut
namespace Go.Proofs.Ytoaekfocfdcgiaa
open Go.RowKit

theorem in_chq {w : World} {P : Program} {f : FuncId} {args : Array Value} {p : In (Ch No w)} {v : Value} (h : ∀ w', Ch No w w' → Calls P f args w' fun e w'' => e = .returned v ∧ Ch No w' w'') :
    Calls P f args p.w fun e w'' => e = .returned v ∧ ∃ q : In (Ch No w), w'' = q.w := in_ch (h _ p.h)
/-- two rows of the call's own -/
structure Pr (W w : World) (g1 n1 c1 : Nat) (S1 : List Int) (g2 n2 c2 : Nat) (S2 : List Int) : Prop where
  o1 : OwnS w W.heap.size 2 (.slice (some ⟨g1, 0, none⟩) n1 c1) (ints .i64 S1)
  o2 : OwnS w W.heap.size 2 (.slice (some ⟨g2, 0, none⟩) n2 c2) (ints .i64 S2)
  l1 : S1.length = n1
  l2 : S2.length = n2
  ne : g1 ≠ g2
  ch : Ch No W w
section
variable {W w : World} {g1 n1 c1 g2 n2 c2 : Nat} {S1 S2 : List Int}
theorem Pr.swap (h : Pr W w g1 n1 c1 S1 g2 n2 c2 S2) : Pr W w g2 n2 c2 S2 g1 n1 c1 S1 := ⟨h.o2, h.o1, h.l2, h.l1, fun e => h.ne e.symm, h.ch⟩
theorem Pr.no {w' : World} (h : Pr W w g1 n1 c1 S1 g2 n2 c2 S2) (hc : Ch No w w') : Pr W w' g1 n1 c1 S1 g2 n2 c2 S2 := ⟨h.o1.ch hc (fun _ _ h => h), h.o2.ch hc (fun _ _ h => h), h.l1, h.l2, h.ne, h.ch.trans hc⟩
theorem Pr.app {w' : World} {g' c' : Nat} {y : Int} (h : Pr W w g1 n1 c1 S1 g2 n2 c2 S2) (ho : OwnS w' W.heap.size 2 (.slice (some ⟨g', 0, none⟩) (n1 + 1) c') (ints .i64 (S1 ++ [y]))) (hc : Ch (fun i => (Value.slice (some ⟨g1, 0, none⟩) n1 c1).ownBlock = some i) w w') (hn : (Value.slice (some ⟨g1, 0, none⟩) n1 c1).ownBlock = some g' ∨ w.heap.size ≤ g') : Pr W w' g' (n1 + 1) c' (S1 ++ [y]) g2 n2 c2 S2 := by
  have h2 := h.o2.ge g2 rfl
  refine ⟨ho, h.o2.ch hc (fun i hi hk => by cases hi; cases hk; exact h.ne rfl), by rw [List.length_append, h.l1]; rfl, h.l2, ?_, h.ch.trans' hc (fun i hi hk => by have := (h.o1.ge i hk).1; omega)⟩
  rcases hn with hn | hn
  · cases hn
    exact h.ne
  · omega
end
/-- append of one whole number just laid to a row that begins its block -/
theorem app1g {P : Program} {ops : Array Oper} {Q : Exit → Act → World → Prop} {a : Act} {w : World} {rest : List Oper} {o : Oper} (hgd : o.guard = none) (s x : Operand) (t e : TypeId)
    (ho : o.op = .call { callee := .builtin .append, args := #[s, x], argTypes := #[t, t] }) (k : IntKind) (z : Int) (bytes : Nat)
    (ht : P.underlying t = some (.slice e)) (hinfo : (P.info? e).map (fun i => (i.zero, i.size, i.bytes)) = some (some (.int k z), 1, bytes))
    (B g0 c0 n : Nat) (ys : List Int) (hn0 : ys.length = n) (y : Int) (hs : a.eval s = .slice (some ⟨g0, 0, none⟩) n c0) (hown : OwnS w B e (.slice (some ⟨g0, 0, none⟩) n c0) (ints k ys)) (c : Nat) (hx : a.eval x = .slice (some ⟨w.heap.size, 0, none⟩) 1 c)
    (hn : n + 1 ≤ maxLen) (hb : (n + 1) * bytes ≤ 140737488355328) (hB : B ≤ w.heap.size)
    (h : ∀ g' c' w', OwnS w' B e (.slice (some ⟨g', 0, none⟩) (n + 1) c') (ints k (ys ++ [y])) → Ch (fun i => (Value.slice (some ⟨g0, 0, none⟩) n c0).ownBlock = some i) w w' → ((Value.slice (some ⟨g0, 0, none⟩) n c0).ownBlock = some g' ∨ w.heap.size ≤ g') → wpList P ops Q rest (a.put o.dst (.slice (some ⟨g', 0, none⟩) (n + 1) c')) w') :
    wpList P ops Q (o :: rest) a (w.alloc (.cells #[.int k y] e)) := by
  subst hn0
  refine app1i hgd s x t e ho k z bytes ht hinfo B _ c0 ys y hs hown c hx hn hb hB ?_
  intro g' c' w' h1 h2 h3
  rw [List.length_append] at h1
  exact h g' c' w' h1 h2 h3
/-- what lies there while parts are told -/
structure Pz (W : World) (g0 ga gb : Nat) (S R : List Int) (w : World) : Prop where
  a : Cls w (some ⟨ga, 0, none⟩) (ints .i64 S)
  b : Cls w (some ⟨gb, 0, none⟩) (ints .i64 R)
  fa : ga < g0
  fb : gb < g0
  wl : W.heap.size ≤ g0
  low : g0 ≤ w.heap.size
  ch : Ch No W w
section
variable {W : World} {g0 ga gb : Nat} {S R : List Int}
theorem Pz.no (w w' : World) (h : Pz W g0 ga gb S R w) (hc : Ch No w w') : Pz W g0 ga gb S R w' := ⟨h.a.ch hc (fun _ _ h => h), h.b.ch hc (fun _ _ h => h), h.fa, h.fb, h.wl, Nat.le_trans h.low hc.size, h.ch.trans hc⟩
theorem Pz.st4 {w : World} {g : Nat} (h : Pz W g0 ga gb S R w) (hg : g0 ≤ g) (x0 x1 x2 x3 : Value) : Pz W g0 ga gb S R ((((w.setCell ⟨g, 0, none⟩ x0).setCell ⟨g, 1, none⟩ x1).setCell ⟨g, 2, none⟩ x2).setCell ⟨g, 3, none⟩ x3) := by
  have hc : Ch (fun k => k = g) w ((((w.setCell ⟨g, 0, none⟩ x0).setCell ⟨g, 1, none⟩ x1).setCell ⟨g, 2, none⟩ x2).setCell ⟨g, 3, none⟩ x3) := ((((Ch.refl (fun k => k = g) w).setCell (p := ⟨g, 0, none⟩) (fun _ => rfl) _).setCell (p := ⟨g, 1, none⟩) (fun _ => rfl) _).setCell (p := ⟨g, 2, none⟩) (fun _ => rfl) _).setCell (p := ⟨g, 3, none⟩) (fun _ => rfl) _
  have h1 := h.fa
  have h2 := h.fb
  have h3 := h.wl
  exact ⟨h.a.ch hc (fun a ha e => by cases ha; simp at e; omega), h.b.ch hc (fun a ha e => by cases ha; simp at e; omega), h.fa, h.fb, h.wl, Nat.le_trans h.low hc.size, h.ch.trans' hc (fun i hi e => by omega)⟩
end
theorem st4_same {w : World} {g : Nat} {t : TypeId} {a b c d : Value} (h : Blk w g t [a, b, c, d]) (x0 x1 x2 x3 : Value) : Blk ((((w.setCell ⟨g, 0, none⟩ x0).setCell ⟨g, 1, none⟩ x1).setCell ⟨g, 2, none⟩ x2).setCell ⟨g, 3, none⟩ x3) g t [x0, x1, x2, x3] :=
  (((h.set 0 x0).set 1 x1).set 2 x2).set 3 x3
theorem st4_other {w : World} {g k : Nat} {t : TypeId} {vs : List Value} (h : Blk w k t vs) (hk : k = g → False) (x0 x1 x2 x3 : Value) : Blk ((((w.setCell ⟨g, 0, none⟩ x0).setCell ⟨g, 1, none⟩ x1).setCell ⟨g, 2, none⟩ x2).setCell ⟨g, 3, none⟩ x3) k t vs :=
  (((h.set_other (p := ⟨g, 0, none⟩) hk x0).set_other (p := ⟨g, 1, none⟩) hk x1).set_other (p := ⟨g, 2, none⟩) hk x2).set_other (p := ⟨g, 3, none⟩) hk x3

/-- what an average is, held against the least, the greatest and the sum -/
theorem parts_law {x : Ag} {S : List Int} {n : Nat} (ht : Tells x S) (hn : S.length = n) (hl : n ≤ 300) (hb : ∀ y ∈ S, -1125899906842624 ≤ y ∧ y ≤ 1125899906842624) :
    (n = 0 → avV x = 0 ∧ avB x = false) ∧ (0 < n → avB x = true ∧ x.l ≤ avV x ∧ avV x ≤ x.h ∧ avV x * n ≤ x.s ∧ x.s < (avV x + 1) * n ∧ -1125899906842624 ≤ avV x ∧ avV x ≤ 1125899906842624 ∧ -337769972052788000 ≤ avV x * n ∧ (avV x + 1) * n ≤ 337769972052788000) := by
  have hc := ht.c
  rw [hn] at hc
  constructor
  · intro h0
    subst h0
    unfold avV avB
    rw [hc]
    simp
  · intro h0
    have hne : S ≠ [] := by intro e; rw [e] at hn; simp at hn; omega
    obtain ⟨⟨m1, m2⟩, m3, m4⟩ := ht.some hne
    have hs := sum_bd hb
    rw [hn] at hs
    have hnn : (n : Int) ≤ 300 := by omega
    have hss : x.s = S.sum := by
      rw [ht.s]
      exact wr_bd (by omega) (by omega)
    have g1 := le_mul_len m2
    have g2 := mul_len_le m4
    rw [hn] at g1 g2
    have hav : avV x = x.s / n := by
      unfold avV
      rw [hc, if_neg (by omega)]
    have hpos : (0 : Int) < n := by omega
    have q1 : x.l ≤ x.s / n := by rw [Int.le_ediv_iff_mul_le hpos, hss]; exact g1
    have q2 : x.s / n ≤ x.h := by
      have := Int.ediv_lt_iff_lt_mul (a := x.s) (b := x.h + 1) hpos
      have h6 : (x.h + 1) * (n : Int) = x.h * n + n := by rw [Int.add_mul, Int.one_mul]
      have h5 : x.s / n < x.h + 1 := this.2 (by rw [hss, h6]; omega)
      omega
    have q3 : x.s / n * n ≤ x.s := Int.ediv_mul_le _ (by omega)
    have q4 : x.s < (x.s / n + 1) * n := by
      have := Int.lt_ediv_add_one_mul_self x.s hpos
      exact this
    have b1 := hb _ m1
    have b2 := hb _ m3
    have q5 : (x.s / n + 1) * n = x.s / n * n + n := by rw [Int.add_mul, Int.one_mul]
    rw [hav]
    refine ⟨?_, q1, q2, q3, q4, by omega, by omega, ?_, ?_⟩
    · unfold avB
      rw [hc]
      simp
      omega
    · omega
    · omega

set_option maxHeartbeats 40000000 in
set_option maxRecDepth 100000 in
theorem aggParts_core (W : World) (A : Option Addr) (cap : Nat) (xs : List Int) (cut : Int) (h : Cls W A (ints .i64 xs)) (hl : xs.length ≤ 17592186044416) :
    Calls Try.prog 10 #[.slice A xs.length cap, .int .i64 cut] W fun e w' => e = .returned (.bool true) ∧ Ch No W w' := by
  have al := fun w => aggAlive_any w
  obtain ⟨N, hN⟩ : ∃ N, xs.length = N := ⟨_, rfl⟩
  have HX := Lib.hid (And.intro hN h)
  rw [hN] at hl ⊢
  clear hN h
  by_cases h300 : 300 < N
  · go_enter Try.func10, Try.ntmps10
    go_wp2_with fail
    refine (al _).mono ?_
    rintro e w1 ⟨rfl, h1⟩
    have H1 := Lib.hid h1
    clear h1 al
    go_wp2_with fail
    go_ret
    exact ⟨rfl, H1.out⟩
  go_enter Try.func10, Try.ntmps10
  go_wp2_with fail
  refine (al _).mono ?_
  rintro e w1 ⟨rfl, h1⟩
  have P1 : Hid (Pr W ((w1.alloc (.cells #[] 2)).alloc (.cells #[] 2)) w1.heap.size 0 0 [] (w1.heap.size + 1) 0 0 []) := Lib.hid (by
    have hs := h1.size
    have o1 := (OwnS.lit w1 W.heap.size 2 [] hs (by simp)).alloc (.cells #[] 2)
    have o2 := OwnS.lit (w1.alloc (.cells #[] 2)) W.heap.size 2 [] (by simp; omega) (by simp)
    exact ⟨by simpa [ints] using o1, by simpa [ints] using o2, rfl, rfl, by omega, (h1.alloc _).alloc _⟩)
  clear h1 al
  go_wp2_with fail
  generalize w1.heap.size + 1 = gb0 at *
  go_loopw [5, 8, 25] (fun t _ i wr => ∃ (pre post : List Int) (g c q : Nat), Hid (xs = pre ++ post ∧ pre.length = q) ∧ i = .int .i64 q ∧ t = .slice (some ⟨g, 0, none⟩) q c ∧ Hid (Pr W wr g q c (pre.map tm50) gb0 0 0 [])) (fun _ _ i _ => N - (intOf i).toNat)
  case atStart => exact ⟨[], xs, _, _, 0, Lib.hid ⟨rfl, rfl⟩, rfl, rfl, P1⟩
  case round =>
    clear P1
    obtain ⟨pre, post, ga, ca, q, hx, rfl, rfl, hp⟩ := hrel
    have hln := congrArg List.length hx.out.1
    rw [HX.out.1, List.length_append, hx.out.2] at hln
    cases post with
    | cons x post =>
      rw [List.length_cons] at hln
      have hqN : q < N := by omega
      obtain ⟨blk, off, rfl, hcx⟩ := (HX.out.2.ch hp.out.ch (fun _ _ h => h)).at hx.out.1
      rw [hx.out.2] at hcx
      clear hln
      go_wp2_with (at_builtin; refine app1g rfl (.tmp 29) (.tmp 32) 61 2 rfl .i64 0 8 Try.underlying61 (by kernel_rfl) W.heap.size ga ca q (pre.map tm50) hp.out.l1 (x.tmod 1125899906842624) rfl hp.out.o1 1 rfl ?hn ?hb ?hB ?_)
      case hn => simp [maxLen]; omega
      case hb => omega
      case hB => exact hp.out.ch.size
      intro g' c' w2 o2 h2 n2
      have HO := Lib.hid (hp.out.app o2 h2 n2)
      clear o2 h2 n2 hp
      go_wp2_with fail
      go_roundw
      case rel => exact ⟨pre ++ [x], post, _, _, q + 1, Lib.hid ⟨by rw [hx.out.1]; simp, by simp [hx.out.2]⟩, by simp, rfl, by simpa [tm50] using HO⟩
      case measure => simp [intOf]; omega
    | nil =>
      simp at hln
      have hqN : q ≤ 300 := by omega
      have hNq : N ≤ q := by omega
      obtain ⟨S, hS⟩ : ∃ S, pre.map tm50 = S := ⟨_, rfl⟩
      have hSb : ∀ y ∈ S, -1125899906842624 ≤ y ∧ y ≤ 1125899906842624 := by
        rw [← hS]
        intro y hy
        obtain ⟨x, _, rfl⟩ := List.mem_map.1 hy
        have := tm50_bd x
        omega
      rw [hS] at hp
      have HS := Lib.hid hSb
      have hSl := hp.out.l1
      have P2 := Lib.hid hp.out.swap
      have HSL := Lib.hid hSl
      clear hln hS hSb hp hSl hx HX
      go_wp2_with fail
      generalize decide (q < N) = bd at *
      go_loopw [6, 9] (fun t i wr => ∃ (j p g c : Nat) (z : Int), j + p = q ∧ Hid ((j : Int) - 1 = z) ∧ i = .int .i64 z ∧ t = .slice (some ⟨g, 0, none⟩) p c ∧ Hid (Pr W wr g p c ((S.drop j).reverse) ga q ca S)) (fun _ i _ => (intOf i + 1).toNat)
      case atStart => exact ⟨q, 0, _, _, (q : Int) - 1, by omega, Lib.hid rfl, rfl, rfl, Lib.hid (by rw [List.drop_of_length_le (by rw [HSL.out]; exact Nat.le_refl _)]; exact P2.out)⟩
      case round =>
        clear P2
        obtain ⟨j, p, gr, cr, z, hjp, hz, rfl, rfl, hp⟩ := hrel
        cases j with
        | succ j =>
          have hz2 : z = (j : Int) := by have := hz.out; omega
          subst hz2
          have hjq : j < q := by omega
          have hpq : p ≤ 300 := by omega
          obtain ⟨blk, off, hA, hcx⟩ := hp.out.o2.cls.1.get j (by rw [HSL.out]; exact hjq)
          cases hA
          obtain ⟨y, hy⟩ : ∃ y, S[j]'(by rw [HSL.out]; exact hjq) = y := ⟨_, rfl⟩
          have hrv : (S.drop (j + 1)).reverse ++ [y] = (S.drop j).reverse := by
            have h9 := List.drop_eq_getElem_cons (l := S) (i := j) (by rw [HSL.out]; exact hjq)
            rw [h9, List.reverse_cons, hy]
          rw [hy, Nat.zero_add] at hcx
          have HRV := Lib.hid (And.intro hrv hjp)
          clear hy hrv hz hjp
          go_wp2_with (at_builtin; refine app1g rfl (.tmp 42) (.tmp 47) 61 2 rfl .i64 0 8 Try.underlying61 (by kernel_rfl) W.heap.size gr cr p ((S.drop (j + 1)).reverse) hp.out.l1 y rfl hp.out.o1 1 rfl ?hn2 ?hb2 ?hB2 ?_)
          case hn2 => simp [maxLen]; omega
          case hb2 => omega
          case hB2 => exact hp.out.ch.size
          intro g' c' w2 o2 h2 n2
          have HO := Lib.hid (hp.out.app o2 h2 n2)
          rw [HRV.out.1] at HO
          clear o2 h2 n2 hp hcx
          go_wp2_with fail
          go_roundw
          case rel => exact ⟨j, p + 1, _, _, (j : Int) - 1, by have := HRV.out.2; omega, Lib.hid rfl, rfl, rfl, HO⟩
          case measure => simp [intOf]
        | zero =>
          have hz2 : z = -1 := by have := hz.out; omega
          subst hz2
          have hpq : p = q := by omega
          subst hpq
          rw [List.drop_zero] at hp
          have hb5 : bits .and .i64 cut 511 = cut % 512 := i64_mask cut 9 (by omega)
          obtain ⟨u, hu⟩ : ∃ u, cut % 512 = u := ⟨_, rfl⟩
          have hu0 : 0 ≤ u := by omega
          have hu1 : u < 512 := by omega
          rw [hu] at hb5
          obtain ⟨k, hk⟩ : ∃ k : Nat, u % ((p : Int) + 1) = k := ⟨(u % ((p : Int) + 1)).toNat, by have := Int.emod_nonneg u (show (p : Int) + 1 ≠ 0 by omega); omega⟩
          have hk2 : u.tmod ((p : Int) + 1) = k := by rw [Int.tmod_eq_emod_of_nonneg hu0]; exact hk
          have hkp : k ≤ p := by have := Int.emod_lt_of_pos u (show (0 : Int) < (p : Int) + 1 by omega); omega
          have HP := Lib.hid hp.out
          have hpc : p ≤ ca := by
            obtain ⟨_, _, hv, _, h3⟩ := hp.out.o2.slice_ints
            cases hv
            rw [HSL.out] at h3
            exact h3
          have TS := tells_of S (fun y hy => by have := HS.out y hy; unfold wfI; omega) (by rw [HSL.out]; omega)
          have TR := tells_of S.reverse (fun y hy => by have := HS.out y (List.mem_reverse.1 hy); unfold wfI; omega) (by rw [List.length_reverse, HSL.out]; omega)
          have TA := tells_of (S.take k) (fun y hy => by have := HS.out y (List.mem_of_mem_take hy); unfold wfI; omega) (by rw [List.length_take, HSL.out]; omega)
          have TB := tells_of (S.drop k) (fun y hy => by have := HS.out y (List.mem_of_mem_drop hy); unfold wfI; omega) (by rw [List.length_drop, HSL.out]; omega)
          have TAB := TA.merge TB (by rw [List.length_take, List.length_drop, HSL.out]; omega)
          have TBA := TB.merge TA (by rw [List.length_take, List.length_drop, HSL.out]; omega)
          have e1 : agOf S.reverse = agOf S := (TR.perm (List.reverse_perm S)).unique TS
          have e2 : agMerge (agOf (S.take k)) (agOf (S.drop k)) = agOf S := by rw [List.take_append_drop] at TAB; exact TAB.unique TS
          have e3 : agMerge (agOf (S.drop k)) (agOf (S.take k)) = agOf S := (TBA.perm (List.perm_append_comm.trans (by rw [List.take_append_drop]))).unique TS
          have e4 : agMerge (agOf S) ⟨0, 0, 0, 0⟩ = agOf S := by
            have := TS.merge tells_none (by rw [HSL.out]; simp; omega)
            rw [List.append_nil] at this
            exact this.unique TS
          have hOS := fun w (h : Cls w (some ⟨ga, 0, none⟩) (ints .i64 S)) => LOf_any S (some ⟨ga, 0, none⟩) ca w h (by rw [HSL.out]; omega)
          have hOA := fun w (h : Cls w (some ⟨ga, 0, none⟩) (ints .i64 (S.take k))) => LOf_any (S.take k) (some ⟨ga, 0, none⟩) ca w h (by rw [List.length_take, HSL.out]; omega)
          have hOB := fun w A3 c3 (h : Cls w A3 (ints .i64 (S.drop k))) => LOf_any (S.drop k) A3 c3 w h (by rw [List.length_drop, HSL.out]; omega)
          have hOR := fun w (h : Cls w (some ⟨gr, 0, none⟩) (ints .i64 S.reverse)) => LOf_any S.reverse (some ⟨gr, 0, none⟩) cr w h (by rw [List.length_reverse, HSL.out]; omega)
          have hM1 := fun w => LMerge_any (agOf (S.take k)) (agOf (S.drop k)) w
          have hM2 := fun w => LMerge_any (agOf (S.drop k)) (agOf (S.take k)) w
          have hM3 := fun w => LMerge_any (agOf S) ⟨0, 0, 0, 0⟩ w
          have hss : wfI (agOf S).s := by rw [TS.s]; exact wr_wf _
          have hAV := fun w => LAvg_any (agOf S) w hss
          have HLW := Lib.hid (parts_law TS HSL.out hqN HS.out)
          rw [e1, List.length_reverse] at hOR
          rw [e2] at hM1
          rw [e3] at hM2
          rw [e4] at hM3
          rw [HSL.out] at hOS hOR
          rw [List.length_take, HSL.out, Nat.min_eq_left hkp] at hOA
          rw [List.length_drop, HSL.out] at hOB
          generalize agOf (S.take k) = y at *
          generalize agOf (S.drop k) = z at *
          generalize agOf S = x at *
          unfold agV at hOS hOA hOB hOR hM1 hM2 hM3 hAV
          have HO1 := Lib.hid hOS
          have HO2 := Lib.hid (fun w (h : Cls w (some ⟨ga, 0, none⟩) (ints .i64 S)) => hOA w (by rw [ints_take]; exact h.takeI k))
          have HOB := Lib.hid hOB
          have HREST := Lib.hid (And.intro hOR (And.intro hM1 (And.intro hM2 (And.intro hM3 hAV))))
          obtain ⟨g0, hT0⟩ : ∃ g0, Hid (Pz W g0 ga gr S S.reverse wr.drew) := ⟨wr.heap.size, Lib.hid ⟨HP.out.o2.cls.1, HP.out.o1.cls.1, (HP.out.o2.ge ga rfl).2, (HP.out.o1.ge gr rfl).2, HP.out.ch.size, Nat.le_refl _, HP.out.ch.drew⟩⟩
          have hkca : k ≤ ca := by omega
          clear TS TR TA TB TAB TBA e1 e2 e3 e4 hOS hOA hOB hOR hM1 hM2 hM3 hAV hss hu hp hz hjp
          go_upto_region 16 with fail
          clear hk hk2 hb5 hu0 hu1
          refine wp_mid (I := Nat × Nat × Nat × Value) (fun a i => (((((((((((((a.put (some 55) (.slice (some ⟨ga, 0, none⟩) p ca)).put (some 56) (.agg #[.int .i64 x.c, .int .i64 x.s, .int .i64 x.l, .int .i64 x.h])).put (some 57) (.slice (some ⟨ga, 0, none⟩) p ca)).put (some 58) (.int .i64 k)).put (some 59) (.slice (some ⟨ga, 0, none⟩) k ca)).put (some 60) (.agg #[.int .i64 y.c, .int .i64 y.s, .int .i64 y.l, .int .i64 y.h])).put (some 61) (.slice (some ⟨ga, 0, none⟩) p ca)).put (some 62) (.int .i64 k)).put (some 63) i.2.2.2).put (some 64) (.agg #[.int .i64 z.c, .int .i64 z.s, .int .i64 z.l, .int .i64 z.h])).put (some 10) (.pointer (some ⟨i.1, 0, none⟩))).put (some 11) (.pointer (some ⟨i.2.1, 0, none⟩))).put (some 12) (.pointer (some ⟨i.2.2.1, 0, none⟩))))
            (fun i w' => Blk w' i.1 63 [.int .i64 x.c, .int .i64 x.s, .int .i64 x.l, .int .i64 x.h] ∧ Blk w' i.2.1 63 [.int .i64 y.c, .int .i64 y.s, .int .i64 y.l, .int .i64 y.h] ∧ Blk w' i.2.2.1 63 [.int .i64 z.c, .int .i64 z.s, .int .i64 z.l, .int .i64 z.h] ∧ Pz W g0 ga gr S S.reverse w') ?_ ?_
          · clear HREST HLW
            by_cases hcc : k = ca
            · have hkk : p = k := by omega
              subst hcc
              subst hkk
              have HO3 := Lib.hid (fun w (_ : Cls w (some ⟨ga, 0, none⟩) (ints .i64 S)) => by have := HOB.out w (some ⟨ga, 0, none⟩) 0 (by rw [List.drop_of_length_le (by rw [HSL.out]; exact Nat.le_refl _)]; exact Cls.nil _ _); rw [Nat.sub_self] at this; exact this)
              refine region_pert (T := Pz W g0 ga gr S S.reverse) (s := 13) (by kernel_rfl) (fun hT => ?_) hT0.out
              refine wpP_take [1, 13] (i := 0) (v := .slice (some ⟨ga, 0, none⟩) p p) rfl (by kernel_rfl) (by kernel_rfl) (by kernel_rfl) (fun w w' h hc => h.no w w' hc) (fun _ _ _ h => by cases h.1) _ _ _ _ (by kernel_rfl) (by kernel_rfl) (by kernel_rfl) (Or.inl ⟨by kernel_rfl, fun w' hw' => ?y0⟩) hT ?r0
              case y0 =>
                go_simp
                all_goals first | exact quiet_value | exact ⟨rfl, Ch.refl _ _⟩
              case r0 =>
                simp only [Act.put]
                refine wpP_take [13] (i := 1) (v := .agg #[.int .i64 x.c, .int .i64 x.s, .int .i64 x.l, .int .i64 x.h]) rfl (by kernel_rfl) (by kernel_rfl) (by kernel_rfl) (fun w w' h hc => h.no w w' hc) (fun _ _ _ h => by cases h.1) _ _ _ _ (by kernel_rfl) (by kernel_rfl) (by kernel_rfl) (Or.inl ⟨by kernel_rfl, fun w' hw' => ?y1⟩) hT ?r1
                case y1 =>
                  go_simp
                  exact quiet_enter (HO1.out _ hw'.a)
                case r1 =>
                  simp only [Act.put]
                  refine wpP_take [4, 5, 9, 13] (i := 2) (v := .slice (some ⟨ga, 0, none⟩) p p) rfl (by kernel_rfl) (by kernel_rfl) (by kernel_rfl) (fun w w' h hc => h.no w w' hc) (fun _ _ _ h => by cases h.1) _ _ _ _ (by kernel_rfl) (by kernel_rfl) (by kernel_rfl) (Or.inl ⟨by kernel_rfl, fun w' hw' => ?y2⟩) hT ?r2
                  case y2 =>
                    go_simp
                    all_goals first | exact quiet_value | exact ⟨rfl, Ch.refl _ _⟩
                  case r2 =>
                    simp only [Act.put]
                    refine wpP_take [4, 5, 9, 13] (i := 3) (v := .int .i64 p) rfl (by kernel_rfl) (by kernel_rfl) (by kernel_rfl) (fun w w' h hc => h.no w w' hc) (fun _ _ _ h => by cases h.1) _ _ _ _ (by kernel_rfl) (by kernel_rfl) (by kernel_rfl) (Or.inl ⟨by kernel_rfl, fun w' hw' => ?y3⟩) hT ?r3
                    case y3 =>
                      go_simp
                      all_goals first | exact quiet_value | exact ⟨rfl, Ch.refl _ _⟩
                    case r3 =>
                      simp only [Act.put]
                      refine wpP_take [5, 9, 13] (i := 4) (v := .slice (some ⟨ga, 0, none⟩) p p) rfl (by kernel_rfl) (by kernel_rfl) (by kernel_rfl) (fun w w' h hc => h.no w w' hc) (fun _ _ _ h => by cases h.1) _ _ _ _ (by kernel_rfl) (by kernel_rfl) (by kernel_rfl) (Or.inl ⟨by kernel_rfl, fun w' hw' => ?y4⟩) hT ?r4
                      case y4 =>
                        go_simp
                        all_goals first | exact quiet_value | exact ⟨rfl, Ch.refl _ _⟩
                      case r4 =>
                        simp only [Act.put]
                        refine wpP_take [9, 13] (i := 5) (v := .agg #[.int .i64 y.c, .int .i64 y.s, .int .i64 y.l, .int .i64 y.h]) rfl (by kernel_rfl) (by kernel_rfl) (by kernel_rfl) (fun w w' h hc => h.no w w' hc) (fun _ _ _ h => by cases h.1) _ _ _ _ (by kernel_rfl) (by kernel_rfl) (by kernel_rfl) (Or.inl ⟨by kernel_rfl, fun w' hw' => ?y5⟩) hT ?r5
                        case y5 =>
                          go_simp
                          exact quiet_enter (HO2.out _ hw'.a)
                        case r5 =>
                          simp only [Act.put]
                          refine wpP_take [8, 9, 13] (i := 6) (v := .slice (some ⟨ga, 0, none⟩) p p) rfl (by kernel_rfl) (by kernel_rfl) (by kernel_rfl) (fun w w' h hc => h.no w w' hc) (fun _ _ _ h => by cases h.1) _ _ _ _ (by kernel_rfl) (by kernel_rfl) (by kernel_rfl) (Or.inl ⟨by kernel_rfl, fun w' hw' => ?y6⟩) hT ?r6
                          case y6 =>
                            go_simp
                            all_goals first | exact quiet_value | exact ⟨rfl, Ch.refl _ _⟩
                          case r6 =>
                            simp only [Act.put]
                            refine wpP_take [8, 9, 13] (i := 7) (v := .int .i64 p) rfl (by kernel_rfl) (by kernel_rfl) (by kernel_rfl) (fun w w' h hc => h.no w w' hc) (fun _ _ _ h => by cases h.1) _ _ _ _ (by kernel_rfl) (by kernel_rfl) (by kernel_rfl) (Or.inl ⟨by kernel_rfl, fun w' hw' => ?y7⟩) hT ?r7
                            case y7 =>
                              go_simp
                              all_goals first | exact quiet_value | exact ⟨rfl, Ch.refl _ _⟩
                            case r7 =>
                              simp only [Act.put]
                              refine wpP_take [9, 13] (i := 8) (v := Value.slice (some ⟨ga, 0, none⟩) 0 0) rfl (by kernel_rfl) (by kernel_rfl) (by kernel_rfl) (fun w w' h hc => h.no w w' hc) (fun _ _ _ h => by cases h.1) _ _ _ _ (by kernel_rfl) (by kernel_rfl) (by kernel_rfl) (Or.inl ⟨by kernel_rfl, fun w' hw' => ?y8⟩) hT ?r8
                              case y8 =>
                                go_simp
                                all_goals first | exact quiet_value | exact ⟨rfl, Ch.refl _ _⟩
                              case r8 =>
                                simp only [Act.put]
                                refine wpP_take [13] (i := 9) (v := .agg #[.int .i64 z.c, .int .i64 z.s, .int .i64 z.l, .int .i64 z.h]) rfl (by kernel_rfl) (by kernel_rfl) (by kernel_rfl) (fun w w' h hc => h.no w w' hc) (fun _ _ _ h => by cases h.1) _ _ _ _ (by kernel_rfl) (by kernel_rfl) (by kernel_rfl) (Or.inl ⟨by kernel_rfl, fun w' hw' => ?y9⟩) hT ?r9
                                case y9 =>
                                  go_simp
                                  exact quiet_enter (HO3.out _ hw'.a)
                                case r9 =>
                                  simp only [Act.put]
                                  have HT := Lib.hid hT
                                  clear hT
                                  refine wpP_one (rs := [10, 11, 12]) (eq_of_beq (by kernel_rfl)) (by simp) ?_
                                  intro v1 hv1 i hi
                                  rcases (by simpa using hi : i = 10 ∨ i = 11 ∨ i = 12) with rfl | rfl | rfl
                                  · refine wpP_step rfl (fun K hK => ?_)
                                    go_simp
                                    have Ts2 := Lib.hid (HT.out.no _ _ (hv1.alloc (.cells #[.int .i64 0, .int .i64 0, .int .i64 0, .int .i64 0] 63)))
                                    have B10s2 : Hid (Blk (v1.alloc (.cells #[.int .i64 0, .int .i64 0, .int .i64 0, .int .i64 0] 63)) v1.heap.size 63 [.int .i64 0, .int .i64 0, .int .i64 0, .int .i64 0]) := Lib.hid (Blk.new v1 63 [.int .i64 0, .int .i64 0, .int .i64 0, .int .i64 0])
                                    have G10 : g0 ≤ v1.heap.size := Nat.le_trans HT.out.low (hv1.size)
                                    refine hK.out _ _ (fun _ => Ts2.out) ?_
                                    clear hK K
                                    try simp only [Act.put]
                                    refine wpP_one (rs := [11, 12]) (eq_of_beq (by kernel_rfl)) (by simp) ?_
                                    intro v3 hv3 i hi
                                    rcases (by simpa using hi : i = 11 ∨ i = 12) with rfl | rfl
                                    · refine wpP_step rfl (fun K hK => ?_)
                                      go_simp
                                      have Ts4 := Lib.hid (Ts2.out.no _ _ (hv3.alloc (.cells #[.int .i64 0, .int .i64 0, .int .i64 0, .int .i64 0] 63)))
                                      have B10s4 := Lib.hid ((B10s2.out.ch hv3 (fun h => h)).alloc (.cells #[.int .i64 0, .int .i64 0, .int .i64 0, .int .i64 0] 63))
                                      have L10s4 : v1.heap.size < v3.heap.size := (B10s2.out.ch hv3 (fun h => h)).lt
                                      have B11s4 : Hid (Blk (v3.alloc (.cells #[.int .i64 0, .int .i64 0, .int .i64 0, .int .i64 0] 63)) v3.heap.size 63 [.int .i64 0, .int .i64 0, .int .i64 0, .int .i64 0]) := Lib.hid (Blk.new v3 63 [.int .i64 0, .int .i64 0, .int .i64 0, .int .i64 0])
                                      have G11 : g0 ≤ v3.heap.size := Nat.le_trans Ts2.out.low (hv3.size)
                                      have D1011 : ¬ v1.heap.size = v3.heap.size := by omega
                                      refine hK.out _ _ (fun _ => Ts4.out) ?_
                                      clear hK K
                                      try simp only [Act.put]
                                      refine wpP_1 (i := 12) rfl (by kernel_rfl) (fun v5 hv5 K hK => ?_)
                                      go_simp
                                      have Ts6 := Lib.hid (Ts4.out.no _ _ (hv5.alloc (.cells #[.int .i64 0, .int .i64 0, .int .i64 0, .int .i64 0] 63)))
                                      have B10s6 := Lib.hid ((B10s4.out.ch hv5 (fun h => h)).alloc (.cells #[.int .i64 0, .int .i64 0, .int .i64 0, .int .i64 0] 63))
                                      have L10s6 : v1.heap.size < v5.heap.size := (B10s4.out.ch hv5 (fun h => h)).lt
                                      have B11s6 := Lib.hid ((B11s4.out.ch hv5 (fun h => h)).alloc (.cells #[.int .i64 0, .int .i64 0, .int .i64 0, .int .i64 0] 63))
                                      have L11s6 : v3.heap.size < v5.heap.size := (B11s4.out.ch hv5 (fun h => h)).lt
                                      have B12s6 : Hid (Blk (v5.alloc (.cells #[.int .i64 0, .int .i64 0, .int .i64 0, .int .i64 0] 63)) v5.heap.size 63 [.int .i64 0, .int .i64 0, .int .i64 0, .int .i64 0]) := Lib.hid (Blk.new v5 63 [.int .i64 0, .int .i64 0, .int .i64 0, .int .i64 0])
                                      have G12 : g0 ≤ v5.heap.size := Nat.le_trans Ts4.out.low (hv5.size)
                                      have D1012 : ¬ v1.heap.size = v5.heap.size := by omega
                                      have D1112 : ¬ v3.heap.size = v5.heap.size := by omega
                                      refine hK.out _ _ (fun _ => Ts6.out) ?_
                                      clear hK K
                                      try simp only [Act.put]
                                      refine wpP_1 (i := 13) rfl (by kernel_rfl) (fun v7 hv7 K hK => ?_)
                                      have C10s7 := Lib.hid (B10s6.out.ch hv7 (fun h => h))
                                      have C11s7 := Lib.hid (B11s6.out.ch hv7 (fun h => h))
                                      have C12s7 := Lib.hid (B12s6.out.ch hv7 (fun h => h))
                                      have Ts7 := Lib.hid (Ts6.out.no _ _ hv7)
                                      have z0 := C10s7.out.cell 0
                                      have z1 := C10s7.out.cell 1
                                      have z2 := C10s7.out.cell 2
                                      have z3 := C10s7.out.cell 3
                                      have f0 := C10s7.out.frozen 0
                                      have f1 := C10s7.out.frozen 1
                                      have f2 := C10s7.out.frozen 2
                                      have f3 := C10s7.out.frozen 3
                                      simp only [List.getElem?_cons_zero, List.getElem?_cons_succ] at z0 z1 z2 z3
                                      clear hv7
                                      go_simp
                                      have Us7 := Lib.hid (st4_same C10s7.out (.int .i64 x.c) (.int .i64 x.s) (.int .i64 x.l) (.int .i64 x.h))
                                      have U11s7 := Lib.hid (st4_other C11s7.out (fun e => D1011 (by first | exact e | exact e.symm)) (.int .i64 x.c) (.int .i64 x.s) (.int .i64 x.l) (.int .i64 x.h) (g := v1.heap.size))
                                      have U12s7 := Lib.hid (st4_other C12s7.out (fun e => D1012 (by first | exact e | exact e.symm)) (.int .i64 x.c) (.int .i64 x.s) (.int .i64 x.l) (.int .i64 x.h) (g := v1.heap.size))
                                      have Vs7 := Lib.hid (Ts7.out.st4 G10 (.int .i64 x.c) (.int .i64 x.s) (.int .i64 x.l) (.int .i64 x.h))
                                      refine hK.out _ _ (fun h => nomatch (show true = false from h)) ?_
                                      clear hK K z0 z1 z2 z3 f0 f1 f2 f3
                                      try simp only [Act.put]
                                      refine wpP_1 (i := 14) rfl (by kernel_rfl) (fun v8 hv8 K hK => ?_)
                                      have C10s8 := Lib.hid (Us7.out.ch hv8 (fun h => h))
                                      have C11s8 := Lib.hid (U11s7.out.ch hv8 (fun h => h))
                                      have C12s8 := Lib.hid (U12s7.out.ch hv8 (fun h => h))
                                      have Ts8 := Lib.hid (Vs7.out.no _ _ hv8)
                                      have z0 := C11s8.out.cell 0
                                      have z1 := C11s8.out.cell 1
                                      have z2 := C11s8.out.cell 2
                                      have z3 := C11s8.out.cell 3
                                      have f0 := C11s8.out.frozen 0
                                      have f1 := C11s8.out.frozen 1
                                      have f2 := C11s8.out.frozen 2
                                      have f3 := C11s8.out.frozen 3
                                      simp only [List.getElem?_cons_zero, List.getElem?_cons_succ] at z0 z1 z2 z3
                                      clear hv8
                                      go_simp
                                      have Us8 := Lib.hid (st4_same C11s8.out (.int .i64 y.c) (.int .i64 y.s) (.int .i64 y.l) (.int .i64 y.h))
                                      have U10s8 := Lib.hid (st4_other C10s8.out (fun e => D1011 (by first | exact e | exact e.symm)) (.int .i64 y.c) (.int .i64 y.s) (.int .i64 y.l) (.int .i64 y.h) (g := v3.heap.size))
                                      have U12s8 := Lib.hid (st4_other C12s8.out (fun e => D1112 (by first | exact e | exact e.symm)) (.int .i64 y.c) (.int .i64 y.s) (.int .i64 y.l) (.int .i64 y.h) (g := v3.heap.size))
                                      have Vs8 := Lib.hid (Ts8.out.st4 G11 (.int .i64 y.c) (.int .i64 y.s) (.int .i64 y.l) (.int .i64 y.h))
                                      refine hK.out _ _ (fun h => nomatch (show true = false from h)) ?_
                                      clear hK K z0 z1 z2 z3 f0 f1 f2 f3
                                      try simp only [Act.put]
                                      refine wpP_1 (i := 15) rfl (by kernel_rfl) (fun v9 hv9 K hK => ?_)
                                      have C10s9 := Lib.hid (U10s8.out.ch hv9 (fun h => h))
                                      have C11s9 := Lib.hid (Us8.out.ch hv9 (fun h => h))
                                      have C12s9 := Lib.hid (U12s8.out.ch hv9 (fun h => h))
                                      have Ts9 := Lib.hid (Vs8.out.no _ _ hv9)
                                      have z0 := C12s9.out.cell 0
                                      have z1 := C12s9.out.cell 1
                                      have z2 := C12s9.out.cell 2
                                      have z3 := C12s9.out.cell 3
                                      have f0 := C12s9.out.frozen 0
                                      have f1 := C12s9.out.frozen 1
                                      have f2 := C12s9.out.frozen 2
                                      have f3 := C12s9.out.frozen 3
                                      simp only [List.getElem?_cons_zero, List.getElem?_cons_succ] at z0 z1 z2 z3
                                      clear hv9
                                      go_simp
                                      have Us9 := Lib.hid (st4_same C12s9.out (.int .i64 z.c) (.int .i64 z.s) (.int .i64 z.l) (.int .i64 z.h))
                                      have U10s9 := Lib.hid (st4_other C10s9.out (fun e => D1012 (by first | exact e | exact e.symm)) (.int .i64 z.c) (.int .i64 z.s) (.int .i64 z.l) (.int .i64 z.h) (g := v5.heap.size))
                                      have U11s9 := Lib.hid (st4_other C11s9.out (fun e => D1112 (by first | exact e | exact e.symm)) (.int .i64 z.c) (.int .i64 z.s) (.int .i64 z.l) (.int .i64 z.h) (g := v5.heap.size))
                                      have Vs9 := Lib.hid (Ts9.out.st4 G12 (.int .i64 z.c) (.int .i64 z.s) (.int .i64 z.l) (.int .i64 z.h))
                                      refine hK.out _ _ (fun h => nomatch (show true = false from h)) ?_
                                      clear hK K z0 z1 z2 z3 f0 f1 f2 f3
                                      try simp only [Act.put]
                                      refine wpP_done (eq_of_beq (by kernel_rfl)) (fun wz hwz => ⟨by first | rfl | trivial, ?_⟩) _
                                      exact ⟨trivial, ((v1.heap.size, v3.heap.size, v5.heap.size, Value.slice (some ⟨ga, 0, none⟩) 0 0) : Nat × Nat × Nat × Value), by kernel_rfl, U10s9.out.ch hwz (fun h => h), U11s9.out.ch hwz (fun h => h), Us9.out.ch hwz (fun h => h), Vs9.out.no _ _ hwz⟩
                                    · refine wpP_step rfl (fun K hK => ?_)
                                      go_simp
                                      have Ts10 := Lib.hid (Ts2.out.no _ _ (hv3.alloc (.cells #[.int .i64 0, .int .i64 0, .int .i64 0, .int .i64 0] 63)))
                                      have B10s10 := Lib.hid ((B10s2.out.ch hv3 (fun h => h)).alloc (.cells #[.int .i64 0, .int .i64 0, .int .i64 0, .int .i64 0] 63))
                                      have L10s10 : v1.heap.size < v3.heap.size := (B10s2.out.ch hv3 (fun h => h)).lt
                                      have B12s10 : Hid (Blk (v3.alloc (.cells #[.int .i64 0, .int .i64 0, .int .i64 0, .int .i64 0] 63)) v3.heap.size 63 [.int .i64 0, .int .i64 0, .int .i64 0, .int .i64 0]) := Lib.hid (Blk.new v3 63 [.int .i64 0, .int .i64 0, .int .i64 0, .int .i64 0])
                                      have G12 : g0 ≤ v3.heap.size := Nat.le_trans Ts2.out.low (hv3.size)
                                      have D1012 : ¬ v1.heap.size = v3.heap.size := by omega
                                      refine hK.out _ _ (fun _ => Ts10.out) ?_
                                      clear hK K
                                      try simp only [Act.put]
                                      refine wpP_1 (i := 11) rfl (by kernel_rfl) (fun v11 hv11 K hK => ?_)
                                      go_simp
                                      have Ts12 := Lib.hid (Ts10.out.no _ _ (hv11.alloc (.cells #[.int .i64 0, .int .i64 0, .int .i64 0, .int .i64 0] 63)))
                                      have B10s12 := Lib.hid ((B10s10.out.ch hv11 (fun h => h)).alloc (.cells #[.int .i64 0, .int .i64 0, .int .i64 0, .int .i64 0] 63))
                                      have L10s12 : v1.heap.size < v11.heap.size := (B10s10.out.ch hv11 (fun h => h)).lt
                                      have B12s12 := Lib.hid ((B12s10.out.ch hv11 (fun h => h)).alloc (.cells #[.int .i64 0, .int .i64 0, .int .i64 0, .int .i64 0] 63))
                                      have L12s12 : v3.heap.size < v11.heap.size := (B12s10.out.ch hv11 (fun h => h)).lt
                                      have B11s12 : Hid (Blk (v11.alloc (.cells #[.int .i64 0, .int .i64 0, .int .i64 0, .int .i64 0] 63)) v11.heap.size 63 [.int .i64 0, .int .i64 0, .int .i64 0, .int .i64 0]) := Lib.hid (Blk.new v11 63 [.int .i64 0, .int .i64 0, .int .i64 0, .int .i64 0])
                                      have G11 : g0 ≤ v11.heap.size := Nat.le_trans Ts10.out.low (hv11.size)
                                      have D1011 : ¬ v1.heap.size = v11.heap.size := by omega
                                      have D1112 : ¬ v3.heap.size = v11.heap.size := by omega
                                      refine hK.out _ _ (fun _ => Ts12.out) ?_
                                      clear hK K
                                      try simp only [Act.put]
                                      refine wpP_1 (i := 13) rfl (by kernel_rfl) (fun v13 hv13 K hK => ?_)
                                      have C10s13 := Lib.hid (B10s12.out.ch hv13 (fun h => h))
                                      have C11s13 := Lib.hid (B11s12.out.ch hv13 (fun h => h))
                                      have C12s13 := Lib.hid (B12s12.out.ch hv13 (fun h => h))
                                      have Ts13 := Lib.hid (Ts12.out.no _ _ hv13)
                                      have z0 := C10s13.out.cell 0
                                      have z1 := C10s13.out.cell 1
                                      have z2 := C10s13.out.cell 2
                                      have z3 := C10s13.out.cell 3
                                      have f0 := C10s13.out.frozen 0
                                      have f1 := C10s13.out.frozen 1
                                      have f2 := C10s13.out.frozen 2
                                      have f3 := C10s13.out.frozen 3
                                      simp only [List.getElem?_cons_zero, List.getElem?_cons_succ] at z0 z1 z2 z3
                                      clear hv13
                                      go_simp
                                      have Us13 := Lib.hid (st4_same C10s13.out (.int .i64 x.c) (.int .i64 x.s) (.int .i64 x.l) (.int .i64 x.h))
                                      have U11s13 := Lib.hid (st4_other C11s13.out (fun e => D1011 (by first | exact e | exact e.symm)) (.int .i64 x.c) (.int .i64 x.s) (.int .i64 x.l) (.int .i64 x.h) (g := v1.heap.size))
                                      have U12s13 := Lib.hid (st4_other C12s13.out (fun e => D1012 (by first | exact e | exact e.symm)) (.int .i64 x.c) (.int .i64 x.s) (.int .i64 x.l) (.int .i64 x.h) (g := v1.heap.size))
                                      have Vs13 := Lib.hid (Ts13.out.st4 G10 (.int .i64 x.c) (.int .i64 x.s) (.int .i64 x.l) (.int .i64 x.h))
                                      refine hK.out _ _ (fun h => nomatch (show true = false from h)) ?_
                                      clear hK K z0 z1 z2 z3 f0 f1 f2 f3
                                      try simp only [Act.put]
                                      refine wpP_1 (i := 14) rfl (by kernel_rfl) (fun v14 hv14 K hK => ?_)
                                      have C10s14 := Lib.hid (Us13.out.ch hv14 (fun h => h))
                                      have C11s14 := Lib.hid (U11s13.out.ch hv14 (fun h => h))
                                      have C12s14 := Lib.hid (U12s13.out.ch hv14 (fun h => h))
                                      have Ts14 := Lib.hid (Vs13.out.no _ _ hv14)
                                      have z0 := C11s14.out.cell 0
                                      have z1 := C11s14.out.cell 1
                                      have z2 := C11s14.out.cell 2
                                      have z3 := C11s14.out.cell 3
                                      have f0 := C11s14.out.frozen 0
                                      have f1 := C11s14.out.frozen 1
                                      have f2 := C11s14.out.frozen 2
                                      have f3 := C11s14.out.frozen 3
                                      simp only [List.getElem?_cons_zero, List.getElem?_cons_succ] at z0 z1 z2 z3
                                      clear hv14
                                      go_simp
                                      have Us14 := Lib.hid (st4_same C11s14.out (.int .i64 y.c) (.int .i64 y.s) (.int .i64 y.l) (.int .i64 y.h))
                                      have U10s14 := Lib.hid (st4_other C10s14.out (fun e => D1011 (by first | exact e | exact e.symm)) (.int .i64 y.c) (.int .i64 y.s) (.int .i64 y.l) (.int .i64 y.h) (g := v11.heap.size))
                                      have U12s14 := Lib.hid (st4_other C12s14.out (fun e => D1112 (by first | exact e | exact e.symm)) (.int .i64 y.c) (.int .i64 y.s) (.int .i64 y.l) (.int .i64 y.h) (g := v11.heap.size))
                                      have Vs14 := Lib.hid (Ts14.out.st4 G11 (.int .i64 y.c) (.int .i64 y.s) (.int .i64 y.l) (.int .i64 y.h))
                                      refine hK.out _ _ (fun h => nomatch (show true = false from h)) ?_
                                      clear hK K z0 z1 z2 z3 f0 f1 f2 f3
                                      try simp only [Act.put]
                                      refine wpP_1 (i := 15) rfl (by kernel_rfl) (fun v15 hv15 K hK => ?_)
                                      have C10s15 := Lib.hid (U10s14.out.ch hv15 (fun h => h))
                                      have C11s15 := Lib.hid (Us14.out.ch hv15 (fun h => h))
                                      have C12s15 := Lib.hid (U12s14.out.ch hv15 (fun h => h))
                                      have Ts15 := Lib.hid (Vs14.out.no _ _ hv15)
                                      have z0 := C12s15.out.cell 0
                                      have z1 := C12s15.out.cell 1
                                      have z2 := C12s15.out.cell 2
                                      have z3 := C12s15.out.cell 3
                                      have f0 := C12s15.out.frozen 0
                                      have f1 := C12s15.out.frozen 1
                                      have f2 := C12s15.out.frozen 2
                                      have f3 := C12s15.out.frozen 3
                                      simp only [List.getElem?_cons_zero, List.getElem?_cons_succ] at z0 z1 z2 z3
                                      clear hv15
                                      go_simp
                                      have Us15 := Lib.hid (st4_same C12s15.out (.int .i64 z.c) (.int .i64 z.s) (.int .i64 z.l) (.int .i64 z.h))
                                      have U10s15 := Lib.hid (st4_other C10s15.out (fun e => D1012 (by first | exact e | exact e.symm)) (.int .i64 z.c) (.int .i64 z.s) (.int .i64 z.l) (.int .i64 z.h) (g := v3.heap.size))
                                      have U11s15 := Lib.hid (st4_other C11s15.out (fun e => D1112 (by first | exact e | exact e.symm)) (.int .i64 z.c) (.int .i64 z.s) (.int .i64 z.l) (.int .i64 z.h) (g := v3.heap.size))
                                      have Vs15 := Lib.hid (Ts15.out.st4 G12 (.int .i64 z.c) (.int .i64 z.s) (.int .i64 z.l) (.int .i64 z.h))
                                      refine hK.out _ _ (fun h => nomatch (show true = false from h)) ?_
                                      clear hK K z0 z1 z2 z3 f0 f1 f2 f3
                                      try simp only [Act.put]
                                      refine wpP_done (eq_of_beq (by kernel_rfl)) (fun wz hwz => ⟨by first | rfl | trivial, ?_⟩) _
                                      exact ⟨trivial, ((v1.heap.size, v11.heap.size, v3.heap.size, Value.slice (some ⟨ga, 0, none⟩) 0 0) : Nat × Nat × Nat × Value), by kernel_rfl, U10s15.out.ch hwz (fun h => h), U11s15.out.ch hwz (fun h => h), Us15.out.ch hwz (fun h => h), Vs15.out.no _ _ hwz⟩
                                  · refine wpP_step rfl (fun K hK => ?_)
                                    go_simp
                                    have Ts16 := Lib.hid (HT.out.no _ _ (hv1.alloc (.cells #[.int .i64 0, .int .i64 0, .int .i64 0, .int .i64 0] 63)))
                                    have B11s16 : Hid (Blk (v1.alloc (.cells #[.int .i64 0, .int .i64 0, .int .i64 0, .int .i64 0] 63)) v1.heap.size 63 [.int .i64 0, .int .i64 0, .int .i64 0, .int .i64 0]) := Lib.hid (Blk.new v1 63 [.int .i64 0, .int .i64 0, .int .i64 0, .int .i64 0])
                                    have G11 : g0 ≤ v1.heap.size := Nat.le_trans HT.out.low (hv1.size)
                                    refine hK.out _ _ (fun _ => Ts16.out) ?_
                                    clear hK K
                                    try simp only [Act.put]
                                    refine wpP_one (rs := [10, 12]) (eq_of_beq (by kernel_rfl)) (by simp) ?_
                                    intro v17 hv17 i hi
                                    rcases (by simpa using hi : i = 10 ∨ i = 12) with rfl | rfl
                                    · refine wpP_step rfl (fun K hK => ?_)
                                      go_simp
                                      have Ts18 := Lib.hid (Ts16.out.no _ _ (hv17.alloc (.cells #[.int .i64 0, .int .i64 0, .int .i64 0, .int .i64 0] 63)))
                                      have B11s18 := Lib.hid ((B11s16.out.ch hv17 (fun h => h)).alloc (.cells #[.int .i64 0, .int .i64 0, .int .i64 0, .int .i64 0] 63))
                                      have L11s18 : v1.heap.size < v17.heap.size := (B11s16.out.ch hv17 (fun h => h)).lt
                                      have B10s18 : Hid (Blk (v17.alloc (.cells #[.int .i64 0, .int .i64 0, .int .i64 0, .int .i64 0] 63)) v17.heap.size 63 [.int .i64 0, .int .i64 0, .int .i64 0, .int .i64 0]) := Lib.hid (Blk.new v17 63 [.int .i64 0, .int .i64 0, .int .i64 0, .int .i64 0])
                                      have G10 : g0 ≤ v17.heap.size := Nat.le_trans Ts16.out.low (hv17.size)
                                      have D1011 : ¬ v1.heap.size = v17.heap.size := by omega
                                      refine hK.out _ _ (fun _ => Ts18.out) ?_
                                      clear hK K
                                      try simp only [Act.put]
                                      refine wpP_1 (i := 12) rfl (by kernel_rfl) (fun v19 hv19 K hK => ?_)
                                      go_simp
                                      have Ts20 := Lib.hid (Ts18.out.no _ _ (hv19.alloc (.cells #[.int .i64 0, .int .i64 0, .int .i64 0, .int .i64 0] 63)))
                                      have B10s20 := Lib.hid ((B10s18.out.ch hv19 (fun h => h)).alloc (.cells #[.int .i64 0, .int .i64 0, .int .i64 0, .int .i64 0] 63))
                                      have L10s20 : v17.heap.size < v19.heap.size := (B10s18.out.ch hv19 (fun h => h)).lt
                                      have B11s20 := Lib.hid ((B11s18.out.ch hv19 (fun h => h)).alloc (.cells #[.int .i64 0, .int .i64 0, .int .i64 0, .int .i64 0] 63))
                                      have L11s20 : v1.heap.size < v19.heap.size := (B11s18.out.ch hv19 (fun h => h)).lt
                                      have B12s20 : Hid (Blk (v19.alloc (.cells #[.int .i64 0, .int .i64 0, .int .i64 0, .int .i64 0] 63)) v19.heap.size 63 [.int .i64 0, .int .i64 0, .int .i64 0, .int .i64 0]) := Lib.hid (Blk.new v19 63 [.int .i64 0, .int .i64 0, .int .i64 0, .int .i64 0])
                                      have G12 : g0 ≤ v19.heap.size := Nat.le_trans Ts18.out.low (hv19.size)
                                      have D1012 : ¬ v17.heap.size = v19.heap.size := by omega
                                      have D1112 : ¬ v1.heap.size = v19.heap.size := by omega
                                      refine hK.out _ _ (fun _ => Ts20.out) ?_
                                      clear hK K
                                      try simp only [Act.put]
                                      refine wpP_1 (i := 13) rfl (by kernel_rfl) (fun v21 hv21 K hK => ?_)
                                      have C10s21 := Lib.hid (B10s20.out.ch hv21 (fun h => h))
                                      have C11s21 := Lib.hid (B11s20.out.ch hv21 (fun h => h))
                                      have C12s21 := Lib.hid (B12s20.out.ch hv21 (fun h => h))
                                      have Ts21 := Lib.hid (Ts20.out.no _ _ hv21)
                                      have z0 := C10s21.out.cell 0
                                      have z1 := C10s21.out.cell 1
                                      have z2 := C10s21.out.cell 2
                                      have z3 := C10s21.out.cell 3
                                      have f0 := C10s21.out.frozen 0
                                      have f1 := C10s21.out.frozen 1
                                      have f2 := C10s21.out.frozen 2
                                      have f3 := C10s21.out.frozen 3
                                      simp only [List.getElem?_cons_zero, List.getElem?_cons_succ] at z0 z1 z2 z3
                                      clear hv21
                                      go_simp
                                      have Us21 := Lib.hid (st4_same C10s21.out (.int .i64 x.c) (.int .i64 x.s) (.int .i64 x.l) (.int .i64 x.h))
                                      have U11s21 := Lib.hid (st4_other C11s21.out (fun e => D1011 (by first | exact e | exact e.symm)) (.int .i64 x.c) (.int .i64 x.s) (.int .i64 x.l) (.int .i64 x.h) (g := v17.heap.size))
                                      have U12s21 := Lib.hid (st4_other C12s21.out (fun e => D1012 (by first | exact e | exact e.symm)) (.int .i64 x.c) (.int .i64 x.s) (.int .i64 x.l) (.int .i64 x.h) (g := v17.heap.size))
                                      have Vs21 := Lib.hid (Ts21.out.st4 G10 (.int .i64 x.c) (.int .i64 x.s) (.int .i64 x.l) (.int .i64 x.h))
                                      refine hK.out _ _ (fun h => nomatch (show true = false from h)) ?_
                                      clear hK K z0 z1 z2 z3 f0 f1 f2 f3
                                      try simp only [Act.put]
                                      refine wpP_1 (i := 14) rfl (by kernel_rfl) (fun v22 hv22 K hK => ?_)
                                      have C10s22 := Lib.hid (Us21.out.ch hv22 (fun h => h))
                                      have C11s22 := Lib.hid (U11s21.out.ch hv22 (fun h => h))
                                      have C12s22 := Lib.hid (U12s21.out.ch hv22 (fun h => h))
                                      have Ts22 := Lib.hid (Vs21.out.no _ _ hv22)
                                      have z0 := C11s22.out.cell 0
                                      have z1 := C11s22.out.cell 1
                                      have z2 := C11s22.out.cell 2
                                      have z3 := C11s22.out.cell 3
                                      have f0 := C11s22.out.frozen 0
                                      have f1 := C11s22.out.frozen 1
                                      have f2 := C11s22.out.frozen 2
                                      have f3 := C11s22.out.frozen 3
                                      simp only [List.getElem?_cons_zero, List.getElem?_cons_succ] at z0 z1 z2 z3
                                      clear hv22
                                      go_simp
                                      have Us22 := Lib.hid (st4_same C11s22.out (.int .i64 y.c) (.int .i64 y.s) (.int .i64 y.l) (.int .i64 y.h))
                                      have U10s22 := Lib.hid (st4_other C10s22.out (fun e => D1011 (by first | exact e | exact e.symm)) (.int .i64 y.c) (.int .i64 y.s) (.int .i64 y.l) (.int .i64 y.h) (g := v1.heap.size))
                                      have U12s22 := Lib.hid (st4_other C12s22.out (fun e => D1112 (by first | exact e | exact e.symm)) (.int .i64 y.c) (.int .i64 y.s) (.int .i64 y.l) (.int .i64 y.h) (g := v1.heap.size))
                                      have Vs22 := Lib.hid (Ts22.out.st4 G11 (.int .i64 y.c) (.int .i64 y.s) (.int .i64 y.l) (.int .i64 y.h))
                                      refine hK.out _ _ (fun h => nomatch (show true = false from h)) ?_
                                      clear hK K z0 z1 z2 z3 f0 f1 f2 f3
                                      try simp only [Act.put]
                                      refine wpP_1 (i := 15) rfl (by kernel_rfl) (fun v23 hv23 K hK => ?_)
                                      have C10s23 := Lib.hid (U10s22.out.ch hv23 (fun h => h))
                                      have C11s23 := Lib.hid (Us22.out.ch hv23 (fun h => h))
                                      have C12s23 := Lib.hid (U12s22.out.ch hv23 (fun h => h))
                                      have Ts23 := Lib.hid (Vs22.out.no _ _ hv23)
                                      have z0 := C12s23.out.cell 0
                                      have z1 := C12s23.out.cell 1
                                      have z2 := C12s23.out.cell 2
                                      have z3 := C12s23.out.cell 3
                                      have f0 := C12s23.out.frozen 0
                                      have f1 := C12s23.out.frozen 1
                                      have f2 := C12s23.out.frozen 2
                                      have f3 := C12s23.out.frozen 3
                                      simp only [List.getElem?_cons_zero, List.getElem?_cons_succ] at z0 z1 z2 z3
                                      clear hv23
                                      go_simp
                                      have Us23 := Lib.hid (st4_same C12s23.out (.int .i64 z.c) (.int .i64 z.s) (.int .i64 z.l) (.int .i64 z.h))
                                      have U10s23 := Lib.hid (st4_other C10s23.out (fun e => D1012 (by first | exact e | exact e.symm)) (.int .i64 z.c) (.int .i64 z.s) (.int .i64 z.l) (.int .i64 z.h) (g := v19.heap.size))
                                      have U11s23 := Lib.hid (st4_other C11s23.out (fun e => D1112 (by first | exact e | exact e.symm)) (.int .i64 z.c) (.int .i64 z.s) (.int .i64 z.l) (.int .i64 z.h) (g := v19.heap.size))
                                      have Vs23 := Lib.hid (Ts23.out.st4 G12 (.int .i64 z.c) (.int .i64 z.s) (.int .i64 z.l) (.int .i64 z.h))
                                      refine hK.out _ _ (fun h => nomatch (show true = false from h)) ?_
                                      clear hK K z0 z1 z2 z3 f0 f1 f2 f3
                                      try simp only [Act.put]
                                      refine wpP_done (eq_of_beq (by kernel_rfl)) (fun wz hwz => ⟨by first | rfl | trivial, ?_⟩) _
                                      exact ⟨trivial, ((v17.heap.size, v1.heap.size, v19.heap.size, Value.slice (some ⟨ga, 0, none⟩) 0 0) : Nat × Nat × Nat × Value), by kernel_rfl, U10s23.out.ch hwz (fun h => h), U11s23.out.ch hwz (fun h => h), Us23.out.ch hwz (fun h => h), Vs23.out.no _ _ hwz⟩
                                    · refine wpP_step rfl (fun K hK => ?_)
                                      go_simp
                                      have Ts24 := Lib.hid (Ts16.out.no _ _ (hv17.alloc (.cells #[.int .i64 0, .int .i64 0, .int .i64 0, .int .i64 0] 63)))
                                      have B11s24 := Lib.hid ((B11s16.out.ch hv17 (fun h => h)).alloc (.cells #[.int .i64 0, .int .i64 0, .int .i64 0, .int .i64 0] 63))
                                      have L11s24 : v1.heap.size < v17.heap.size := (B11s16.out.ch hv17 (fun h => h)).lt
                                      have B12s24 : Hid (Blk (v17.alloc (.cells #[.int .i64 0, .int .i64 0, .int .i64 0, .int .i64 0] 63)) v17.heap.size 63 [.int .i64 0, .int .i64 0, .int .i64 0, .int .i64 0]) := Lib.hid (Blk.new v17 63 [.int .i64 0, .int .i64 0, .int .i64 0, .int .i64 0])
                                      have G12 : g0 ≤ v17.heap.size := Nat.le_trans Ts16.out.low (hv17.size)
                                      have D1112 : ¬ v1.heap.size = v17.heap.size := by omega
                                      refine hK.out _ _ (fun _ => Ts24.out) ?_
                                      clear hK K
                                      try simp only [Act.put]
                                      refine wpP_1 (i := 10) rfl (by kernel_rfl) (fun v25 hv25 K hK => ?_)
                                      go_simp
                                      have Ts26 := Lib.hid (Ts24.out.no _ _ (hv25.alloc (.cells #[.int .i64 0, .int .i64 0, .int .i64 0, .int .i64 0] 63)))
                                      have B11s26 := Lib.hid ((B11s24.out.ch hv25 (fun h => h)).alloc (.cells #[.int .i64 0, .int .i64 0, .int .i64 0, .int .i64 0] 63))
                                      have L11s26 : v1.heap.size < v25.heap.size := (B11s24.out.ch hv25 (fun h => h)).lt
                                      have B12s26 := Lib.hid ((B12s24.out.ch hv25 (fun h => h)).alloc (.cells #[.int .i64 0, .int .i64 0, .int .i64 0, .int .i64 0] 63))
                                      have L12s26 : v17.heap.size < v25.heap.size := (B12s24.out.ch hv25 (fun h => h)).lt
                                      have B10s26 : Hid (Blk (v25.alloc (.cells #[.int .i64 0, .int .i64 0, .int .i64 0, .int .i64 0] 63)) v25.heap.size 63 [.int .i64 0, .int .i64 0, .int .i64 0, .int .i64 0]) := Lib.hid (Blk.new v25 63 [.int .i64 0, .int .i64 0, .int .i64 0, .int .i64 0])
                                      have G10 : g0 ≤ v25.heap.size := Nat.le_trans Ts24.out.low (hv25.size)
                                      have D1011 : ¬ v1.heap.size = v25.heap.size := by omega
                                      have D1012 : ¬ v17.heap.size = v25.heap.size := by omega
                                      refine hK.out _ _ (fun _ => Ts26.out) ?_
                                      clear hK K
                                      try simp only [Act.put]
                                      refine wpP_1 (i := 13) rfl (by kernel_rfl) (fun v27 hv27 K hK => ?_)
                                      have C10s27 := Lib.hid (B10s26.out.ch hv27 (fun h => h))
                                      have C11s27 := Lib.hid (B11s26.out.ch hv27 (fun h => h))
                                      have C12s27 := Lib.hid (B12s26.out.ch hv27 (fun h => h))
                                      have Ts27 := Lib.hid (Ts26.out.no _ _ hv27)
                                      have z0 := C10s27.out.cell 0
                                      have z1 := C10s27.out.cell 1
                                      have z2 := C10s27.out.cell 2
                                      have z3 := C10s27.out.cell 3
                                      have f0 := C10s27.out.frozen 0
                                      have f1 := C10s27.out.frozen 1
                                      have f2 := C10s27.out.frozen 2
                                      have f3 := C10s27.out.frozen 3
                                      simp only [List.getElem?_cons_zero, List.getElem?_cons_succ] at z0 z1 z2 z3
                                      clear hv27
                                      go_simp
                                      have Us27 := Lib.hid (st4_same C10s27.out (.int .i64 x.c) (.int .i64 x.s) (.int .i64 x.l) (.int .i64 x.h))
                                      have U11s27 := Lib.hid (st4_other C11s27.out (fun e => D1011 (by first | exact e | exact e.symm)) (.int .i64 x.c) (.int .i64 x.s) (.int .i64 x.l) (.int .i64 x.h) (g := v25.heap.size))
                                      have U12s27 := Lib.hid (st4_other C12s27.out (fun e => D1012 (by first | exact e | exact e.symm)) (.int .i64 x.c) (.int .i64 x.s) (.int .i64 x.l) (.int .i64 x.h) (g := v25.heap.size))
                                      have Vs27 := Lib.hid (Ts27.out.st4 G10 (.int .i64 x.c) (.int .i64 x.s) (.int .i64 x.l) (.int .i64 x.h))
                                      refine hK.out _ _ (fun h => nomatch (show true = false from h)) ?_
                                      clear hK K z0 z1 z2 z3 f0 f1 f2 f3
                                      try simp only [Act.put]
                                      refine wpP_1 (i := 14) rfl (by kernel_rfl) (fun v28 hv28 K hK => ?_)
                                      have C10s28 := Lib.hid (Us27.out.ch hv28 (fun h => h))
                                      have C11s28 := Lib.hid (U11s27.out.ch hv28 (fun h => h))
                                      have C12s28 := Lib.hid (U12s27.out.ch hv28 (fun h => h))
                                      have Ts28 := Lib.hid (Vs27.out.no _ _ hv28)
                                      have z0 := C11s28.out.cell 0
                                      have z1 := C11s28.out.cell 1
                                      have z2 := C11s28.out.cell 2
                                      have z3 := C11s28.out.cell 3
                                      have f0 := C11s28.out.frozen 0
                                      have f1 := C11s28.out.frozen 1
                                      have f2 := C11s28.out.frozen 2
                                      have f3 := C11s28.out.frozen 3
                                      simp only [List.getElem?_cons_zero, List.getElem?_cons_succ] at z0 z1 z2 z3
                                      clear hv28
                                      go_simp
                                      have Us28 := Lib.hid (st4_same C11s28.out (.int .i64 y.c) (.int .i64 y.s) (.int .i64 y.l) (.int .i64 y.h))
                                      have U10s28 := Lib.hid (st4_other C10s28.out (fun e => D1011 (by first | exact e | exact e.symm)) (.int .i64 y.c) (.int .i64 y.s) (.int .i64 y.l) (.int .i64 y.h) (g := v1.heap.size))
                                      have U12s28 := Lib.hid (st4_other C12s28.out (fun e => D1112 (by first | exact e | exact e.symm)) (.int .i64 y.c) (.int .i64 y.s) (.int .i64 y.l) (.int .i64 y.h) (g := v1.heap.size))
                                      have Vs28 := Lib.hid (Ts28.out.st4 G11 (.int .i64 y.c) (.int .i64 y.s) (.int .i64 y.l) (.int .i64 y.h))
                                      refine hK.out _ _ (fun h => nomatch (show true = false from h)) ?_
                                      clear hK K z0 z1 z2 z3 f0 f1 f2 f3
                                      try simp only [Act.put]
                                      refine wpP_1 (i := 15) rfl (by kernel_rfl) (fun v29 hv29 K hK => ?_)
                                      have C10s29 := Lib.hid (U10s28.out.ch hv29 (fun h => h))
                                      have C11s29 := Lib.hid (Us28.out.ch hv29 (fun h => h))
                                      have C12s29 := Lib.hid (U12s28.out.ch hv29 (fun h => h))
                                      have Ts29 := Lib.hid (Vs28.out.no _ _ hv29)
                                      have z0 := C12s29.out.cell 0
                                      have z1 := C12s29.out.cell 1
                                      have z2 := C12s29.out.cell 2
                                      have z3 := C12s29.out.cell 3
                                      have f0 := C12s29.out.frozen 0
                                      have f1 := C12s29.out.frozen 1
                                      have f2 := C12s29.out.frozen 2
                                      have f3 := C12s29.out.frozen 3
                                      simp only [List.getElem?_cons_zero, List.getElem?_cons_succ] at z0 z1 z2 z3
                                      clear hv29
                                      go_simp
                                      have Us29 := Lib.hid (st4_same C12s29.out (.int .i64 z.c) (.int .i64 z.s) (.int .i64 z.l) (.int .i64 z.h))
                                      have U10s29 := Lib.hid (st4_other C10s29.out (fun e => D1012 (by first | exact e | exact e.symm)) (.int .i64 z.c) (.int .i64 z.s) (.int .i64 z.l) (.int .i64 z.h) (g := v17.heap.size))
                                      have U11s29 := Lib.hid (st4_other C11s29.out (fun e => D1112 (by first | exact e | exact e.symm)) (.int .i64 z.c) (.int .i64 z.s) (.int .i64 z.l) (.int .i64 z.h) (g := v17.heap.size))
                                      have Vs29 := Lib.hid (Ts29.out.st4 G12 (.int .i64 z.c) (.int .i64 z.s) (.int .i64 z.l) (.int .i64 z.h))
                                      refine hK.out _ _ (fun h => nomatch (show true = false from h)) ?_
                                      clear hK K z0 z1 z2 z3 f0 f1 f2 f3
                                      try simp only [Act.put]
                                      refine wpP_done (eq_of_beq (by kernel_rfl)) (fun wz hwz => ⟨by first | rfl | trivial, ?_⟩) _
                                      exact ⟨trivial, ((v25.heap.size, v1.heap.size, v17.heap.size, Value.slice (some ⟨ga, 0, none⟩) 0 0) : Nat × Nat × Nat × Value), by kernel_rfl, U10s29.out.ch hwz (fun h => h), U11s29.out.ch hwz (fun h => h), Us29.out.ch hwz (fun h => h), Vs29.out.no _ _ hwz⟩
                                  · refine wpP_step rfl (fun K hK => ?_)
                                    go_simp
                                    have Ts30 := Lib.hid (HT.out.no _ _ (hv1.alloc (.cells #[.int .i64 0, .int .i64 0, .int .i64 0, .int .i64 0] 63)))
                                    have B12s30 : Hid (Blk (v1.alloc (.cells #[.int .i64 0, .int .i64 0, .int .i64 0, .int .i64 0] 63)) v1.heap.size 63 [.int .i64 0, .int .i64 0, .int .i64 0, .int .i64 0]) := Lib.hid (Blk.new v1 63 [.int .i64 0, .int .i64 0, .int .i64 0, .int .i64 0])
                                    have G12 : g0 ≤ v1.heap.size := Nat.le_trans HT.out.low (hv1.size)
                                    refine hK.out _ _ (fun _ => Ts30.out) ?_
                                    clear hK K
                                    try simp only [Act.put]
                                    refine wpP_one (rs := [10, 11]) (eq_of_beq (by kernel_rfl)) (by simp) ?_
                                    intro v31 hv31 i hi
                                    rcases (by simpa using hi : i = 10 ∨ i = 11) with rfl | rfl
                                    · refine wpP_step rfl (fun K hK => ?_)
                                      go_simp
                                      have Ts32 := Lib.hid (Ts30.out.no _ _ (hv31.alloc (.cells #[.int .i64 0, .int .i64 0, .int .i64 0, .int .i64 0] 63)))
                                      have B12s32 := Lib.hid ((B12s30.out.ch hv31 (fun h => h)).alloc (.cells #[.int .i64 0, .int .i64 0, .int .i64 0, .int .i64 0] 63))
                                      have L12s32 : v1.heap.size < v31.heap.size := (B12s30.out.ch hv31 (fun h => h)).lt
                                      have B10s32 : Hid (Blk (v31.alloc (.cells #[.int .i64 0, .int .i64 0, .int .i64 0, .int .i64 0] 63)) v31.heap.size 63 [.int .i64 0, .int .i64 0, .int .i64 0, .int .i64 0]) := Lib.hid (Blk.new v31 63 [.int .i64 0, .int .i64 0, .int .i64 0, .int .i64 0])
                                      have G10 : g0 ≤ v31.heap.size := Nat.le_trans Ts30.out.low (hv31.size)
                                      have D1012 : ¬ v1.heap.size = v31.heap.size := by omega
                                      refine hK.out _ _ (fun _ => Ts32.out) ?_
                                      clear hK K
                                      try simp only [Act.put]
                                      refine wpP_1 (i := 11) rfl (by kernel_rfl) (fun v33 hv33 K hK => ?_)
                                      go_simp
                                      have Ts34 := Lib.hid (Ts32.out.no _ _ (hv33.alloc (.cells #[.int .i64 0, .int .i64 0, .int .i64 0, .int .i64 0] 63)))
                                      have B10s34 := Lib.hid ((B10s32.out.ch hv33 (fun h => h)).alloc (.cells #[.int .i64 0, .int .i64 0, .int .i64 0, .int .i64 0] 63))
                                      have L10s34 : v31.heap.size < v33.heap.size := (B10s32.out.ch hv33 (fun h => h)).lt
                                      have B12s34 := Lib.hid ((B12s32.out.ch hv33 (fun h => h)).alloc (.cells #[.int .i64 0, .int .i64 0, .int .i64 0, .int .i64 0] 63))
                                      have L12s34 : v1.heap.size < v33.heap.size := (B12s32.out.ch hv33 (fun h => h)).lt
                                      have B11s34 : Hid (Blk (v33.alloc (.cells #[.int .i64 0, .int .i64 0, .int .i64 0, .int .i64 0] 63)) v33.heap.size 63 [.int .i64 0, .int .i64 0, .int .i64 0, .int .i64 0]) := Lib.hid (Blk.new v33 63 [.int .i64 0, .int .i64 0, .int .i64 0, .int .i64 0])
                                      have G11 : g0 ≤ v33.heap.size := Nat.le_trans Ts32.out.low (hv33.size)
                                      have D1011 : ¬ v31.heap.size = v33.heap.size := by omega
                                      have D1112 : ¬ v1.heap.size = v33.heap.size := by omega
                                      refine hK.out _ _ (fun _ => Ts34.out) ?_
                                      clear hK K
                                      try simp only [Act.put]
                                      refine wpP_1 (i := 13) rfl (by kernel_rfl) (fun v35 hv35 K hK => ?_)
                                      have C10s35 := Lib.hid (B10s34.out.ch hv35 (fun h => h))
                                      have C11s35 := Lib.hid (B11s34.out.ch hv35 (fun h => h))
                                      have C12s35 := Lib.hid (B12s34.out.ch hv35 (fun h => h))
                                      have Ts35 := Lib.hid (Ts34.out.no _ _ hv35)
                                      have z0 := C10s35.out.cell 0
                                      have z1 := C10s35.out.cell 1
                                      have z2 := C10s35.out.cell 2
                                      have z3 := C10s35.out.cell 3
                                      have f0 := C10s35.out.frozen 0
                                      have f1 := C10s35.out.frozen 1
                                      have f2 := C10s35.out.frozen 2
                                      have f3 := C10s35.out.frozen 3
                                      simp only [List.getElem?_cons_zero, List.getElem?_cons_succ] at z0 z1 z2 z3
                                      clear hv35
                                      go_simp
                                      have Us35 := Lib.hid (st4_same C10s35.out (.int .i64 x.c) (.int .i64 x.s) (.int .i64 x.l) (.int .i64 x.h))
                                      have U11s35 := Lib.hid (st4_other C11s35.out (fun e => D1011 (by first | exact e | exact e.symm)) (.int .i64 x.c) (.int .i64 x.s) (.int .i64 x.l) (.int .i64 x.h) (g := v31.heap.size))
                                      have U12s35 := Lib.hid (st4_other C12s35.out (fun e => D1012 (by first | exact e | exact e.symm)) (.int .i64 x.c) (.int .i64 x.s) (.int .i64 x.l) (.int .i64 x.h) (g := v31.heap.size))
                                      have Vs35 := Lib.hid (Ts35.out.st4 G10 (.int .i64 x.c) (.int .i64 x.s) (.int .i64 x.l) (.int .i64 x.h))
                                      refine hK.out _ _ (fun h => nomatch (show true = false from h)) ?_
                                      clear hK K z0 z1 z2 z3 f0 f1 f2 f3
                                      try simp only [Act.put]
                                      refine wpP_1 (i := 14) rfl (by kernel_rfl) (fun v36 hv36 K hK => ?_)
                                      have C10s36 := Lib.hid (Us35.out.ch hv36 (fun h => h))
                                      have C11s36 := Lib.hid (U11s35.out.ch hv36 (fun h => h))
                                      have C12s36 := Lib.hid (U12s35.out.ch hv36 (fun h => h))
                                      have Ts36 := Lib.hid (Vs35.out.no _ _ hv36)
                                      have z0 := C11s36.out.cell 0
                                      have z1 := C11s36.out.cell 1
                                      have z2 := C11s36.out.cell 2
                                      have z3 := C11s36.out.cell 3
                                      have f0 := C11s36.out.frozen 0
                                      have f1 := C11s36.out.frozen 1
                                      have f2 := C11s36.out.frozen 2
                                      have f3 := C11s36.out.frozen 3
                                      simp only [List.getElem?_cons_zero, List.getElem?_cons_succ] at z0 z1 z2 z3
                                      clear hv36
                                      go_simp
                                      have Us36 := Lib.hid (st4_same C11s36.out (.int .i64 y.c) (.int .i64 y.s) (.int .i64 y.l) (.int .i64 y.h))
                                      have U10s36 := Lib.hid (st4_other C10s36.out (fun e => D1011 (by first | exact e | exact e.symm)) (.int .i64 y.c) (.int .i64 y.s) (.int .i64 y.l) (.int .i64 y.h) (g := v33.heap.size))
                                      have U12s36 := Lib.hid (st4_other C12s36.out (fun e => D1112 (by first | exact e | exact e.symm)) (.int .i64 y.c) (.int .i64 y.s) (.int .i64 y.l) (.int .i64 y.h) (g := v33.heap.size))
                                      have Vs36 := Lib.hid (Ts36.out.st4 G11 (.int .i64 y.c) (.int .i64 y.s) (.int .i64 y.l) (.int .i64 y.h))
                                      refine hK.out _ _ (fun h => nomatch (show true = false from h)) ?_
                                      clear hK K z0 z1 z2 z3 f0 f1 f2 f3
                                      try simp only [Act.put]
                                      refine wpP_1 (i := 15) rfl (by kernel_rfl) (fun v37 hv37 K hK => ?_)
                                      have C10s37 := Lib.hid (U10s36.out.ch hv37 (fun h => h))
                                      have C11s37 := Lib.hid (Us36.out.ch hv37 (fun h => h))
                                      have C12s37 := Lib.hid (U12s36.out.ch hv37 (fun h => h))
                                      have Ts37 := Lib.hid (Vs36.out.no _ _ hv37)
                                      have z0 := C12s37.out.cell 0
                                      have z1 := C12s37.out.cell 1
                                      have z2 := C12s37.out.cell 2
                                      have z3 := C12s37.out.cell 3
                                      have f0 := C12s37.out.frozen 0
                                      have f1 := C12s37.out.frozen 1
                                      have f2 := C12s37.out.frozen 2
                                      have f3 := C12s37.out.frozen 3
                                      simp only [List.getElem?_cons_zero, List.getElem?_cons_succ] at z0 z1 z2 z3
                                      clear hv37
                                      go_simp
                                      have Us37 := Lib.hid (st4_same C12s37.out (.int .i64 z.c) (.int .i64 z.s) (.int .i64 z.l) (.int .i64 z.h))
                                      have U10s37 := Lib.hid (st4_other C10s37.out (fun e => D1012 (by first | exact e | exact e.symm)) (.int .i64 z.c) (.int .i64 z.s) (.int .i64 z.l) (.int .i64 z.h) (g := v1.heap.size))
                                      have U11s37 := Lib.hid (st4_other C11s37.out (fun e => D1112 (by first | exact e | exact e.symm)) (.int .i64 z.c) (.int .i64 z.s) (.int .i64 z.l) (.int .i64 z.h) (g := v1.heap.size))
                                      have Vs37 := Lib.hid (Ts37.out.st4 G12 (.int .i64 z.c) (.int .i64 z.s) (.int .i64 z.l) (.int .i64 z.h))
                                      refine hK.out _ _ (fun h => nomatch (show true = false from h)) ?_
                                      clear hK K z0 z1 z2 z3 f0 f1 f2 f3
                                      try simp only [Act.put]
                                      refine wpP_done (eq_of_beq (by kernel_rfl)) (fun wz hwz => ⟨by first | rfl | trivial, ?_⟩) _
                                      exact ⟨trivial, ((v31.heap.size, v33.heap.size, v1.heap.size, Value.slice (some ⟨ga, 0, none⟩) 0 0) : Nat × Nat × Nat × Value), by kernel_rfl, U10s37.out.ch hwz (fun h => h), U11s37.out.ch hwz (fun h => h), Us37.out.ch hwz (fun h => h), Vs37.out.no _ _ hwz⟩
                                    · refine wpP_step rfl (fun K hK => ?_)
                                      go_simp
                                      have Ts38 := Lib.hid (Ts30.out.no _ _ (hv31.alloc (.cells #[.int .i64 0, .int .i64 0, .int .i64 0, .int .i64 0] 63)))
                                      have B12s38 := Lib.hid ((B12s30.out.ch hv31 (fun h => h)).alloc (.cells #[.int .i64 0, .int .i64 0, .int .i64 0, .int .i64 0] 63))
                                      have L12s38 : v1.heap.size < v31.heap.size := (B12s30.out.ch hv31 (fun h => h)).lt
                                      have B11s38 : Hid (Blk (v31.alloc (.cells #[.int .i64 0, .int .i64 0, .int .i64 0, .int .i64 0] 63)) v31.heap.size 63 [.int .i64 0, .int .i64 0, .int .i64 0, .int .i64 0]) := Lib.hid (Blk.new v31 63 [.int .i64 0, .int .i64 0, .int .i64 0, .int .i64 0])
                                      have G11 : g0 ≤ v31.heap.size := Nat.le_trans Ts30.out.low (hv31.size)
                                      have D1112 : ¬ v1.heap.size = v31.heap.size := by omega
                                      refine hK.out _ _ (fun _ => Ts38.out) ?_
                                      clear hK K
                                      try simp only [Act.put]
                                      refine wpP_1 (i := 10) rfl (by kernel_rfl) (fun v39 hv39 K hK => ?_)
                                      go_simp
                                      have Ts40 := Lib.hid (Ts38.out.no _ _ (hv39.alloc (.cells #[.int .i64 0, .int .i64 0, .int .i64 0, .int .i64 0] 63)))
                                      have B11s40 := Lib.hid ((B11s38.out.ch hv39 (fun h => h)).alloc (.cells #[.int .i64 0, .int .i64 0, .int .i64 0, .int .i64 0] 63))
                                      have L11s40 : v31.heap.size < v39.heap.size := (B11s38.out.ch hv39 (fun h => h)).lt
                                      have B12s40 := Lib.hid ((B12s38.out.ch hv39 (fun h => h)).alloc (.cells #[.int .i64 0, .int .i64 0, .int .i64 0, .int .i64 0] 63))
                                      have L12s40 : v1.heap.size < v39.heap.size := (B12s38.out.ch hv39 (fun h => h)).lt
                                      have B10s40 : Hid (Blk (v39.alloc (.cells #[.int .i64 0, .int .i64 0, .int .i64 0, .int .i64 0] 63)) v39.heap.size 63 [.int .i64 0, .int .i64 0, .int .i64 0, .int .i64 0]) := Lib.hid (Blk.new v39 63 [.int .i64 0, .int .i64 0, .int .i64 0, .int .i64 0])
                                      have G10 : g0 ≤ v39.heap.size := Nat.le_trans Ts38.out.low (hv39.size)
                                      have D1011 : ¬ v31.heap.size = v39.heap.size := by omega
                                      have D1012 : ¬ v1.heap.size = v39.heap.size := by omega
                                      refine hK.out _ _ (fun _ => Ts40.out) ?_
                                      clear hK K
                                      try simp only [Act.put]
                                      refine wpP_1 (i := 13) rfl (by kernel_rfl) (fun v41 hv41 K hK => ?_)
                                      have C10s41 := Lib.hid (B10s40.out.ch hv41 (fun h => h))
                                      have C11s41 := Lib.hid (B11s40.out.ch hv41 (fun h => h))
                                      have C12s41 := Lib.hid (B12s40.out.ch hv41 (fun h => h))
                                      have Ts41 := Lib.hid (Ts40.out.no _ _ hv41)
                                      have z0 := C10s41.out.cell 0
                                      have z1 := C10s41.out.cell 1
                                      have z2 := C10s41.out.cell 2
                                      have z3 := C10s41.out.cell 3
                                      have f0 := C10s41.out.frozen 0
                                      have f1 := C10s41.out.frozen 1
                                      have f2 := C10s41.out.frozen 2
                                      have f3 := C10s41.out.frozen 3
                                      simp only [List.getElem?_cons_zero, List.getElem?_cons_succ] at z0 z1 z2 z3
                                      clear hv41
                                      go_simp
                                      have Us41 := Lib.hid (st4_same C10s41.out (.int .i64 x.c) (.int .i64 x.s) (.int .i64 x.l) (.int .i64 x.h))
                                      have U11s41 := Lib.hid (st4_other C11s41.out (fun e => D1011 (by first | exact e | exact e.symm)) (.int .i64 x.c) (.int .i64 x.s) (.int .i64 x.l) (.int .i64 x.h) (g := v39.heap.size))
                                      have U12s41 := Lib.hid (st4_other C12s41.out (fun e => D1012 (by first | exact e | exact e.symm)) (.int .i64 x.c) (.int .i64 x.s) (.int .i64 x.l) (.int .i64 x.h) (g := v39.heap.size))
                                      have Vs41 := Lib.hid (Ts41.out.st4 G10 (.int .i64 x.c) (.int .i64 x.s) (.int .i64 x.l) (.int .i64 x.h))
                                      refine hK.out _ _ (fun h => nomatch (show true = false from h)) ?_
                                      clear hK K z0 z1 z2 z3 f0 f1 f2 f3
                                      try simp only [Act.put]
                                      refine wpP_1 (i := 14) rfl (by kernel_rfl) (fun v42 hv42 K hK => ?_)
                                      have C10s42 := Lib.hid (Us41.out.ch hv42 (fun h => h))
                                      have C11s42 := Lib.hid (U11s41.out.ch hv42 (fun h => h))
                                      have C12s42 := Lib.hid (U12s41.out.ch hv42 (fun h => h))
                                      have Ts42 := Lib.hid (Vs41.out.no _ _ hv42)
                                      have z0 := C11s42.out.cell 0
                                      have z1 := C11s42.out.cell 1
                                      have z2 := C11s42.out.cell 2
                                      have z3 := C11s42.out.cell 3
                                      have f0 := C11s42.out.frozen 0
                                      have f1 := C11s42.out.frozen 1
                                      have f2 := C11s42.out.frozen 2
                                      have f3 := C11s42.out.frozen 3
                                      simp only [List.getElem?_cons_zero, List.getElem?_cons_succ] at z0 z1 z2 z3
                                      clear hv42
                                      go_simp
                                      have Us42 := Lib.hid (st4_same C11s42.out (.int .i64 y.c) (.int .i64 y.s) (.int .i64 y.l) (.int .i64 y.h))
                                      have U10s42 := Lib.hid (st4_other C10s42.out (fun e => D1011 (by first | exact e | exact e.symm)) (.int .i64 y.c) (.int .i64 y.s) (.int .i64 y.l) (.int .i64 y.h) (g := v31.heap.size))
                                      have U12s42 := Lib.hid (st4_other C12s42.out (fun e => D1112 (by first | exact e | exact e.symm)) (.int .i64 y.c) (.int .i64 y.s) (.int .i64 y.l) (.int .i64 y.h) (g := v31.heap.size))
                                      have Vs42 := Lib.hid (Ts42.out.st4 G11 (.int .i64 y.c) (.int .i64 y.s) (.int .i64 y.l) (.int .i64 y.h))
                                      refine hK.out _ _ (fun h => nomatch (show true = false from h)) ?_
                                      clear hK K z0 z1 z2 z3 f0 f1 f2 f3
                                      try simp only [Act.put]
                                      refine wpP_1 (i := 15) rfl (by kernel_rfl) (fun v43 hv43 K hK => ?_)
                                      have C10s43 := Lib.hid (U10s42.out.ch hv43 (fun h => h))
                                      have C11s43 := Lib.hid (Us42.out.ch hv43 (fun h => h))
                                      have C12s43 := Lib.hid (U12s42.out.ch hv43 (fun h => h))
                                      have Ts43 := Lib.hid (Vs42.out.no _ _ hv43)
                                      have z0 := C12s43.out.cell 0
                                      have z1 := C12s43.out.cell 1
                                      have z2 := C12s43.out.cell 2
                                      have z3 := C12s43.out.cell 3
                                      have f0 := C12s43.out.frozen 0
                                      have f1 := C12s43.out.frozen 1
                                      have f2 := C12s43.out.frozen 2
                                      have f3 := C12s43.out.frozen 3
                                      simp only [List.getElem?_cons_zero, List.getElem?_cons_succ] at z0 z1 z2 z3
                                      clear hv43
                                      go_simp
                                      have Us43 := Lib.hid (st4_same C12s43.out (.int .i64 z.c) (.int .i64 z.s) (.int .i64 z.l) (.int .i64 z.h))
                                      have U10s43 := Lib.hid (st4_other C10s43.out (fun e => D1012 (by first | exact e | exact e.symm)) (.int .i64 z.c) (.int .i64 z.s) (.int .i64 z.l) (.int .i64 z.h) (g := v1.heap.size))
                                      have U11s43 := Lib.hid (st4_other C11s43.out (fun e => D1112 (by first | exact e | exact e.symm)) (.int .i64 z.c) (.int .i64 z.s) (.int .i64 z.l) (.int .i64 z.h) (g := v1.heap.size))
                                      have Vs43 := Lib.hid (Ts43.out.st4 G12 (.int .i64 z.c) (.int .i64 z.s) (.int .i64 z.l) (.int .i64 z.h))
                                      refine hK.out _ _ (fun h => nomatch (show true = false from h)) ?_
                                      clear hK K z0 z1 z2 z3 f0 f1 f2 f3
                                      try simp only [Act.put]
                                      refine wpP_done (eq_of_beq (by kernel_rfl)) (fun wz hwz => ⟨by first | rfl | trivial, ?_⟩) _
                                      exact ⟨trivial, ((v39.heap.size, v31.heap.size, v1.heap.size, Value.slice (some ⟨ga, 0, none⟩) 0 0) : Nat × Nat × Nat × Value), by kernel_rfl, U10s43.out.ch hwz (fun h => h), U11s43.out.ch hwz (fun h => h), Us43.out.ch hwz (fun h => h), Vs43.out.no _ _ hwz⟩
            · have hcc' : ¬ ca = k := fun h => hcc h.symm
              have HO3 := Lib.hid (fun w (h : Cls w (some ⟨ga, 0, none⟩) (ints .i64 S)) => HOB.out w (some ⟨ga, k, none⟩) (ca - k) (by have := h.dropI k; rw [ints_drop]; simpa [addr_add] using this))
              refine region_pert (T := Pz W g0 ga gr S S.reverse) (s := 13) (by kernel_rfl) (fun hT => ?_) hT0.out
              refine wpP_take [1, 13] (i := 0) (v := .slice (some ⟨ga, 0, none⟩) p ca) rfl (by kernel_rfl) (by kernel_rfl) (by kernel_rfl) (fun w w' h hc => h.no w w' hc) (fun _ _ _ h => by cases h.1) _ _ _ _ (by kernel_rfl) (by kernel_rfl) (by kernel_rfl) (Or.inl ⟨by kernel_rfl, fun w' hw' => ?y0⟩) hT ?r0
              case y0 =>
                go_simp
                all_goals first | exact quiet_value | exact ⟨rfl, Ch.refl _ _⟩
              case r0 =>
                simp only [Act.put]
                refine wpP_take [13] (i := 1) (v := .agg #[.int .i64 x.c, .int .i64 x.s, .int .i64 x.l, .int .i64 x.h]) rfl (by kernel_rfl) (by kernel_rfl) (by kernel_rfl) (fun w w' h hc => h.no w w' hc) (fun _ _ _ h => by cases h.1) _ _ _ _ (by kernel_rfl) (by kernel_rfl) (by kernel_rfl) (Or.inl ⟨by kernel_rfl, fun w' hw' => ?y1⟩) hT ?r1
                case y1 =>
                  go_simp
                  exact quiet_enter (HO1.out _ hw'.a)
                case r1 =>
                  simp only [Act.put]
                  refine wpP_take [4, 5, 9, 13] (i := 2) (v := .slice (some ⟨ga, 0, none⟩) p ca) rfl (by kernel_rfl) (by kernel_rfl) (by kernel_rfl) (fun w w' h hc => h.no w w' hc) (fun _ _ _ h => by cases h.1) _ _ _ _ (by kernel_rfl) (by kernel_rfl) (by kernel_rfl) (Or.inl ⟨by kernel_rfl, fun w' hw' => ?y2⟩) hT ?r2
                  case y2 =>
                    go_simp
                    all_goals first | exact quiet_value | exact ⟨rfl, Ch.refl _ _⟩
                  case r2 =>
                    simp only [Act.put]
                    refine wpP_take [4, 5, 9, 13] (i := 3) (v := .int .i64 k) rfl (by kernel_rfl) (by kernel_rfl) (by kernel_rfl) (fun w w' h hc => h.no w w' hc) (fun _ _ _ h => by cases h.1) _ _ _ _ (by kernel_rfl) (by kernel_rfl) (by kernel_rfl) (Or.inl ⟨by kernel_rfl, fun w' hw' => ?y3⟩) hT ?r3
                    case y3 =>
                      go_simp
                      all_goals first | exact quiet_value | exact ⟨rfl, Ch.refl _ _⟩
                    case r3 =>
                      simp only [Act.put]
                      refine wpP_take [5, 9, 13] (i := 4) (v := .slice (some ⟨ga, 0, none⟩) k ca) rfl (by kernel_rfl) (by kernel_rfl) (by kernel_rfl) (fun w w' h hc => h.no w w' hc) (fun _ _ _ h => by cases h.1) _ _ _ _ (by kernel_rfl) (by kernel_rfl) (by kernel_rfl) (Or.inl ⟨by kernel_rfl, fun w' hw' => ?y4⟩) hT ?r4
                      case y4 =>
                        go_simp
                        all_goals first | exact quiet_value | exact ⟨rfl, Ch.refl _ _⟩
                      case r4 =>
                        simp only [Act.put]
                        refine wpP_take [9, 13] (i := 5) (v := .agg #[.int .i64 y.c, .int .i64 y.s, .int .i64 y.l, .int .i64 y.h]) rfl (by kernel_rfl) (by kernel_rfl) (by kernel_rfl) (fun w w' h hc => h.no w w' hc) (fun _ _ _ h => by cases h.1) _ _ _ _ (by kernel_rfl) (by kernel_rfl) (by kernel_rfl) (Or.inl ⟨by kernel_rfl, fun w' hw' => ?y5⟩) hT ?r5
                        case y5 =>
                          go_simp
                          exact quiet_enter (HO2.out _ hw'.a)
                        case r5 =>
                          simp only [Act.put]
                          refine wpP_take [8, 9, 13] (i := 6) (v := .slice (some ⟨ga, 0, none⟩) p ca) rfl (by kernel_rfl) (by kernel_rfl) (by kernel_rfl) (fun w w' h hc => h.no w w' hc) (fun _ _ _ h => by cases h.1) _ _ _ _ (by kernel_rfl) (by kernel_rfl) (by kernel_rfl) (Or.inl ⟨by kernel_rfl, fun w' hw' => ?y6⟩) hT ?r6
                          case y6 =>
                            go_simp
                            all_goals first | exact quiet_value | exact ⟨rfl, Ch.refl _ _⟩
                          case r6 =>
                            simp only [Act.put]
                            refine wpP_take [8, 9, 13] (i := 7) (v := .int .i64 k) rfl (by kernel_rfl) (by kernel_rfl) (by kernel_rfl) (fun w w' h hc => h.no w w' hc) (fun _ _ _ h => by cases h.1) _ _ _ _ (by kernel_rfl) (by kernel_rfl) (by kernel_rfl) (Or.inl ⟨by kernel_rfl, fun w' hw' => ?y7⟩) hT ?r7
                            case y7 =>
                              go_simp
                              all_goals first | exact quiet_value | exact ⟨rfl, Ch.refl _ _⟩
                            case r7 =>
                              simp only [Act.put]
                              refine wpP_take [9, 13] (i := 8) (v := Value.slice (some ⟨ga, k, none⟩) (p - k) (ca - k)) rfl (by kernel_rfl) (by kernel_rfl) (by kernel_rfl) (fun w w' h hc => h.no w w' hc) (fun _ _ _ h => by cases h.1) _ _ _ _ (by kernel_rfl) (by kernel_rfl) (by kernel_rfl) (Or.inl ⟨by kernel_rfl, fun w' hw' => ?y8⟩) hT ?r8
                              case y8 =>
                                go_simp
                                all_goals first | exact quiet_value | exact ⟨rfl, Ch.refl _ _⟩
                              case r8 =>
                                simp only [Act.put]
                                refine wpP_take [13] (i := 9) (v := .agg #[.int .i64 z.c, .int .i64 z.s, .int .i64 z.l, .int .i64 z.h]) rfl (by kernel_rfl) (by kernel_rfl) (by kernel_rfl) (fun w w' h hc => h.no w w' hc) (fun _ _ _ h => by cases h.1) _ _ _ _ (by kernel_rfl) (by kernel_rfl) (by kernel_rfl) (Or.inl ⟨by kernel_rfl, fun w' hw' => ?y9⟩) hT ?r9
                                case y9 =>
                                  go_simp
                                  exact quiet_enter (HO3.out _ hw'.a)
                                case r9 =>
                                  simp only [Act.put]
                                  have HT := Lib.hid hT
                                  clear hT
                                  refine wpP_one (rs := [10, 11, 12]) (eq_of_beq (by kernel_rfl)) (by simp) ?_
                                  intro v1 hv1 i hi
                                  rcases (by simpa using hi : i = 10 ∨ i = 11 ∨ i = 12) with rfl | rfl | rfl
                                  · refine wpP_step rfl (fun K hK => ?_)
                                    go_simp
                                    have Ts2 := Lib.hid (HT.out.no _ _ (hv1.alloc (.cells #[.int .i64 0, .int .i64 0, .int .i64 0, .int .i64 0] 63)))
                                    have B10s2 : Hid (Blk (v1.alloc (.cells #[.int .i64 0, .int .i64 0, .int .i64 0, .int .i64 0] 63)) v1.heap.size 63 [.int .i64 0, .int .i64 0, .int .i64 0, .int .i64 0]) := Lib.hid (Blk.new v1 63 [.int .i64 0, .int .i64 0, .int .i64 0, .int .i64 0])
                                    have G10 : g0 ≤ v1.heap.size := Nat.le_trans HT.out.low (hv1.size)
                                    refine hK.out _ _ (fun _ => Ts2.out) ?_
                                    clear hK K
                                    try simp only [Act.put]
                                    refine wpP_one (rs := [11, 12]) (eq_of_beq (by kernel_rfl)) (by simp) ?_
                                    intro v3 hv3 i hi
                                    rcases (by simpa using hi : i = 11 ∨ i = 12) with rfl | rfl
                                    · refine wpP_step rfl (fun K hK => ?_)
                                      go_simp
                                      have Ts4 := Lib.hid (Ts2.out.no _ _ (hv3.alloc (.cells #[.int .i64 0, .int .i64 0, .int .i64 0, .int .i64 0] 63)))
                                      have B10s4 := Lib.hid ((B10s2.out.ch hv3 (fun h => h)).alloc (.cells #[.int .i64 0, .int .i64 0, .int .i64 0, .int .i64 0] 63))
                                      have L10s4 : v1.heap.size < v3.heap.size := (B10s2.out.ch hv3 (fun h => h)).lt
                                      have B11s4 : Hid (Blk (v3.alloc (.cells #[.int .i64 0, .int .i64 0, .int .i64 0, .int .i64 0] 63)) v3.heap.size 63 [.int .i64 0, .int .i64 0, .int .i64 0, .int .i64 0]) := Lib.hid (Blk.new v3 63 [.int .i64 0, .int .i64 0, .int .i64 0, .int .i64 0])
                                      have G11 : g0 ≤ v3.heap.size := Nat.le_trans Ts2.out.low (hv3.size)
                                      have D1011 : ¬ v1.heap.size = v3.heap.size := by omega
                                      refine hK.out _ _ (fun _ => Ts4.out) ?_
                                      clear hK K
                                      try simp only [Act.put]
                                      refine wpP_1 (i := 12) rfl (by kernel_rfl) (fun v5 hv5 K hK => ?_)
                                      go_simp
                                      have Ts6 := Lib.hid (Ts4.out.no _ _ (hv5.alloc (.cells #[.int .i64 0, .int .i64 0, .int .i64 0, .int .i64 0] 63)))
                                      have B10s6 := Lib.hid ((B10s4.out.ch hv5 (fun h => h)).alloc (.cells #[.int .i64 0, .int .i64 0, .int .i64 0, .int .i64 0] 63))
                                      have L10s6 : v1.heap.size < v5.heap.size := (B10s4.out.ch hv5 (fun h => h)).lt
                                      have B11s6 := Lib.hid ((B11s4.out.ch hv5 (fun h => h)).alloc (.cells #[.int .i64 0, .int .i64 0, .int .i64 0, .int .i64 0] 63))
                                      have L11s6 : v3.heap.size < v5.heap.size := (B11s4.out.ch hv5 (fun h => h)).lt
                                      have B12s6 : Hid (Blk (v5.alloc (.cells #[.int .i64 0, .int .i64 0, .int .i64 0, .int .i64 0] 63)) v5.heap.size 63 [.int .i64 0, .int .i64 0, .int .i64 0, .int .i64 0]) := Lib.hid (Blk.new v5 63 [.int .i64 0, .int .i64 0, .int .i64 0, .int .i64 0])
                                      have G12 : g0 ≤ v5.heap.size := Nat.le_trans Ts4.out.low (hv5.size)
                                      have D1012 : ¬ v1.heap.size = v5.heap.size := by omega
                                      have D1112 : ¬ v3.heap.size = v5.heap.size := by omega
                                      refine hK.out _ _ (fun _ => Ts6.out) ?_
                                      clear hK K
                                      try simp only [Act.put]
                                      refine wpP_1 (i := 13) rfl (by kernel_rfl) (fun v7 hv7 K hK => ?_)
                                      have C10s7 := Lib.hid (B10s6.out.ch hv7 (fun h => h))
                                      have C11s7 := Lib.hid (B11s6.out.ch hv7 (fun h => h))
                                      have C12s7 := Lib.hid (B12s6.out.ch hv7 (fun h => h))
                                      have Ts7 := Lib.hid (Ts6.out.no _ _ hv7)
                                      have z0 := C10s7.out.cell 0
                                      have z1 := C10s7.out.cell 1
                                      have z2 := C10s7.out.cell 2
                                      have z3 := C10s7.out.cell 3
                                      have f0 := C10s7.out.frozen 0
                                      have f1 := C10s7.out.frozen 1
                                      have f2 := C10s7.out.frozen 2
                                      have f3 := C10s7.out.frozen 3
                                      simp only [List.getElem?_cons_zero, List.getElem?_cons_succ] at z0 z1 z2 z3
                                      clear hv7
                                      go_simp
                                      have Us7 := Lib.hid (st4_same C10s7.out (.int .i64 x.c) (.int .i64 x.s) (.int .i64 x.l) (.int .i64 x.h))
                                      have U11s7 := Lib.hid (st4_other C11s7.out (fun e => D1011 (by first | exact e | exact e.symm)) (.int .i64 x.c) (.int .i64 x.s) (.int .i64 x.l) (.int .i64 x.h) (g := v1.heap.size))
                                      have U12s7 := Lib.hid (st4_other C12s7.out (fun e => D1012 (by first | exact e | exact e.symm)) (.int .i64 x.c) (.int .i64 x.s) (.int .i64 x.l) (.int .i64 x.h) (g := v1.heap.size))
                                      have Vs7 := Lib.hid (Ts7.out.st4 G10 (.int .i64 x.c) (.int .i64 x.s) (.int .i64 x.l) (.int .i64 x.h))
                                      refine hK.out _ _ (fun h => nomatch (show true = false from h)) ?_
                                      clear hK K z0 z1 z2 z3 f0 f1 f2 f3
                                      try simp only [Act.put]
                                      refine wpP_1 (i := 14) rfl (by kernel_rfl) (fun v8 hv8 K hK => ?_)
                                      have C10s8 := Lib.hid (Us7.out.ch hv8 (fun h => h))
                                      have C11s8 := Lib.hid (U11s7.out.ch hv8 (fun h => h))
                                      have C12s8 := Lib.hid (U12s7.out.ch hv8 (fun h => h))
                                      have Ts8 := Lib.hid (Vs7.out.no _ _ hv8)
                                      have z0 := C11s8.out.cell 0
                                      have z1 := C11s8.out.cell 1
                                      have z2 := C11s8.out.cell 2
                                      have z3 := C11s8.out.cell 3
                                      have f0 := C11s8.out.frozen 0
                                      have f1 := C11s8.out.frozen 1
                                      have f2 := C11s8.out.frozen 2
                                      have f3 := C11s8.out.frozen 3
                                      simp only [List.getElem?_cons_zero, List.getElem?_cons_succ] at z0 z1 z2 z3
                                      clear hv8
                                      go_simp
                                      have Us8 := Lib.hid (st4_same C11s8.out (.int .i64 y.c) (.int .i64 y.s) (.int .i64 y.l) (.int .i64 y.h))
                                      have U10s8 := Lib.hid (st4_other C10s8.out (fun e => D1011 (by first | exact e | exact e.symm)) (.int .i64 y.c) (.int .i64 y.s) (.int .i64 y.l) (.int .i64 y.h) (g := v3.heap.size))
                                      have U12s8 := Lib.hid (st4_other C12s8.out (fun e => D1112 (by first | exact e | exact e.symm)) (.int .i64 y.c) (.int .i64 y.s) (.int .i64 y.l) (.int .i64 y.h) (g := v3.heap.size))
                                      have Vs8 := Lib.hid (Ts8.out.st4 G11 (.int .i64 y.c) (.int .i64 y.s) (.int .i64 y.l) (.int .i64 y.h))
                                      refine hK.out _ _ (fun h => nomatch (show true = false from h)) ?_
                                      clear hK K z0 z1 z2 z3 f0 f1 f2 f3
                                      try simp only [Act.put]
                                      refine wpP_1 (i := 15) rfl (by kernel_rfl) (fun v9 hv9 K hK => ?_)
                                      have C10s9 := Lib.hid (U10s8.out.ch hv9 (fun h => h))
                                      have C11s9 := Lib.hid (Us8.out.ch hv9 (fun h => h))
                                      have C12s9 := Lib.hid (U12s8.out.ch hv9 (fun h => h))
                                      have Ts9 := Lib.hid (Vs8.out.no _ _ hv9)
                                      have z0 := C12s9.out.cell 0
                                      have z1 := C12s9.out.cell 1
                                      have z2 := C12s9.out.cell 2
                                      have z3 := C12s9.out.cell 3
                                      have f0 := C12s9.out.frozen 0
                                      have f1 := C12s9.out.frozen 1
                                      have f2 := C12s9.out.frozen 2
                                      have f3 := C12s9.out.frozen 3
                                      simp only [List.getElem?_cons_zero, List.getElem?_cons_succ] at z0 z1 z2 z3
                                      clear hv9
                                      go_simp
                                      have Us9 := Lib.hid (st4_same C12s9.out (.int .i64 z.c) (.int .i64 z.s) (.int .i64 z.l) (.int .i64 z.h))
                                      have U10s9 := Lib.hid (st4_other C10s9.out (fun e => D1012 (by first | exact e | exact e.symm)) (.int .i64 z.c) (.int .i64 z.s) (.int .i64 z.l) (.int .i64 z.h) (g := v5.heap.size))
                                      have U11s9 := Lib.hid (st4_other C11s9.out (fun e => D1112 (by first | exact e | exact e.symm)) (.int .i64 z.c) (.int .i64 z.s) (.int .i64 z.l) (.int .i64 z.h) (g := v5.heap.size))
                                      have Vs9 := Lib.hid (Ts9.out.st4 G12 (.int .i64 z.c) (.int .i64 z.s) (.int .i64 z.l) (.int .i64 z.h))
                                      refine hK.out _ _ (fun h => nomatch (show true = false from h)) ?_
                                      clear hK K z0 z1 z2 z3 f0 f1 f2 f3
                                      try simp only [Act.put]
                                      refine wpP_done (eq_of_beq (by kernel_rfl)) (fun wz hwz => ⟨by first | rfl | trivial, ?_⟩) _
                                      exact ⟨trivial, ((v1.heap.size, v3.heap.size, v5.heap.size, Value.slice (some ⟨ga, k, none⟩) (p - k) (ca - k)) : Nat × Nat × Nat × Value), by kernel_rfl, U10s9.out.ch hwz (fun h => h), U11s9.out.ch hwz (fun h => h), Us9.out.ch hwz (fun h => h), Vs9.out.no _ _ hwz⟩
                                    · refine wpP_step rfl (fun K hK => ?_)
                                      go_simp
                                      have Ts10 := Lib.hid (Ts2.out.no _ _ (hv3.alloc (.cells #[.int .i64 0, .int .i64 0, .int .i64 0, .int .i64 0] 63)))
                                      have B10s10 := Lib.hid ((B10s2.out.ch hv3 (fun h => h)).alloc (.cells #[.int .i64 0, .int .i64 0, .int .i64 0, .int .i64 0] 63))
                                      have L10s10 : v1.heap.size < v3.heap.size := (B10s2.out.ch hv3 (fun h => h)).lt
                                      have B12s10 : Hid (Blk (v3.alloc (.cells #[.int .i64 0, .int .i64 0, .int .i64 0, .int .i64 0] 63)) v3.heap.size 63 [.int .i64 0, .int .i64 0, .int .i64 0, .int .i64 0]) := Lib.hid (Blk.new v3 63 [.int .i64 0, .int .i64 0, .int .i64 0, .int .i64 0])
                                      have G12 : g0 ≤ v3.heap.size := Nat.le_trans Ts2.out.low (hv3.size)
                                      have D1012 : ¬ v1.heap.size = v3.heap.size := by omega
                                      refine hK.out _ _ (fun _ => Ts10.out) ?_
                                      clear hK K
                                      try simp only [Act.put]
                                      refine wpP_1 (i := 11) rfl (by kernel_rfl) (fun v11 hv11 K hK => ?_)
                                      go_simp
                                      have Ts12 := Lib.hid (Ts10.out.no _ _ (hv11.alloc (.cells #[.int .i64 0, .int .i64 0, .int .i64 0, .int .i64 0] 63)))
                                      have B10s12 := Lib.hid ((B10s10.out.ch hv11 (fun h => h)).alloc (.cells #[.int .i64 0, .int .i64 0, .int .i64 0, .int .i64 0] 63))
                                      have L10s12 : v1.heap.size < v11.heap.size := (B10s10.out.ch hv11 (fun h => h)).lt
                                      have B12s12 := Lib.hid ((B12s10.out.ch hv11 (fun h => h)).alloc (.cells #[.int .i64 0, .int .i64 0, .int .i64 0, .int .i64 0] 63))
                                      have L12s12 : v3.heap.size < v11.heap.size := (B12s10.out.ch hv11 (fun h => h)).lt
                                      have B11s12 : Hid (Blk (v11.alloc (.cells #[.int .i64 0, .int .i64 0, .int .i64 0, .int .i64 0] 63)) v11.heap.size 63 [.int .i64 0, .int .i64 0, .int .i64 0, .int .i64 0]) := Lib.hid (Blk.new v11 63 [.int .i64 0, .int .i64 0, .int .i64 0, .int .i64 0])
                                      have G11 : g0 ≤ v11.heap.size := Nat.le_trans Ts10.out.low (hv11.size)
                                      have D1011 : ¬ v1.heap.size = v11.heap.size := by omega
                                      have D1112 : ¬ v3.heap.size = v11.heap.size := by omega
                                      refine hK.out _ _ (fun _ => Ts12.out) ?_
                                      clear hK K
                                      try simp only [Act.put]
                                      refine wpP_1 (i := 13) rfl (by kernel_rfl) (fun v13 hv13 K hK => ?_)
                                      have C10s13 := Lib.hid (B10s12.out.ch hv13 (fun h => h))
                                      have C11s13 := Lib.hid (B11s12.out.ch hv13 (fun h => h))
                                      have C12s13 := Lib.hid (B12s12.out.ch hv13 (fun h => h))
                                      have Ts13 := Lib.hid (Ts12.out.no _ _ hv13)
                                      have z0 := C10s13.out.cell 0
                                      have z1 := C10s13.out.cell 1
                                      have z2 := C10s13.out.cell 2
                                      have z3 := C10s13.out.cell 3
                                      have f0 := C10s13.out.frozen 0
                                      have f1 := C10s13.out.frozen 1
                                      have f2 := C10s13.out.frozen 2
                                      have f3 := C10s13.out.frozen 3
                                      simp only [List.getElem?_cons_zero, List.getElem?_cons_succ] at z0 z1 z2 z3
                                      clear hv13
                                      go_simp
                                      have Us13 := Lib.hid (st4_same C10s13.out (.int .i64 x.c) (.int .i64 x.s) (.int .i64 x.l) (.int .i64 x.h))
                                      have U11s13 := Lib.hid (st4_other C11s13.out (fun e => D1011 (by first | exact e | exact e.symm)) (.int .i64 x.c) (.int .i64 x.s) (.int .i64 x.l) (.int .i64 x.h) (g := v1.heap.size))
                                      have U12s13 := Lib.hid (st4_other C12s13.out (fun e => D1012 (by first | exact e | exact e.symm)) (.int .i64 x.c) (.int .i64 x.s) (.int .i64 x.l) (.int .i64 x.h) (g := v1.heap.size))
                                      have Vs13 := Lib.hid (Ts13.out.st4 G10 (.int .i64 x.c) (.int .i64 x.s) (.int .i64 x.l) (.int .i64 x.h))
                                      refine hK.out _ _ (fun h => nomatch (show true = false from h)) ?_
                                      clear hK K z0 z1 z2 z3 f0 f1 f2 f3
                                      try simp only [Act.put]
                                      refine wpP_1 (i := 14) rfl (by kernel_rfl) (fun v14 hv14 K hK => ?_)
                                      have C10s14 := Lib.hid (Us13.out.ch hv14 (fun h => h))
                                      have C11s14 := Lib.hid (U11s13.out.ch hv14 (fun h => h))
                                      have C12s14 := Lib.hid (U12s13.out.ch hv14 (fun h => h))
                                      have Ts14 := Lib.hid (Vs13.out.no _ _ hv14)
                                      have z0 := C11s14.out.cell 0
                                      have z1 := C11s14.out.cell 1
                                      have z2 := C11s14.out.cell 2
                                      have z3 := C11s14.out.cell 3
                                      have f0 := C11s14.out.frozen 0
                                      have f1 := C11s14.out.frozen 1
                                      have f2 := C11s14.out.frozen 2
                                      have f3 := C11s14.out.frozen 3
                                      simp only [List.getElem?_cons_zero, List.getElem?_cons_succ] at z0 z1 z2 z3
                                      clear hv14
                                      go_simp
                                      have Us14 := Lib.hid (st4_same C11s14.out (.int .i64 y.c) (.int .i64 y.s) (.int .i64 y.l) (.int .i64 y.h))
                                      have U10s14 := Lib.hid (st4_other C10s14.out (fun e => D1011 (by first | exact e | exact e.symm)) (.int .i64 y.c) (.int .i64 y.s) (.int .i64 y.l) (.int .i64 y.h) (g := v11.heap.size))
                                      have U12s14 := Lib.hid (st4_other C12s14.out (fun e => D1112 (by first | exact e | exact e.symm)) (.int .i64 y.c) (.int .i64 y.s) (.int .i64 y.l) (.int .i64 y.h) (g := v11.heap.size))
                                      have Vs14 := Lib.hid (Ts14.out.st4 G11 (.int .i64 y.c) (.int .i64 y.s) (.int .i64 y.l) (.int .i64 y.h))
                                      refine hK.out _ _ (fun h => nomatch (show true = false from h)) ?_
                                      clear hK K z0 z1 z2 z3 f0 f1 f2 f3
                                      try simp only [Act.put]
                                      refine wpP_1 (i := 15) rfl (by kernel_rfl) (fun v15 hv15 K hK => ?_)
                                      have C10s15 := Lib.hid (U10s14.out.ch hv15 (fun h => h))
                                      have C11s15 := Lib.hid (Us14.out.ch hv15 (fun h => h))
                                      have C12s15 := Lib.hid (U12s14.out.ch hv15 (fun h => h))
                                      have Ts15 := Lib.hid (Vs14.out.no _ _ hv15)
                                      have z0 := C12s15.out.cell 0
                                      have z1 := C12s15.out.cell 1
                                      have z2 := C12s15.out.cell 2
                                      have z3 := C12s15.out.cell 3
                                      have f0 := C12s15.out.frozen 0
                                      have f1 := C12s15.out.frozen 1
                                      have f2 := C12s15.out.frozen 2
                                      have f3 := C12s15.out.frozen 3
                                      simp only [List.getElem?_cons_zero, List.getElem?_cons_succ] at z0 z1 z2 z3
                                      clear hv15
                                      go_simp
                                      have Us15 := Lib.hid (st4_same C12s15.out (.int .i64 z.c) (.int .i64 z.s) (.int .i64 z.l) (.int .i64 z.h))
                                      have U10s15 := Lib.hid (st4_other C10s15.out (fun e => D1012 (by first | exact e | exact e.symm)) (.int .i64 z.c) (.int .i64 z.s) (.int .i64 z.l) (.int .i64 z.h) (g := v3.heap.size))
                                      have U11s15 := Lib.hid (st4_other C11s15.out (fun e => D1112 (by first | exact e | exact e.symm)) (.int .i64 z.c) (.int .i64 z.s) (.int .i64 z.l) (.int .i64 z.h) (g := v3.heap.size))
                                      have Vs15 := Lib.hid (Ts15.out.st4 G12 (.int .i64 z.c) (.int .i64 z.s) (.int .i64 z.l) (.int .i64 z.h))
                                      refine hK.out _ _ (fun h => nomatch (show true = false from h)) ?_
                                      clear hK K z0 z1 z2 z3 f0 f1 f2 f3
                                      try simp only [Act.put]
                                      refine wpP_done (eq_of_beq (by kernel_rfl)) (fun wz hwz => ⟨by first | rfl | trivial, ?_⟩) _
                                      exact ⟨trivial, ((v1.heap.size, v11.heap.size, v3.heap.size, Value.slice (some ⟨ga, k, none⟩) (p - k) (ca - k)) : Nat × Nat × Nat × Value), by kernel_rfl, U10s15.out.ch hwz (fun h => h), U11s15.out.ch hwz (fun h => h), Us15.out.ch hwz (fun h => h), Vs15.out.no _ _ hwz⟩
                                  · refine wpP_step rfl (fun K hK => ?_)
                                    go_simp
                                    have Ts16 := Lib.hid (HT.out.no _ _ (hv1.alloc (.cells #[.int .i64 0, .int .i64 0, .int .i64 0, .int .i64 0] 63)))
                                    have B11s16 : Hid (Blk (v1.alloc (.cells #[.int .i64 0, .int .i64 0, .int .i64 0, .int .i64 0] 63)) v1.heap.size 63 [.int .i64 0, .int .i64 0, .int .i64 0, .int .i64 0]) := Lib.hid (Blk.new v1 63 [.int .i64 0, .int .i64 0, .int .i64 0, .int .i64 0])
                                    have G11 : g0 ≤ v1.heap.size := Nat.le_trans HT.out.low (hv1.size)
                                    refine hK.out _ _ (fun _ => Ts16.out) ?_
                                    clear hK K
                                    try simp only [Act.put]
                                    refine wpP_one (rs := [10, 12]) (eq_of_beq (by kernel_rfl)) (by simp) ?_
                                    intro v17 hv17 i hi
                                    rcases (by simpa using hi : i = 10 ∨ i = 12) with rfl | rfl
                                    · refine wpP_step rfl (fun K hK => ?_)
                                      go_simp
                                      have Ts18 := Lib.hid (Ts16.out.no _ _ (hv17.alloc (.cells #[.int .i64 0, .int .i64 0, .int .i64 0, .int .i64 0] 63)))
                                      have B11s18 := Lib.hid ((B11s16.out.ch hv17 (fun h => h)).alloc (.cells #[.int .i64 0, .int .i64 0, .int .i64 0, .int .i64 0] 63))
                                      have L11s18 : v1.heap.size < v17.heap.size := (B11s16.out.ch hv17 (fun h => h)).lt
                                      have B10s18 : Hid (Blk (v17.alloc (.cells #[.int .i64 0, .int .i64 0, .int .i64 0, .int .i64 0] 63)) v17.heap.size 63 [.int .i64 0, .int .i64 0, .int .i64 0, .int .i64 0]) := Lib.hid (Blk.new v17 63 [.int .i64 0, .int .i64 0, .int .i64 0, .int .i64 0])
                                      have G10 : g0 ≤ v17.heap.size := Nat.le_trans Ts16.out.low (hv17.size)
                                      have D1011 : ¬ v1.heap.size = v17.heap.size := by omega
                                      refine hK.out _ _ (fun _ => Ts18.out) ?_
                                      clear hK K
                                      try simp only [Act.put]
                                      refine wpP_1 (i := 12) rfl (by kernel_rfl) (fun v19 hv19 K hK => ?_)
                                      go_simp
                                      have Ts20 := Lib.hid (Ts18.out.no _ _ (hv19.alloc (.cells #[.int .i64 0, .int .i64 0, .int .i64 0, .int .i64 0] 63)))
                                      have B10s20 := Lib.hid ((B10s18.out.ch hv19 (fun h => h)).alloc (.cells #[.int .i64 0, .int .i64 0, .int .i64 0, .int .i64 0] 63))
                                      have L10s20 : v17.heap.size < v19.heap.size := (B10s18.out.ch hv19 (fun h => h)).lt
                                      have B11s20 := Lib.hid ((B11s18.out.ch hv19 (fun h => h)).alloc (.cells #[.int .i64 0, .int .i64 0, .int .i64 0, .int .i64 0] 63))
                                      have L11s20 : v1.heap.size < v19.heap.size := (B11s18.out.ch hv19 (fun h => h)).lt
                                      have B12s20 : Hid (Blk (v19.alloc (.cells #[.int .i64 0, .int .i64 0, .int .i64 0, .int .i64 0] 63)) v19.heap.size 63 [.int .i64 0, .int .i64 0, .int .i64 0, .int .i64 0]) := Lib.hid (Blk.new v19 63 [.int .i64 0, .int .i64 0, .int .i64 0, .int .i64 0])
                                      have G12 : g0 ≤ v19.heap.size := Nat.le_trans Ts18.out.low (hv19.size)
                                      have D1012 : ¬ v17.heap.size = v19.heap.size := by omega
                                      have D1112 : ¬ v1.heap.size = v19.heap.size := by omega
                                      refine hK.out _ _ (fun _ => Ts20.out) ?_
                                      clear hK K
                                      try simp only [Act.put]
                                      refine wpP_1 (i := 13) rfl (by kernel_rfl) (fun v21 hv21 K hK => ?_)
                                      have C10s21 := Lib.hid (B10s20.out.ch hv21 (fun h => h))
                                      have C11s21 := Lib.hid (B11s20.out.ch hv21 (fun h => h))
                                      have C12s21 := Lib.hid (B12s20.out.ch hv21 (fun h => h))
                                      have Ts21 := Lib.hid (Ts20.out.no _ _ hv21)
                                      have z0 := C10s21.out.cell 0
                                      have z1 := C10s21.out.cell 1
                                      have z2 := C10s21.out.cell 2
                                      have z3 := C10s21.out.cell 3
                                      have f0 := C10s21.out.frozen 0
                                      have f1 := C10s21.out.frozen 1
                                      have f2 := C10s21.out.frozen 2
                                      have f3 := C10s21.out.frozen 3
                                      simp only [List.getElem?_cons_zero, List.getElem?_cons_succ] at z0 z1 z2 z3
                                      clear hv21
                                      go_simp
                                      have Us21 := Lib.hid (st4_same C10s21.out (.int .i64 x.c) (.int .i64 x.s) (.int .i64 x.l) (.int .i64 x.h))
                                      have U11s21 := Lib.hid (st4_other C11s21.out (fun e => D1011 (by first | exact e | exact e.symm)) (.int .i64 x.c) (.int .i64 x.s) (.int .i64 x.l) (.int .i64 x.h) (g := v17.heap.size))
                                      have U12s21 := Lib.hid (st4_other C12s21.out (fun e => D1012 (by first | exact e | exact e.symm)) (.int .i64 x.c) (.int .i64 x.s) (.int .i64 x.l) (.int .i64 x.h) (g := v17.heap.size))
                                      have Vs21 := Lib.hid (Ts21.out.st4 G10 (.int .i64 x.c) (.int .i64 x.s) (.int .i64 x.l) (.int .i64 x.h))
                                      refine hK.out _ _ (fun h => nomatch (show true = false from h)) ?_
                                      clear hK K z0 z1 z2 z3 f0 f1 f2 f3
                                      try simp only [Act.put]
                                      refine wpP_1 (i := 14) rfl (by kernel_rfl) (fun v22 hv22 K hK => ?_)
                                      have C10s22 := Lib.hid (Us21.out.ch hv22 (fun h => h))
                                      have C11s22 := Lib.hid (U11s21.out.ch hv22 (fun h => h))
                                      have C12s22 := Lib.hid (U12s21.out.ch hv22 (fun h => h))
                                      have Ts22 := Lib.hid (Vs21.out.no _ _ hv22)
                                      have z0 := C11s22.out.cell 0
                                      have z1 := C11s22.out.cell 1
                                      have z2 := C11s22.out.cell 2
                                      have z3 := C11s22.out.cell 3
                                      have f0 := C11s22.out.frozen 0
                                      have f1 := C11s22.out.frozen 1
                                      have f2 := C11s22.out.frozen 2
                                      have f3 := C11s22.out.frozen 3
                                      simp only [List.getElem?_cons_zero, List.getElem?_cons_succ] at z0 z1 z2 z3
                                      clear hv22
                                      go_simp
                                      have Us22 := Lib.hid (st4_same C11s22.out (.int .i64 y.c) (.int .i64 y.s) (.int .i64 y.l) (.int .i64 y.h))
                                      have U10s22 := Lib.hid (st4_other C10s22.out (fun e => D1011 (by first | exact e | exact e.symm)) (.int .i64 y.c) (.int .i64 y.s) (.int .i64 y.l) (.int .i64 y.h) (g := v1.heap.size))
                                      have U12s22 := Lib.hid (st4_other C12s22.out (fun e => D1112 (by first | exact e | exact e.symm)) (.int .i64 y.c) (.int .i64 y.s) (.int .i64 y.l) (.int .i64 y.h) (g := v1.heap.size))
                                      have Vs22 := Lib.hid (Ts22.out.st4 G11 (.int .i64 y.c) (.int .i64 y.s) (.int .i64 y.l) (.int .i64 y.h))
                                      refine hK.out _ _ (fun h => nomatch (show true = false from h)) ?_
                                      clear hK K z0 z1 z2 z3 f0 f1 f2 f3
                                      try simp only [Act.put]
                                      refine wpP_1 (i := 15) rfl (by kernel_rfl) (fun v23 hv23 K hK => ?_)
                                      have C10s23 := Lib.hid (U10s22.out.ch hv23 (fun h => h))
                                      have C11s23 := Lib.hid (Us22.out.ch hv23 (fun h => h))
                                      have C12s23 := Lib.hid (U12s22.out.ch hv23 (fun h => h))
                                      have Ts23 := Lib.hid (Vs22.out.no _ _ hv23)
                                      have z0 := C12s23.out.cell 0
                                      have z1 := C12s23.out.cell 1
                                      have z2 := C12s23.out.cell 2
                                      have z3 := C12s23.out.cell 3
                                      have f0 := C12s23.out.frozen 0
                                      have f1 := C12s23.out.frozen 1
                                      have f2 := C12s23.out.frozen 2
                                      have f3 := C12s23.out.frozen 3
                                      simp only [List.getElem?_cons_zero, List.getElem?_cons_succ] at z0 z1 z2 z3
                                      clear hv23
                                      go_simp
                                      have Us23 := Lib.hid (st4_same C12s23.out (.int .i64 z.c) (.int .i64 z.s) (.int .i64 z.l) (.int .i64 z.h))
                                      have U10s23 := Lib.hid (st4_other C10s23.out (fun e => D1012 (by first | exact e | exact e.symm)) (.int .i64 z.c) (.int .i64 z.s) (.int .i64 z.l) (.int .i64 z.h) (g := v19.heap.size))
                                      have U11s23 := Lib.hid (st4_other C11s23.out (fun e => D1112 (by first | exact e | exact e.symm)) (.int .i64 z.c) (.int .i64 z.s) (.int .i64 z.l) (.int .i64 z.h) (g := v19.heap.size))
                                      have Vs23 := Lib.hid (Ts23.out.st4 G12 (.int .i64 z.c) (.int .i64 z.s) (.int .i64 z.l) (.int .i64 z.h))
                                      refine hK.out _ _ (fun h => nomatch (show true = false from h)) ?_
                                      clear hK K z0 z1 z2 z3 f0 f1 f2 f3
                                      try simp only [Act.put]
                                      refine wpP_done (eq_of_beq (by kernel_rfl)) (fun wz hwz => ⟨by first | rfl | trivial, ?_⟩) _
                                      exact ⟨trivial, ((v17.heap.size, v1.heap.size, v19.heap.size, Value.slice (some ⟨ga, k, none⟩) (p - k) (ca - k)) : Nat × Nat × Nat × Value), by kernel_rfl, U10s23.out.ch hwz (fun h => h), U11s23.out.ch hwz (fun h => h), Us23.out.ch hwz (fun h => h), Vs23.out.no _ _ hwz⟩
                                    · refine wpP_step rfl (fun K hK => ?_)
                                      go_simp
                                      have Ts24 := Lib.hid (Ts16.out.no _ _ (hv17.alloc (.cells #[.int .i64 0, .int .i64 0, .int .i64 0, .int .i64 0] 63)))
                                      have B11s24 := Lib.hid ((B11s16.out.ch hv17 (fun h => h)).alloc (.cells #[.int .i64 0, .int .i64 0, .int .i64 0, .int .i64 0] 63))
                                      have L11s24 : v1.heap.size < v17.heap.size := (B11s16.out.ch hv17 (fun h => h)).lt
                                      have B12s24 : Hid (Blk (v17.alloc (.cells #[.int .i64 0, .int .i64 0, .int .i64 0, .int .i64 0] 63)) v17.heap.size 63 [.int .i64 0, .int .i64 0, .int .i64 0, .int .i64 0]) := Lib.hid (Blk.new v17 63 [.int .i64 0, .int .i64 0, .int .i64 0, .int .i64 0])
                                      have G12 : g0 ≤ v17.heap.size := Nat.le_trans Ts16.out.low (hv17.size)
                                      have D1112 : ¬ v1.heap.size = v17.heap.size := by omega
                                      refine hK.out _ _ (fun _ => Ts24.out) ?_
                                      clear hK K
                                      try simp only [Act.put]
                                      refine wpP_1 (i := 10) rfl (by kernel_rfl) (fun v25 hv25 K hK => ?_)
                                      go_simp
                                      have Ts26 := Lib.hid (Ts24.out.no _ _ (hv25.alloc (.cells #[.int .i64 0, .int .i64 0, .int .i64 0, .int .i64 0] 63)))
                                      have B11s26 := Lib.hid ((B11s24.out.ch hv25 (fun h => h)).alloc (.cells #[.int .i64 0, .int .i64 0, .int .i64 0, .int .i64 0] 63))
                                      have L11s26 : v1.heap.size < v25.heap.size := (B11s24.out.ch hv25 (fun h => h)).lt
                                      have B12s26 := Lib.hid ((B12s24.out.ch hv25 (fun h => h)).alloc (.cells #[.int .i64 0, .int .i64 0, .int .i64 0, .int .i64 0] 63))
                                      have L12s26 : v17.heap.size < v25.heap.size := (B12s24.out.ch hv25 (fun h => h)).lt
                                      have B10s26 : Hid (Blk (v25.alloc (.cells #[.int .i64 0, .int .i64 0, .int .i64 0, .int .i64 0] 63)) v25.heap.size 63 [.int .i64 0, .int .i64 0, .int .i64 0, .int .i64 0]) := Lib.hid (Blk.new v25 63 [.int .i64 0, .int .i64 0, .int .i64 0, .int .i64 0])
                                      have G10 : g0 ≤ v25.heap.size := Nat.le_trans Ts24.out.low (hv25.size)
                                      have D1011 : ¬ v1.heap.size = v25.heap.size := by omega
                                      have D1012 : ¬ v17.heap.size = v25.heap.size := by omega
                                      refine hK.out _ _ (fun _ => Ts26.out) ?_
                                      clear hK K
                                      try simp only [Act.put]
                                      refine wpP_1 (i := 13) rfl (by kernel_rfl) (fun v27 hv27 K hK => ?_)
                                      have C10s27 := Lib.hid (B10s26.out.ch hv27 (fun h => h))
                                      have C11s27 := Lib.hid (B11s26.out.ch hv27 (fun h => h))
                                      have C12s27 := Lib.hid (B12s26.out.ch hv27 (fun h => h))
                                      have Ts27 := Lib.hid (Ts26.out.no _ _ hv27)
                                      have z0 := C10s27.out.cell 0
                                      have z1 := C10s27.out.cell 1
                                      have z2 := C10s27.out.cell 2
                                      have z3 := C10s27.out.cell 3
                                      have f0 := C10s27.out.frozen 0
                                      have f1 := C10s27.out.frozen 1
                                      have f2 := C10s27.out.frozen 2
                                      have f3 := C10s27.out.frozen 3
                                      simp only [List.getElem?_cons_zero, List.getElem?_cons_succ] at z0 z1 z2 z3
                                      clear hv27
                                      go_simp
                                      have Us27 := Lib.hid (st4_same C10s27.out (.int .i64 x.c) (.int .i64 x.s) (.int .i64 x.l) (.int .i64 x.h))
                                      have U11s27 := Lib.hid (st4_other C11s27.out (fun e => D1011 (by first | exact e | exact e.symm)) (.int .i64 x.c) (.int .i64 x.s) (.int .i64 x.l) (.int .i64 x.h) (g := v25.heap.size))
                                      have U12s27 := Lib.hid (st4_other C12s27.out (fun e => D1012 (by first | exact e | exact e.symm)) (.int .i64 x.c) (.int .i64 x.s) (.int .i64 x.l) (.int .i64 x.h) (g := v25.heap.size))
                                      have Vs27 := Lib.hid (Ts27.out.st4 G10 (.int .i64 x.c) (.int .i64 x.s) (.int .i64 x.l) (.int .i64 x.h))
                                      refine hK.out _ _ (fun h => nomatch (show true = false from h)) ?_
                                      clear hK K z0 z1 z2 z3 f0 f1 f2 f3
                                      try simp only [Act.put]
                                      refine wpP_1 (i := 14) rfl (by kernel_rfl) (fun v28 hv28 K hK => ?_)
                                      have C10s28 := Lib.hid (Us27.out.ch hv28 (fun h => h))
                                      have C11s28 := Lib.hid (U11s27.out.ch hv28 (fun h => h))
                                      have C12s28 := Lib.hid (U12s27.out.ch hv28 (fun h => h))
                                      have Ts28 := Lib.hid (Vs27.out.no _ _ hv28)
                                      have z0 := C11s28.out.cell 0
                                      have z1 := C11s28.out.cell 1
                                      have z2 := C11s28.out.cell 2
                                      have z3 := C11s28.out.cell 3
                                      have f0 := C11s28.out.frozen 0
                                      have f1 := C11s28.out.frozen 1
                                      have f2 := C11s28.out.frozen 2
                                      have f3 := C11s28.out.frozen 3
                                      simp only [List.getElem?_cons_zero, List.getElem?_cons_succ] at z0 z1 z2 z3
                                      clear hv28
                                      go_simp
                                      have Us28 := Lib.hid (st4_same C11s28.out (.int .i64 y.c) (.int .i64 y.s) (.int .i64 y.l) (.int .i64 y.h))
                                      have U10s28 := Lib.hid (st4_other C10s28.out (fun e => D1011 (by first | exact e | exact e.symm)) (.int .i64 y.c) (.int .i64 y.s) (.int .i64 y.l) (.int .i64 y.h) (g := v1.heap.size))
                                      have U12s28 := Lib.hid (st4_other C12s28.out (fun e => D1112 (by first | exact e | exact e.symm)) (.int .i64 y.c) (.int .i64 y.s) (.int .i64 y.l) (.int .i64 y.h) (g := v1.heap.size))
                                      have Vs28 := Lib.hid (Ts28.out.st4 G11 (.int .i64 y.c) (.int .i64 y.s) (.int .i64 y.l) (.int .i64 y.h))
                                      refine hK.out _ _ (fun h => nomatch (show true = false from h)) ?_
                                      clear hK K z0 z1 z2 z3 f0 f1 f2 f3
                                      try simp only [Act.put]
                                      refine wpP_1 (i := 15) rfl (by kernel_rfl) (fun v29 hv29 K hK => ?_)
                                      have C10s29 := Lib.hid (U10s28.out.ch hv29 (fun h => h))
                                      have C11s29 := Lib.hid (Us28.out.ch hv29 (fun h => h))
                                      have C12s29 := Lib.hid (U12s28.out.ch hv29 (fun h => h))
                                      have Ts29 := Lib.hid (Vs28.out.no _ _ hv29)
                                      have z0 := C12s29.out.cell 0
                                      have z1 := C12s29.out.cell 1
                                      have z2 := C12s29.out.cell 2
                                      have z3 := C12s29.out.cell 3
                                      have f0 := C12s29.out.frozen 0
                                      have f1 := C12s29.out.frozen 1
                                      have f2 := C12s29.out.frozen 2
                                      have f3 := C12s29.out.frozen 3
                                      simp only [List.getElem?_cons_zero, List.getElem?_cons_succ] at z0 z1 z2 z3
                                      clear hv29
                                      go_simp
                                      have Us29 := Lib.hid (st4_same C12s29.out (.int .i64 z.c) (.int .i64 z.s) (.int .i64 z.l) (.int .i64 z.h))
                                      have U10s29 := Lib.hid (st4_other C10s29.out (fun e => D1012 (by first | exact e | exact e.symm)) (.int .i64 z.c) (.int .i64 z.s) (.int .i64 z.l) (.int .i64 z.h) (g := v17.heap.size))
                                      have U11s29 := Lib.hid (st4_other C11s29.out (fun e => D1112 (by first | exact e | exact e.symm)) (.int .i64 z.c) (.int .i64 z.s) (.int .i64 z.l) (.int .i64 z.h) (g := v17.heap.size))
                                      have Vs29 := Lib.hid (Ts29.out.st4 G12 (.int .i64 z.c) (.int .i64 z.s) (.int .i64 z.l) (.int .i64 z.h))
                                      refine hK.out _ _ (fun h => nomatch (show true = false from h)) ?_
                                      clear hK K z0 z1 z2 z3 f0 f1 f2 f3
                                      try simp only [Act.put]
                                      refine wpP_done (eq_of_beq (by kernel_rfl)) (fun wz hwz => ⟨by first | rfl | trivial, ?_⟩) _
                                      exact ⟨trivial, ((v25.heap.size, v1.heap.size, v17.heap.size, Value.slice (some ⟨ga, k, none⟩) (p - k) (ca - k)) : Nat × Nat × Nat × Value), by kernel_rfl, U10s29.out.ch hwz (fun h => h), U11s29.out.ch hwz (fun h => h), Us29.out.ch hwz (fun h => h), Vs29.out.no _ _ hwz⟩
                                  · refine wpP_step rfl (fun K hK => ?_)
                                    go_simp
                                    have Ts30 := Lib.hid (HT.out.no _ _ (hv1.alloc (.cells #[.int .i64 0, .int .i64 0, .int .i64 0, .int .i64 0] 63)))
                                    have B12s30 : Hid (Blk (v1.alloc (.cells #[.int .i64 0, .int .i64 0, .int .i64 0, .int .i64 0] 63)) v1.heap.size 63 [.int .i64 0, .int .i64 0, .int .i64 0, .int .i64 0]) := Lib.hid (Blk.new v1 63 [.int .i64 0, .int .i64 0, .int .i64 0, .int .i64 0])
                                    have G12 : g0 ≤ v1.heap.size := Nat.le_trans HT.out.low (hv1.size)
                                    refine hK.out _ _ (fun _ => Ts30.out) ?_
                                    clear hK K
                                    try simp only [Act.put]
                                    refine wpP_one (rs := [10, 11]) (eq_of_beq (by kernel_rfl)) (by simp) ?_
                                    intro v31 hv31 i hi
                                    rcases (by simpa using hi : i = 10 ∨ i = 11) with rfl | rfl
                                    · refine wpP_step rfl (fun K hK => ?_)
                                      go_simp
                                      have Ts32 := Lib.hid (Ts30.out.no _ _ (hv31.alloc (.cells #[.int .i64 0, .int .i64 0, .int .i64 0, .int .i64 0] 63)))
                                      have B12s32 := Lib.hid ((B12s30.out.ch hv31 (fun h => h)).alloc (.cells #[.int .i64 0, .int .i64 0, .int .i64 0, .int .i64 0] 63))
                                      have L12s32 : v1.heap.size < v31.heap.size := (B12s30.out.ch hv31 (fun h => h)).lt
                                      have B10s32 : Hid (Blk (v31.alloc (.cells #[.int .i64 0, .int .i64 0, .int .i64 0, .int .i64 0] 63)) v31.heap.size 63 [.int .i64 0, .int .i64 0, .int .i64 0, .int .i64 0]) := Lib.hid (Blk.new v31 63 [.int .i64 0, .int .i64 0, .int .i64 0, .int .i64 0])
                                      have G10 : g0 ≤ v31.heap.size := Nat.le_trans Ts30.out.low (hv31.size)
                                      have D1012 : ¬ v1.heap.size = v31.heap.size := by omega
                                      refine hK.out _ _ (fun _ => Ts32.out) ?_
                                      clear hK K
                                      try simp only [Act.put]
                                      refine wpP_1 (i := 11) rfl (by kernel_rfl) (fun v33 hv33 K hK => ?_)
                                      go_simp
                                      have Ts34 := Lib.hid (Ts32.out.no _ _ (hv33.alloc (.cells #[.int .i64 0, .int .i64 0, .int .i64 0, .int .i64 0] 63)))
                                      have B10s34 := Lib.hid ((B10s32.out.ch hv33 (fun h => h)).alloc (.cells #[.int .i64 0, .int .i64 0, .int .i64 0, .int .i64 0] 63))
                                      have L10s34 : v31.heap.size < v33.heap.size := (B10s32.out.ch hv33 (fun h => h)).lt
                                      have B12s34 := Lib.hid ((B12s32.out.ch hv33 (fun h => h)).alloc (.cells #[.int .i64 0, .int .i64 0, .int .i64 0, .int .i64 0] 63))
                                      have L12s34 : v1.heap.size < v33.heap.size := (B12s32.out.ch hv33 (fun h => h)).lt
                                      have B11s34 : Hid (Blk (v33.alloc (.cells #[.int .i64 0, .int .i64 0, .int .i64 0, .int .i64 0] 63)) v33.heap.size 63 [.int .i64 0, .int .i64 0, .int .i64 0, .int .i64 0]) := Lib.hid (Blk.new v33 63 [.int .i64 0, .int .i64 0, .int .i64 0, .int .i64 0])
                                      have G11 : g0 ≤ v33.heap.size := Nat.le_trans Ts32.out.low (hv33.size)
                                      have D1011 : ¬ v31.heap.size = v33.heap.size := by omega
                                      have D1112 : ¬ v1.heap.size = v33.heap.size := by omega
                                      refine hK.out _ _ (fun _ => Ts34.out) ?_
                                      clear hK K
                                      try simp only [Act.put]
                                      refine wpP_1 (i := 13) rfl (by kernel_rfl) (fun v35 hv35 K hK => ?_)
                                      have C10s35 := Lib.hid (B10s34.out.ch hv35 (fun h => h))
                                      have C11s35 := Lib.hid (B11s34.out.ch hv35 (fun h => h))
                                      have C12s35 := Lib.hid (B12s34.out.ch hv35 (fun h => h))
                                      have Ts35 := Lib.hid (Ts34.out.no _ _ hv35)
                                      have z0 := C10s35.out.cell 0
                                      have z1 := C10s35.out.cell 1
                                      have z2 := C10s35.out.cell 2
                                      have z3 := C10s35.out.cell 3
                                      have f0 := C10s35.out.frozen 0
                                      have f1 := C10s35.out.frozen 1
                                      have f2 := C10s35.out.frozen 2
                                      have f3 := C10s35.out.frozen 3
                                      simp only [List.getElem?_cons_zero, List.getElem?_cons_succ] at z0 z1 z2 z3
                                      clear hv35
                                      go_simp
                                      have Us35 := Lib.hid (st4_same C10s35.out (.int .i64 x.c) (.int .i64 x.s) (.int .i64 x.l) (.int .i64 x.h))
                                      have U11s35 := Lib.hid (st4_other C11s35.out (fun e => D1011 (by first | exact e | exact e.symm)) (.int .i64 x.c) (.int .i64 x.s) (.int .i64 x.l) (.int .i64 x.h) (g := v31.heap.size))
                                      have U12s35 := Lib.hid (st4_other C12s35.out (fun e => D1012 (by first | exact e | exact e.symm)) (.int .i64 x.c) (.int .i64 x.s) (.int .i64 x.l) (.int .i64 x.h) (g := v31.heap.size))
                                      have Vs35 := Lib.hid (Ts35.out.st4 G10 (.int .i64 x.c) (.int .i64 x.s) (.int .i64 x.l) (.int .i64 x.h))
                                      refine hK.out _ _ (fun h => nomatch (show true = false from h)) ?_
                                      clear hK K z0 z1 z2 z3 f0 f1 f2 f3
                                      try simp only [Act.put]
                                      refine wpP_1 (i := 14) rfl (by kernel_rfl) (fun v36 hv36 K hK => ?_)
                                      have C10s36 := Lib.hid (Us35.out.ch hv36 (fun h => h))
                                      have C11s36 := Lib.hid (U11s35.out.ch hv36 (fun h => h))
                                      have C12s36 := Lib.hid (U12s35.out.ch hv36 (fun h => h))
                                      have Ts36 := Lib.hid (Vs35.out.no _ _ hv36)
                                      have z0 := C11s36.out.cell 0
                                      have z1 := C11s36.out.cell 1
                                      have z2 := C11s36.out.cell 2
                                      have z3 := C11s36.out.cell 3
                                      have f0 := C11s36.out.frozen 0
                                      have f1 := C11s36.out.frozen 1
                                      have f2 := C11s36.out.frozen 2
                                      have f3 := C11s36.out.frozen 3
                                      simp only [List.getElem?_cons_zero, List.getElem?_cons_succ] at z0 z1 z2 z3
                                      clear hv36
                                      go_simp
                                      have Us36 := Lib.hid (st4_same C11s36.out (.int .i64 y.c) (.int .i64 y.s) (.int .i64 y.l) (.int .i64 y.h))
                                      have U10s36 := Lib.hid (st4_other C10s36.out (fun e => D1011 (by first | exact e | exact e.symm)) (.int .i64 y.c) (.int .i64 y.s) (.int .i64 y.l) (.int .i64 y.h) (g := v33.heap.size))
                                      have U12s36 := Lib.hid (st4_other C12s36.out (fun e => D1112 (by first | exact e | exact e.symm)) (.int .i64 y.c) (.int .i64 y.s) (.int .i64 y.l) (.int .i64 y.h) (g := v33.heap.size))
                                      have Vs36 := Lib.hid (Ts36.out.st4 G11 (.int .i64 y.c) (.int .i64 y.s) (.int .i64 y.l) (.int .i64 y.h))
                                      refine hK.out _ _ (fun h => nomatch (show true = false from h)) ?_
                                      clear hK K z0 z1 z2 z3 f0 f1 f2 f3
                                      try simp only [Act.put]
                                      refine wpP_1 (i := 15) rfl (by kernel_rfl) (fun v37 hv37 K hK => ?_)
                                      have C10s37 := Lib.hid (U10s36.out.ch hv37 (fun h => h))
                                      have C11s37 := Lib.hid (Us36.out.ch hv37 (fun h => h))
                                      have C12s37 := Lib.hid (U12s36.out.ch hv37 (fun h => h))
                                      have Ts37 := Lib.hid (Vs36.out.no _ _ hv37)
                                      have z0 := C12s37.out.cell 0
                                      have z1 := C12s37.out.cell 1
                                      have z2 := C12s37.out.cell 2
                                      have z3 := C12s37.out.cell 3
                                      have f0 := C12s37.out.frozen 0
                                      have f1 := C12s37.out.frozen 1
                                      have f2 := C12s37.out.frozen 2
                                      have f3 := C12s37.out.frozen 3
                                      simp only [List.getElem?_cons_zero, List.getElem?_cons_succ] at z0 z1 z2 z3
                                      clear hv37
                                      go_simp
                                      have Us37 := Lib.hid (st4_same C12s37.out (.int .i64 z.c) (.int .i64 z.s) (.int .i64 z.l) (.int .i64 z.h))
                                      have U10s37 := Lib.hid (st4_other C10s37.out (fun e => D1012 (by first | exact e | exact e.symm)) (.int .i64 z.c) (.int .i64 z.s) (.int .i64 z.l) (.int .i64 z.h) (g := v1.heap.size))
                                      have U11s37 := Lib.hid (st4_other C11s37.out (fun e => D1112 (by first | exact e | exact e.symm)) (.int .i64 z.c) (.int .i64 z.s) (.int .i64 z.l) (.int .i64 z.h) (g := v1.heap.size))
                                      have Vs37 := Lib.hid (Ts37.out.st4 G12 (.int .i64 z.c) (.int .i64 z.s) (.int .i64 z.l) (.int .i64 z.h))
                                      refine hK.out _ _ (fun h => nomatch (show true = false from h)) ?_
                                      clear hK K z0 z1 z2 z3 f0 f1 f2 f3
                                      try simp only [Act.put]
                                      refine wpP_done (eq_of_beq (by kernel_rfl)) (fun wz hwz => ⟨by first | rfl | trivial, ?_⟩) _
                                      exact ⟨trivial, ((v31.heap.size, v33.heap.size, v1.heap.size, Value.slice (some ⟨ga, k, none⟩) (p - k) (ca - k)) : Nat × Nat × Nat × Value), by kernel_rfl, U10s37.out.ch hwz (fun h => h), U11s37.out.ch hwz (fun h => h), Us37.out.ch hwz (fun h => h), Vs37.out.no _ _ hwz⟩
                                    · refine wpP_step rfl (fun K hK => ?_)
                                      go_simp
                                      have Ts38 := Lib.hid (Ts30.out.no _ _ (hv31.alloc (.cells #[.int .i64 0, .int .i64 0, .int .i64 0, .int .i64 0] 63)))
                                      have B12s38 := Lib.hid ((B12s30.out.ch hv31 (fun h => h)).alloc (.cells #[.int .i64 0, .int .i64 0, .int .i64 0, .int .i64 0] 63))
                                      have L12s38 : v1.heap.size < v31.heap.size := (B12s30.out.ch hv31 (fun h => h)).lt
                                      have B11s38 : Hid (Blk (v31.alloc (.cells #[.int .i64 0, .int .i64 0, .int .i64 0, .int .i64 0] 63)) v31.heap.size 63 [.int .i64 0, .int .i64 0, .int .i64 0, .int .i64 0]) := Lib.hid (Blk.new v31 63 [.int .i64 0, .int .i64 0, .int .i64 0, .int .i64 0])
                                      have G11 : g0 ≤ v31.heap.size := Nat.le_trans Ts30.out.low (hv31.size)
                                      have D1112 : ¬ v1.heap.size = v31.heap.size := by omega
                                      refine hK.out _ _ (fun _ => Ts38.out) ?_
                                      clear hK K
                                      try simp only [Act.put]
                                      refine wpP_1 (i := 10) rfl (by kernel_rfl) (fun v39 hv39 K hK => ?_)
                                      go_simp
                                      have Ts40 := Lib.hid (Ts38.out.no _ _ (hv39.alloc (.cells #[.int .i64 0, .int .i64 0, .int .i64 0, .int .i64 0] 63)))
                                      have B11s40 := Lib.hid ((B11s38.out.ch hv39 (fun h => h)).alloc (.cells #[.int .i64 0, .int .i64 0, .int .i64 0, .int .i64 0] 63))
                                      have L11s40 : v31.heap.size < v39.heap.size := (B11s38.out.ch hv39 (fun h => h)).lt
                                      have B12s40 := Lib.hid ((B12s38.out.ch hv39 (fun h => h)).alloc (.cells #[.int .i64 0, .int .i64 0, .int .i64 0, .int .i64 0] 63))
                                      have L12s40 : v1.heap.size < v39.heap.size := (B12s38.out.ch hv39 (fun h => h)).lt
                                      have B10s40 : Hid (Blk (v39.alloc (.cells #[.int .i64 0, .int .i64 0, .int .i64 0, .int .i64 0] 63)) v39.heap.size 63 [.int .i64 0, .int .i64 0, .int .i64 0, .int .i64 0]) := Lib.hid (Blk.new v39 63 [.int .i64 0, .int .i64 0, .int .i64 0, .int .i64 0])
                                      have G10 : g0 ≤ v39.heap.size := Nat.le_trans Ts38.out.low (hv39.size)
                                      have D1011 : ¬ v31.heap.size = v39.heap.size := by omega
                                      have D1012 : ¬ v1.heap.size = v39.heap.size := by omega
                                      refine hK.out _ _ (fun _ => Ts40.out) ?_
                                      clear hK K
                                      try simp only [Act.put]
                                      refine wpP_1 (i := 13) rfl (by kernel_rfl) (fun v41 hv41 K hK => ?_)
                                      have C10s41 := Lib.hid (B10s40.out.ch hv41 (fun h => h))
                                      have C11s41 := Lib.hid (B11s40.out.ch hv41 (fun h => h))
                                      have C12s41 := Lib.hid (B12s40.out.ch hv41 (fun h => h))
                                      have Ts41 := Lib.hid (Ts40.out.no _ _ hv41)
                                      have z0 := C10s41.out.cell 0
                                      have z1 := C10s41.out.cell 1
                                      have z2 := C10s41.out.cell 2
                                      have z3 := C10s41.out.cell 3
                                      have f0 := C10s41.out.frozen 0
                                      have f1 := C10s41.out.frozen 1
                                      have f2 := C10s41.out.frozen 2
                                      have f3 := C10s41.out.frozen 3
                                      simp only [List.getElem?_cons_zero, List.getElem?_cons_succ] at z0 z1 z2 z3
                                      clear hv41
                                      go_simp
                                      have Us41 := Lib.hid (st4_same C10s41.out (.int .i64 x.c) (.int .i64 x.s) (.int .i64 x.l) (.int .i64 x.h))
                                      have U11s41 := Lib.hid (st4_other C11s41.out (fun e => D1011 (by first | exact e | exact e.symm)) (.int .i64 x.c) (.int .i64 x.s) (.int .i64 x.l) (.int .i64 x.h) (g := v39.heap.size))
                                      have U12s41 := Lib.hid (st4_other C12s41.out (fun e => D1012 (by first | exact e | exact e.symm)) (.int .i64 x.c) (.int .i64 x.s) (.int .i64 x.l) (.int .i64 x.h) (g := v39.heap.size))
                                      have Vs41 := Lib.hid (Ts41.out.st4 G10 (.int .i64 x.c) (.int .i64 x.s) (.int .i64 x.l) (.int .i64 x.h))
                                      refine hK.out _ _ (fun h => nomatch (show true = false from h)) ?_
                                      clear hK K z0 z1 z2 z3 f0 f1 f2 f3
                                      try simp only [Act.put]
                                      refine wpP_1 (i := 14) rfl (by kernel_rfl) (fun v42 hv42 K hK => ?_)
                                      have C10s42 := Lib.hid (Us41.out.ch hv42 (fun h => h))
                                      have C11s42 := Lib.hid (U11s41.out.ch hv42 (fun h => h))
                                      have C12s42 := Lib.hid (U12s41.out.ch hv42 (fun h => h))
                                      have Ts42 := Lib.hid (Vs41.out.no _ _ hv42)
                                      have z0 := C11s42.out.cell 0
                                      have z1 := C11s42.out.cell 1
                                      have z2 := C11s42.out.cell 2
                                      have z3 := C11s42.out.cell 3
                                      have f0 := C11s42.out.frozen 0
                                      have f1 := C11s42.out.frozen 1
                                      have f2 := C11s42.out.frozen 2
                                      have f3 := C11s42.out.frozen 3
                                      simp only [List.getElem?_cons_zero, List.getElem?_cons_succ] at z0 z1 z2 z3
                                      clear hv42
                                      go_simp
                                      have Us42 := Lib.hid (st4_same C11s42.out (.int .i64 y.c) (.int .i64 y.s) (.int .i64 y.l) (.int .i64 y.h))
                                      have U10s42 := Lib.hid (st4_other C10s42.out (fun e => D1011 (by first | exact e | exact e.symm)) (.int .i64 y.c) (.int .i64 y.s) (.int .i64 y.l) (.int .i64 y.h) (g := v31.heap.size))
                                      have U12s42 := Lib.hid (st4_other C12s42.out (fun e => D1112 (by first | exact e | exact e.symm)) (.int .i64 y.c) (.int .i64 y.s) (.int .i64 y.l) (.int .i64 y.h) (g := v31.heap.size))
                                      have Vs42 := Lib.hid (Ts42.out.st4 G11 (.int .i64 y.c) (.int .i64 y.s) (.int .i64 y.l) (.int .i64 y.h))
                                      refine hK.out _ _ (fun h => nomatch (show true = false from h)) ?_
                                      clear hK K z0 z1 z2 z3 f0 f1 f2 f3
                                      try simp only [Act.put]
                                      refine wpP_1 (i := 15) rfl (by kernel_rfl) (fun v43 hv43 K hK => ?_)
                                      have C10s43 := Lib.hid (U10s42.out.ch hv43 (fun h => h))
                                      have C11s43 := Lib.hid (Us42.out.ch hv43 (fun h => h))
                                      have C12s43 := Lib.hid (U12s42.out.ch hv43 (fun h => h))
                                      have Ts43 := Lib.hid (Vs42.out.no _ _ hv43)
                                      have z0 := C12s43.out.cell 0
                                      have z1 := C12s43.out.cell 1
                                      have z2 := C12s43.out.cell 2
                                      have z3 := C12s43.out.cell 3
                                      have f0 := C12s43.out.frozen 0
                                      have f1 := C12s43.out.frozen 1
                                      have f2 := C12s43.out.frozen 2
                                      have f3 := C12s43.out.frozen 3
                                      simp only [List.getElem?_cons_zero, List.getElem?_cons_succ] at z0 z1 z2 z3
                                      clear hv43
                                      go_simp
                                      have Us43 := Lib.hid (st4_same C12s43.out (.int .i64 z.c) (.int .i64 z.s) (.int .i64 z.l) (.int .i64 z.h))
                                      have U10s43 := Lib.hid (st4_other C10s43.out (fun e => D1012 (by first | exact e | exact e.symm)) (.int .i64 z.c) (.int .i64 z.s) (.int .i64 z.l) (.int .i64 z.h) (g := v1.heap.size))
                                      have U11s43 := Lib.hid (st4_other C11s43.out (fun e => D1112 (by first | exact e | exact e.symm)) (.int .i64 z.c) (.int .i64 z.s) (.int .i64 z.l) (.int .i64 z.h) (g := v1.heap.size))
                                      have Vs43 := Lib.hid (Ts43.out.st4 G12 (.int .i64 z.c) (.int .i64 z.s) (.int .i64 z.l) (.int .i64 z.h))
                                      refine hK.out _ _ (fun h => nomatch (show true = false from h)) ?_
                                      clear hK K z0 z1 z2 z3 f0 f1 f2 f3
                                      try simp only [Act.put]
                                      refine wpP_done (eq_of_beq (by kernel_rfl)) (fun wz hwz => ⟨by first | rfl | trivial, ?_⟩) _
                                      exact ⟨trivial, ((v39.heap.size, v31.heap.size, v1.heap.size, Value.slice (some ⟨ga, k, none⟩) (p - k) (ca - k)) : Nat × Nat × Nat × Value), by kernel_rfl, U10s43.out.ch hwz (fun h => h), U11s43.out.ch hwz (fun h => h), Us43.out.ch hwz (fun h => h), Vs43.out.no _ _ hwz⟩
          · rintro ⟨q0, q1, q2, v63⟩ w2 ⟨c0, c1, c2, hpz⟩
            simp only [Act.put, List.setIfInBounds_toArray, List.set_cons_zero, List.set_cons_succ] at c0 c1 c2 ⊢
            have HB := Lib.hid (And.intro c0 hpz)
            have HRB := Lib.hid (fun w' (h : Ch No w2 w') => HREST.out.1 w' (hpz.b.ch h (fun _ _ h => h)))
            have hM1 := HREST.out.2.1
            have hM2 := HREST.out.2.2.1
            have hM3 := HREST.out.2.2.2.1
            have x0 := in_cell (c0.cell 0)
            have x1 := in_cell (c0.cell 1)
            have x2 := in_cell (c0.cell 2)
            have x3 := in_cell (c0.cell 3)
            have y0 := in_cell (c1.cell 0)
            have y1 := in_cell (c1.cell 1)
            have y2 := in_cell (c1.cell 2)
            have y3 := in_cell (c1.cell 3)
            have z0 := in_cell (c2.cell 0)
            have z1 := in_cell (c2.cell 1)
            have z2 := in_cell (c2.cell 2)
            have z3 := in_cell (c2.cell 3)
            have he := neqAgg
            clear c0 c1 c2 hpz
            go_wp2_with fail
            (refine wp_region_in (Ch No _) (by kernel_rfl) (by kernel_rfl) (Ch.refl _ _) (fun _ h => ch_drawn h) ?_)
            repeat (go_big_quiet_step (with_reducible first | exact in_chq HRB.out | exact in_ch (hM1 _) | exact in_ch (hM2 _) | exact in_ch (hM3 _)))
            (refine wpQuiet_nil ?_; intro wq0 hw'; obtain ⟨pw, hw''⟩ := hw'; subst hw'')
            have HC := Lib.hid (HB.out.1.ch pw.h (fun h => h))
            have HD := Lib.hid (HB.out.2.ch.trans pw.h)
            generalize pw.w = w3 at *
            clear pw x0 x1 x2 x3 y0 y1 y2 y3 z0 z1 z2 z3 he hM1 hM2 hM3 HRB HB
            have k0 := HC.out.cell 0
            have k1 := HC.out.cell 1
            have k2 := HC.out.cell 2
            have k3 := HC.out.cell 3
            simp only [List.getElem?_cons_zero, List.getElem?_cons_succ] at k0 k1 k2 k3
            go_wp2_with fail
            refine (HREST.out.2.2.2.2 _).mono ?_
            rintro e w4 ⟨rfl, h4⟩
            have HC4 := Lib.hid (HC.out.ch h4 (fun h => h))
            have HD4 := Lib.hid (HD.out.trans h4)
            clear h4 k0 k1 k2 k3 HREST
            have k1 := HC4.out.cell 1
            have k2 := HC4.out.cell 2
            have k3 := HC4.out.cell 3
            simp only [List.getElem?_cons_zero, List.getElem?_cons_succ] at k1 k2 k3
            by_cases hp0 : p = 0
            · obtain ⟨h1, h2⟩ := HLW.out.1 hp0
              subst hp0
              rw [h1, h2]
              go_wp2_with fail
              go_ret
              exact ⟨rfl, HD4.out⟩
            · obtain ⟨h1, h2, h3, h4, h5, h6, h7, h8, h9⟩ := HLW.out.2 (by omega)
              have hpi : (0 : Int) < (p : Int) := by omega
              have hpe : ((p : Int) == 0) = false := by simpa using hp0
              obtain ⟨av, hav⟩ : ∃ av, avV x = av := ⟨_, rfl⟩
              rw [hav] at h2 h3 h4 h5 h6 h7 h8 h9
              obtain ⟨m1, hm1⟩ : ∃ m, av * (p : Int) = m := ⟨_, rfl⟩
              obtain ⟨m2, hm2⟩ : ∃ m, (av + 1) * (p : Int) = m := ⟨_, rfl⟩
              rw [hm1] at h4 h8
              rw [hm2] at h5 h9
              rw [h1, hav]
              have e1 : IntKind.i64.wrap m1 = m1 := IntWalk.i64_in _ (by omega)
              have e2 : IntKind.i64.wrap m2 = m2 := IntWalk.i64_in _ (by omega)
              clear h1 hav HLW hp0
              go_wp2_with fail
              go_ret
              exact ⟨rfl, HD4.out⟩

theorem aggParts_walk (W : World) (A : Option Addr) (cap : Nat) (xs : List Int) (cut : Int) (h : Cls W A (ints .i64 xs)) (_hl : xs.length ≤ cap) (hb : xs.length * 8 ≤ 140737488351232) (_hw : ∀ x ∈ xs, (Lit.int .i64 x).wf = true) (_w1 : (Lit.int .i64 cut).wf = true) :
    Calls Try.prog 10 #[.slice A xs.length cap, .int .i64 cut] W fun e w' => e = .returned (.bool true) ∧ Below W.heap.size W w' :=
  (aggParts_core W A cap xs cut h (by omega)).mono fun e w' ⟨h1, h2⟩ => ⟨h1, h2.same⟩
end Go.Proofs.Ytoaekfocfdcgiaa
