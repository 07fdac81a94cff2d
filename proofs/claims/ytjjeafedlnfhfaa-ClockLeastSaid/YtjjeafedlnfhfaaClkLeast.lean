/- ClockLeast: the least time is none but when there is none, and is one of them: the walk. -/
import Derived.Test.YtjjeafedlnfhfaaClkWalk
import Derived.Test.YtjjeafedlnfhfaaOwn
namespace Go.Proofs.Ytjjeafedlnfhfaa
open Go.RowKit

/-- a time below nought counts as 1 -/
def nrm (t : Int) : Int := if t < 0 then 1 else t
theorem nrm_nn (t : Int) : 0 ≤ nrm t := by unfold nrm; split <;> omega

theorem leastT_spec (xs : List Int) : ∀ out : Int, 0 ≤ out → 0 ≤ leastT xs out ∧ (leastT xs out = 0 ↔ out = 0 ∧ ∀ t ∈ xs, nrm t = 0) ∧ (out ≠ 0 → leastT xs out ≤ out) ∧ (∀ t ∈ xs, nrm t ≠ 0 → leastT xs out ≤ nrm t) ∧ (leastT xs out = out ∨ ∃ t ∈ xs, nrm t = leastT xs out) := by
  induction xs with
  | nil => intro out h; simp [leastT, h]
  | cons x xs ih =>
    intro out h
    have hx := nrm_nn x
    have e : leastT (x :: xs) out = leastT xs (if 0 < nrm x ∧ (out = 0 ∨ nrm x < out) then nrm x else out) := rfl
    rw [e]
    by_cases hc : 0 < nrm x ∧ (out = 0 ∨ nrm x < out)
    · rw [if_pos hc]
      obtain ⟨i1, i2, i3, i4, i5⟩ := ih (nrm x) hx
      refine ⟨i1, ?_, ?_, ?_, ?_⟩
      · grind
      · intro ho; have := i3 (by omega); omega
      · intro t ht hn
        rcases List.mem_cons.1 ht with rfl | ht
        · exact i3 hn
        · exact i4 t ht hn
      · rcases i5 with i5 | ⟨t, ht, i5⟩
        · exact .inr ⟨x, by simp, i5.symm⟩
        · exact .inr ⟨t, by simp [ht], i5⟩
    · rw [if_neg hc]
      obtain ⟨i1, i2, i3, i4, i5⟩ := ih out h
      refine ⟨i1, ?_, i3, ?_, ?_⟩
      · grind
      · intro t ht hn
        rcases List.mem_cons.1 ht with rfl | ht
        · have := i3 (by omega); omega
        · exact i4 t ht hn
      · rcases i5 with i5 | ⟨t, ht, i5⟩
        · exact .inl i5
        · exact .inr ⟨t, by simp [ht], i5⟩

theorem leastT_le (xs : List Int) (t : Int) (ht : t ∈ xs) (hn : nrm t ≠ 0) : leastT xs 0 ≤ nrm t := (leastT_spec xs 0 (by omega)).2.2.2.1 t ht hn
theorem leastT_rev (xs : List Int) : leastT xs.reverse 0 = leastT xs 0 := by
  obtain ⟨a1, a2, a3, a4, a5⟩ := leastT_spec xs 0 (by omega)
  obtain ⟨b1, b2, b3, b4, b5⟩ := leastT_spec xs.reverse 0 (by omega)
  by_cases h : leastT xs 0 = 0
  · rw [h]
    exact b2.2 ⟨rfl, fun t ht => (a2.1 h).2 t (by simpa using ht)⟩
  · have h' : leastT xs.reverse 0 ≠ 0 := fun e => h (a2.2 ⟨rfl, fun t ht => (b2.1 e).2 t (by simpa using ht)⟩)
    obtain ⟨t, ht, e⟩ := a5.resolve_left h
    obtain ⟨t', ht', e'⟩ := b5.resolve_left h'
    have l1 := b4 t (by simpa using ht) (by omega)
    have l2 := a4 t' (by simpa using ht') (by omega)
    omega
theorem leastT_some (xs : List Int) : decide (leastT xs 0 ≠ 0) = xs.any (fun t => decide (nrm t ≠ 0)) := by
  obtain ⟨a1, a2, a3, a4, a5⟩ := leastT_spec xs 0 (by omega)
  rw [Bool.eq_iff_iff]
  simp only [decide_eq_true_eq, List.any_eq_true]
  constructor
  · intro h
    obtain ⟨t, ht, e⟩ := a5.resolve_left h
    exact ⟨t, ht, by omega⟩
  · rintro ⟨t, ht, hn⟩ e
    exact hn ((a2.1 e).2 t ht)
theorem leastT_found (xs : List Int) : leastT xs 0 ≠ 0 → xs.any (fun t => decide (nrm t = leastT xs 0)) = true := by
  intro h
  obtain ⟨a1, a2, a3, a4, a5⟩ := leastT_spec xs 0 (by omega)
  obtain ⟨t, ht, e⟩ := a5.resolve_left h
  simp only [List.any_eq_true, decide_eq_true_eq]
  exact ⟨t, ht, e⟩

theorem any_step (p : Int → Bool) (x : Int) (suf : List Int) (fb b : Bool) (h : fb = suf.any p) (hb : b = (fb || p x)) : b = (x :: suf).any p := by
  rw [hb, h, List.any_cons, Bool.or_comm]

theorem Least_len (A : Option Addr) (c n : Nat) (xs : List Int) (w : World) (h : Cls w A (ints .i64 xs)) (hl : xs.length ≤ 9223372036854775807) (hn : n = xs.length) :
    Calls Try.prog 19 #[.slice A n c] w fun e w' => e = .returned (.int .i64 (leastT xs 0)) ∧ w = w' := by
  subst hn
  exact Least_any A c xs w h hl

set_option maxHeartbeats 1000000 in
theorem clockLeast_walk (W : World) (A : Option Addr) (c : Nat) (xs : List Int) (h : Cls W A (ints .i64 xs))
    (_hcap : xs.length ≤ c) (hbytes : xs.length * 8 ≤ 140737488351232) (_hw : ∀ x ∈ xs, (Lit.int .i64 x).wf = true) :
    Calls Try.prog 5 #[.slice A xs.length c] W fun e w' => e = .returned (.bool true) ∧ Below W.heap.size W w' := by
  have hl : xs.length ≤ 9223372036854775807 := by omega
  go_enter Try.func5, Try.ntmps5
  go_wp2_with fail
  refine (clkAlive_any _).mono ?_
  rintro e w1 ⟨rfl, hb1⟩
  by_cases hlen : 100 < xs.length
  · go_wp2_with fail
    go_ret
    exact ⟨rfl, hb1⟩
  · go_wp2_with fail
    refine (Least_any _ _ xs _ (h.below hb1) hl).mono ?_
    rintro e w2 ⟨rfl, rfl⟩
    have hmin : ∀ t ∈ xs, nrm t ≠ 0 → leastT xs 0 ≤ nrm t := leastT_le xs
    have hrev := leastT_rev xs
    have hsome := leastT_some xs
    have hfound := leastT_found xs
    have HF := Lib.hid (And.intro hmin (And.intro hrev (And.intro hsome hfound)))
    clear hmin hrev hsome hfound
    generalize leastT xs 0 = n at *
    go_wp2_with fail
    go_loopw [4, 5, 6, 7] (fun bk fd sm i wr => ∃ (pre suf : List Int) (fb sb : Bool) (m : Int), Hid (xs = pre ++ suf) ∧ OwnS wr W.heap.size 2 bk (ints .i64 suf.reverse) ∧ fd = .bool fb ∧ Hid (fb = suf.any (fun t => decide (nrm t = n))) ∧ sm = .bool sb ∧ Hid (sb = suf.any (fun t => decide (nrm t ≠ 0))) ∧ i = .int .i64 m ∧ Hid (m = pre.length - 1) ∧ Below W.heap.size W wr) (fun _ _ _ i _ => (intOf i + 1).toNat)
    case atStart => exact ⟨xs, [], false, false, _, by simp [Hid], by simpa [ints] using OwnS.lit w1 W.heap.size 2 [] hb1.size (by simp), rfl, rfl, rfl, rfl, rfl, rfl, hb1.alloc hb1.size _⟩
    case round =>
      obtain ⟨pre, suf, fb, sb, m, hx, hown, rfl, hfb, rfl, hsb, rfl, hm, hb⟩ := hrel
      rcases List.eq_nil_or_concat pre with rfl | ⟨pre, x, rfl⟩
      · obtain rfl : m = -1 := by have := hm.out; simpa using this
        obtain rfl : suf = xs := by have := hx.out; simpa using this.symm
        obtain ⟨A', c', rfl, hcl, _⟩ := hown.slice_ints
        clear hown
        have hbl := Lib.hid hb
        go_wp2_with fail
        refine (Least_len _ _ _ suf.reverse _ hcl (by simpa using hl) (by simp)).mono ?_
        rintro e w5 ⟨rfl, rfl⟩
        rw [HF.out.2.1]
        obtain ⟨_, _, h3, h4⟩ := HF.out
        rw [← hsb.out] at h3
        rw [← hfb.out] at h4
        clear HF hfb hsb hx hm
        by_cases hn0 : n = 0
        · obtain rfl : sb = false := by rw [← h3]; simp [hn0]
          clear h3 h4
          go_wp2_with fail
          all_goals
            go_ret
            exact ⟨by simp, hbl.out⟩
        · obtain rfl : sb = true := by rw [← h3]; simp [hn0]
          obtain rfl : fb = true := h4 hn0
          have hn1 : (n != 0) = true := by simp [hn0]
          clear h3 h4 hn0
          go_wp2_with fail
          all_goals
            go_ret
            exact ⟨by simp, hbl.out⟩
      · obtain rfl : m = pre.length := by have := hm.out; simpa using this
        have hx' : xs = pre ++ x :: suf := by have := hx.out; simpa using this
        have hlen2 : suf.length + 1 ≤ xs.length := by rw [hx']; simp
        have hlen3 : pre.length < xs.length := by rw [hx']; simp
        obtain ⟨blk, off, rfl, hcx⟩ := (h.below hb).at hx'
        have hmx := HF.out.1 x (by rw [hx']; simp)
        have HX := Lib.hid hx'
        unfold nrm at hmx
        clear hx' hx hm
        go_wp2_with (at_builtin; refine app1 rfl _ _ 22 2 rfl (.int .i64 0) 8 Try.underlying22 (by kernel_rfl) rfl W.heap.size _ _ (.int .i64 x) rfl (hown.alloc _) wr.heap.size 1 rfl (by simp) rfl ?hn ?hb ?hB ?_)
        case hn => simp [maxLen]; omega
        case hb => simp; omega
        case hB => have := hb.size; simp; omega
        intro g' c' w2 hown2 hch hat
        have hb2 : Below W.heap.size W w2 := Ch.to_below (hb.alloc hb.size _) hch (by have := hb.size; simp; omega) (fun i hi => (hown.ge i hi).1)
        have HO := Lib.hid (And.intro hown2 hb2)
        clear hown hch hat hown2 hb2 hb
        by_cases hx0 : x < 0
        all_goals
          cases sb
          all_goals
            cases fb
            all_goals
              go_wp2_with fail
              all_goals
                go_roundw
                case rel =>
                  refine ⟨pre, x :: suf, _, _, _, HX.out, by simpa [ints] using HO.out.1, rfl, ?_, rfl, ?_, rfl, rfl, HO.out.2⟩
                  · exact any_step _ _ _ _ _ hfb.out (by simp only [nrm]; rw [Bool.eq_iff_iff]; split <;> simp <;> omega)
                  · exact any_step _ _ _ _ _ hsb.out (by simp only [nrm]; rw [Bool.eq_iff_iff]; split <;> simp <;> omega)
                case measure => simp [intOf]
end Go.Proofs.Ytjjeafedlnfhfaa
