/- entry: Less, and the reference's Less: what each comes to. -/
import Derived.Test.YtflpelacjdnplaaEntChk
namespace Go.Proofs.Ytflpelacjdnplaa
open Go.RowKit

/-- a box of an entry -/
def EBox (w : World) (b : Nat) (x : Ent) : Prop := w.cell? ⟨b, 0, none⟩ = some (.int .i64 x.t) ∧ w.cell? ⟨b, 1, none⟩ = some (.int .i64 x.arg) ∧ w.cell? ⟨b, 2, none⟩ = some (.int .i64 x.tenant) ∧ w.cell? ⟨b, 3, none⟩ = some (.int .i64 x.person) ∧ w.cell? ⟨b, 4, none⟩ = some (.int .i64 x.kind) ∧ w.cell? ⟨b, 5, none⟩ = some (.int .i64 x.code)
theorem Blk.ebox {w : World} {b : Nat} {t : TypeId} {x : Ent} (h : Blk w b t x.enc) : EBox w b x := ⟨h.cell 0, h.cell 1, h.cell 2, h.cell 3, h.cell 4, h.cell 5⟩
theorem EBox.ch {S : Nat → Prop} {w w' : World} {b : Nat} {x : Ent} (h : EBox w b x) (hc : Ch S w w') (hn : ¬ S b) : EBox w' b x :=
  ⟨hc.cell h.1 hn, hc.cell h.2.1 hn, hc.cell h.2.2.1 hn, hc.cell h.2.2.2.1 hn, hc.cell h.2.2.2.2.1 hn, hc.cell h.2.2.2.2.2 hn⟩
theorem EBox.no {w w' : World} {b : Nat} {x : Ent} (h : EBox w b x) (hc : Ch No w w') : EBox w' b x := h.ch hc (fun h => h)
theorem EBox.lt {w : World} {b : Nat} {x : Ent} (h : EBox w b x) : b < w.heap.size := World.block_lt_of_cell? _ _ h.1

set_option maxHeartbeats 16000000 in
set_option maxRecDepth 100000 in
theorem Less_any (x y : Ent) (w : World) : Calls Try.prog 37 #[x.val, y.val] w fun e w' => e = .returned (.bool (lessE x y)) ∧ Ch No w w' := by
  have HL := Lib.hid (lessE_or x y)
  have k0 := fun w => Cmp64_any x.t y.t w
  have k1 := fun w => Cmp_any x.tenant y.tenant w
  have k2 := fun w => Cmp_any x.person y.person w
  have k3 := fun w => Cmp_any x.kind y.kind w
  have k4 := fun w => Cmp_any x.code y.code w
  have k5 := fun w => Cmp64_any x.arg y.arg w
  have hor : ∀ (v : World) (a b c d e f : Int), Calls Try.prog 54 #[.slice (some ⟨v.heap.size, 0, none⟩) 6 6] (v.alloc (.cells #[.int .i64 a, .int .i64 b, .int .i64 c, .int .i64 d, .int .i64 e, .int .i64 f] 3)).drew fun r w' => r = .returned (.int .i64 (orI [a, b, c, d, e, f])) ∧ (v.alloc (.cells #[.int .i64 a, .int .i64 b, .int .i64 c, .int .i64 d, .int .i64 e, .int .i64 f] 3)).drew = w' :=
    fun v a b c d e f => Or_any _ (some ⟨v.heap.size, 0, none⟩) 6 [a, b, c, d, e, f] (Cls.lit v 3 (ints .i64 [a, b, c, d, e, f])) (by simp)
  generalize cmp3 x.t y.t = v0 at *
  generalize cmp3 x.tenant y.tenant = v1 at *
  generalize cmp3 x.person y.person = v2 at *
  generalize cmp3 x.kind y.kind = v3 at *
  generalize cmp3 x.code y.code = v4 at *
  generalize cmp3 x.arg y.arg = v5 at *
  have hor2 := fun v => hor v v0 v1 v2 v3 v4 v5
  clear hor
  generalize orI [v0, v1, v2, v3, v4, v5] = r at *
  have hr : r < 0 ∨ 0 ≤ r := by omega
  unfold Ent.val
  go_enter Try.func37, Try.ntmps37
  go_wp2_with fail
  have B1 : EBox ((w.alloc (.cells x.enc.toArray 32)).alloc (.cells y.enc.toArray 32)) w.heap.size x := ((Blk.new w 32 x.enc).alloc _).ebox
  have B2 : EBox ((w.alloc (.cells x.enc.toArray 32)).alloc (.cells y.enc.toArray 32)) (w.heap.size + 1) y := by
    have := (Blk.new (w.alloc (.cells x.enc.toArray 32)) 32 y.enc).ebox
    simpa using this
  have C2 := ((Ch.refl No w).alloc (.cells x.enc.toArray 32)).alloc (.cells y.enc.toArray 32)
  simp only [Ent.enc] at B1 B2 C2
  generalize (w.alloc (.cells [Value.int .i64 x.t, .int .i64 x.arg, .int .i64 x.tenant, .int .i64 x.person, .int .i64 x.kind, .int .i64 x.code].toArray 32)).alloc (.cells [Value.int .i64 y.t, .int .i64 y.arg, .int .i64 y.tenant, .int .i64 y.person, .int .i64 y.kind, .int .i64 y.code].toArray 32) = w2 at *
  generalize w.heap.size + 1 = b2 at *
  generalize w.heap.size = b1 at *
  obtain ⟨a0, a1, a2, a3, a4, a5⟩ := B1
  obtain ⟨d0, d1, d2, d3, d4, d5⟩ := B2
  have HC := Lib.hid C2
  clear C2
  go_region_held3 (fun w' => w'.cell? ⟨b1, 0, none⟩ = some (.int .i64 x.t) ∧ w'.cell? ⟨b1, 1, none⟩ = some (.int .i64 x.arg) ∧ w'.cell? ⟨b1, 2, none⟩ = some (.int .i64 x.tenant) ∧ w'.cell? ⟨b1, 3, none⟩ = some (.int .i64 x.person) ∧ w'.cell? ⟨b1, 4, none⟩ = some (.int .i64 x.kind) ∧ w'.cell? ⟨b1, 5, none⟩ = some (.int .i64 x.code) ∧ w'.cell? ⟨b2, 0, none⟩ = some (.int .i64 y.t) ∧ w'.cell? ⟨b2, 1, none⟩ = some (.int .i64 y.arg) ∧ w'.cell? ⟨b2, 2, none⟩ = some (.int .i64 y.tenant) ∧ w'.cell? ⟨b2, 3, none⟩ = some (.int .i64 y.person) ∧ w'.cell? ⟨b2, 4, none⟩ = some (.int .i64 y.kind) ∧ w'.cell? ⟨b2, 5, none⟩ = some (.int .i64 y.code)) (first | (simp [*]; done) | (refine ⟨?_, ?_, ?_, ?_, ?_, ?_, ?_, ?_, ?_, ?_, ?_, ?_⟩ <;> exact cell_al _ (by assumption))) (first | (go_at_call_of 55 (Value.int .i64 x.t); refine (k0 _).mono ?_; rintro e w' ⟨rfl, rfl⟩) | (go_at_call_of 56 (Value.int .i64 x.tenant); refine (k1 _).mono ?_; rintro e w' ⟨rfl, rfl⟩) | (go_at_call_of 56 (Value.int .i64 x.person); refine (k2 _).mono ?_; rintro e w' ⟨rfl, rfl⟩) | (go_at_call_of 56 (Value.int .i64 x.kind); refine (k3 _).mono ?_; rintro e w' ⟨rfl, rfl⟩) | (go_at_call_of 56 (Value.int .i64 x.code); refine (k4 _).mono ?_; rintro e w' ⟨rfl, rfl⟩) | (go_at_call_of 55 (Value.int .i64 x.arg); refine (k5 _).mono ?_; rintro e w' ⟨rfl, rfl⟩) | (go_at_call 54; refine (hor2 _).mono ?_; rintro e w' ⟨rfl, rfl⟩))
  have HD := Lib.hid (HC.out.alloc (.cells #[.int .i64 v0, .int .i64 v1, .int .i64 v2, .int .i64 v3, .int .i64 v4, .int .i64 v5] 3))
  go_wp2_with fail
  go_ret
  exact ⟨ret_bool HL.out.symm, HD.out.drew⟩

/-- an entry's numbers, laid in a row -/
theorem numbers_any (x : Ent) (w : World) : Calls Try.prog 57 #[x.val] w fun e w' => ∃ A, e = .returned (.slice A 6 6) ∧ Cls w' A (ints .i64 x.nums) ∧ Ch No w w' := by
  unfold Ent.val
  have H1 : ∀ w1 : World, Cls (w1.alloc (.cells #[.int .i64 x.t, .int .i64 x.tenant, .int .i64 x.person, .int .i64 x.kind, .int .i64 x.code, .int .i64 x.arg] 2)) (some ⟨w1.heap.size, 0, none⟩) (ints .i64 x.nums) := fun w1 => Cls.lit w1 2 (ints .i64 x.nums)
  have H2 := H1 (w.alloc (.cells #[.int .i64 x.t, .int .i64 x.arg, .int .i64 x.tenant, .int .i64 x.person, .int .i64 x.kind, .int .i64 x.code] 37))
  have HH := Lib.hid H2
  clear H1 H2
  go_enter Try.func57, Try.ntmps57
  go_wp2_with fail
  go_ret
  exact ⟨_, rfl, by simpa using HH.out, ((Ch.refl No w).alloc _).alloc _⟩

set_option maxHeartbeats 4000000 in
theorem RLess_any (x y : Ent) (w : World) : Calls Try.prog 38 #[x.val, y.val] w fun e w' => e = .returned (.bool (lessE x y)) ∧ Ch No w w' := by
  have hx := fun w => numbers_any x w
  have hy := fun w => numbers_any y w
  have HL : Hid (lessE x y = lexI x.nums y.nums) := Lib.hid rfl
  have hlx : x.nums.length = 6 := rfl
  have hly : y.nums.length = 6 := rfl
  generalize x.nums = xs at *
  generalize y.nums = ys at *
  have HN := Lib.hid (And.intro hlx hly)
  clear hlx hly
  have B1 : ∀ v : World, EBox ((v.alloc (.cells x.enc.toArray 37)).alloc (.cells y.enc.toArray 37)) v.heap.size x := fun v => ((Blk.new v 37 x.enc).alloc _).ebox
  have B2 : ∀ v : World, EBox ((v.alloc (.cells x.enc.toArray 37)).alloc (.cells y.enc.toArray 37)) (v.heap.size + 1) y := fun v => by
    have := (Blk.new (v.alloc (.cells x.enc.toArray 37)) 37 y.enc).ebox
    simpa using this
  have b1 := B1 w
  have b2 := B2 w
  have C2 := ((Ch.refl No w).alloc (.cells x.enc.toArray 37)).alloc (.cells y.enc.toArray 37)
  simp only [Ent.enc] at b1 b2 C2
  clear B1 B2
  unfold Ent.val
  unfold Ent.val at hx hy
  go_enter Try.func38, Try.ntmps38
  obtain ⟨a0, a1, a2, a3, a4, a5⟩ := b1
  obtain ⟨d0, d1, d2, d3, d4, d5⟩ := b2
  go_wp2_with fail
  refine (hx _).mono ?_
  rintro e w3 ⟨A1, rfl, s1, h1⟩
  have H3 := Lib.hid (And.intro (C2.trans h1) s1)
  replace d0 := h1.cell d0 (fun h => h)
  replace d1 := h1.cell d1 (fun h => h)
  replace d2 := h1.cell d2 (fun h => h)
  replace d3 := h1.cell d3 (fun h => h)
  replace d4 := h1.cell d4 (fun h => h)
  replace d5 := h1.cell d5 (fun h => h)
  clear h1 s1 C2 a0 a1 a2 a3 a4 a5 hx
  go_wp2_with fail
  refine (hy _).mono ?_
  rintro e w4 ⟨A2, rfl, s2, h2⟩
  have H4 := Lib.hid (And.intro (H3.out.1.trans h2) (And.intro (H3.out.2.ch h2 (fun _ _ h => h)) s2))
  clear h2 s2 H3 d0 d1 d2 d3 d4 d5 hy
  go_wp2_with fail
  go_loopw [7] (fun i wr => ∃ pre p q : List Int, Hid (xs = pre ++ p ∧ ys = pre ++ q ∧ lexI xs ys = lexI p q) ∧ i = .int .i64 pre.length ∧ Hid (Ch No w4 wr)) (fun i _ => 6 - (intOf i).toNat)
  case atStart => exact ⟨[], xs, ys, Lib.hid ⟨rfl, rfl, rfl⟩, rfl, Lib.hid (Ch.refl _ _)⟩
  case round =>
    obtain ⟨pre, p, q, hx, rfl, hw⟩ := hrel
    have e1 := congrArg List.length hx.out.1
    have e2 := congrArg List.length hx.out.2.1
    rw [HN.out.1, List.length_append] at e1
    rw [HN.out.2, List.length_append] at e2
    cases p with
    | nil =>
      have hxy : Hid (lessE x y = false) := Lib.hid (by rw [HL.out, hx.out.2.2]; simp [lexI])
      simp at e1
      clear e2
      go_wp2_with fail
      go_ret
      exact ⟨ret_bool hxy.out.symm, H4.out.1.trans hw.out⟩
    | cons u p =>
      cases q with
      | nil => simp at e1 e2; omega
      | cons v q =>
        obtain ⟨b1, o1, rfl, hc1⟩ := (H4.out.2.1.ch hw.out (fun _ _ h => h)).at hx.out.1
        obtain ⟨b2, o2, rfl, hc2⟩ := (H4.out.2.2.ch hw.out (fun _ _ h => h)).at hx.out.2.1
        have hlt : pre.length < 6 := by simp at e1; omega
        clear e1 e2
        by_cases huv : u = v
        · subst huv
          go_wp2_with fail
          go_region
          go_wp2_with fail
          go_roundw
          case rel => exact ⟨pre ++ [u], p, q, Lib.hid ⟨by rw [hx.out.1]; simp, by rw [hx.out.2.1]; simp, by rw [hx.out.2.2]; simp [lexI]⟩, by simp, Lib.hid hw.out.drew⟩
          case measure => simp [intOf]; omega
        · have hne : (u == v) = false := by simpa using huv
          have HX : Hid (lessE x y = decide (u < v)) := Lib.hid (by rw [HL.out, hx.out.2.2]; simp [lexI, huv])
          clear huv
          go_wp2_with fail
          go_region
          go_wp2_with fail
          go_region
          go_wp2_with fail
          go_ret
          exact ⟨ret_bool HX.out.symm, H4.out.1.trans hw.out.drew.drew⟩
end Go.Proofs.Ytflpelacjdnplaa
