/- FrameNone: empty bodies are frames, too: the walk. -/
import Derived.Laws.MakeOwn
import Derived.Test.YtdkkffmnpholdaaFrameLeft
namespace Go.Proofs.Ytdkkffmnpholdaa
open Go.RowKit

theorem run_make8 (w : World) (zs : List Int) (m : Nat) (hz : zs = List.replicate m 0) (hm : m ≤ 1000000) (n : Int) (hn : n = m) :
    (Instr.makeSlice 22 (.int .i64 n) (.int .i64 n)).run Try.prog w = .ok (.slice (some ⟨w.heap.size, 0, none⟩) zs.length zs.length) (w.alloc (.cells (ints .u8 zs).toArray 5)) := by
  obtain ⟨i0, hi, h0, h1, h2⟩ := info_parts u8info
  subst hn
  subst hz
  rw [run_makeSlice w 22 5 i0 (.int .u8 0) Try.underlying22 hi h0 .i64 .i64 m m (by omega) (Int.le_refl _) (by rw [h1]; simp; omega) (by rw [h2]; omega) (by omega)]
  rw [Int.toNat_natCast, h1, Nat.mul_one, List.length_replicate]
  congr 3
  apply Array.ext
  · simp [madeCells, Value.cells]
  · intro i h1 h2
    simp [madeCells, Value.cells, ints, Nat.mod_one]

theorem nxt_zeros (k : Nat) : nxt (List.replicate (k + 2) (0 : Int)) = .ok [] (List.replicate k 0) := by
  unfold nxt two
  rw [List.take_replicate, show min 2 (k + 2) = 2 from by omega]
  simp [getN]
  rfl
theorem spl_zeros (n : Nat) (ex : Bool) : Spl (List.replicate (2 * n) (0 : Int) ++ if ex then [0] else []) (List.replicate n []) (if ex then [0] else []) 0 := by
  have e : ∀ m : Nat, (List.replicate m (0 : Int) ++ if ex then [0] else []) = List.replicate (m + if ex then 1 else 0) 0 := by
    intro m
    cases ex
    · simp
    · simp [List.replicate_succ']
  induction n with
  | zero =>
    refine .short ?_
    unfold nxt
    rw [if_pos (by cases ex <;> simp)]
  | succ n ih =>
    rw [List.replicate_succ (n := n)]
    refine .ok (r := List.replicate (2 * n) (0 : Int) ++ if ex then [0] else []) ?_ ih
    rw [e, e, show 2 * (n + 1) + (if ex then 1 else 0) = (2 * n + if ex then 1 else 0) + 2 from by omega]
    exact nxt_zeros _
theorem and31 (n : Int) : ∃ r : Nat, r < 32 ∧ bits .and .i64 n 31 = r := by
  have h := i64_mask n 5 (by decide)
  have e : ((2 : Int) ^ 5 - 1) = 31 := rfl
  rw [e] at h
  refine ⟨(n % 32).toNat, by omega, ?_⟩
  rw [h]
  omega

set_option maxHeartbeats 8000000 in
set_option maxRecDepth 100000 in
theorem frameNone_core (W : World) (n most : Int) (ex : Bool) :
    Calls Try.prog 8 #[.int .i64 n, .int .i64 most, .bool ex] W fun e w' => e = .returned (.bool true) ∧ Ch No W w' := by
  obtain ⟨r, hr, k1⟩ := and31 n
  obtain ⟨m, hm, k2⟩ := and31 most
  obtain ⟨zs, hzs⟩ : ∃ zs, zs = List.replicate (2 * r) (0 : Int) := ⟨_, rfl⟩
  obtain ⟨bs, hbs⟩ : ∃ bs, bs = List.replicate r ([] : List Int) := ⟨_, rfl⟩
  have hmk := fun w => run_make8 w zs (2 * r) hzs (by omega) (2 * (r : Int)) (by omega)
  have hzl : zs.length ≤ 62 := by rw [hzs]; simp; omega
  have hzb : ∀ x ∈ zs, isB x := by
    intro x hx
    rw [hzs] at hx
    rw [(List.mem_replicate.1 hx).2]
    unfold isB
    omega
  have hbl : bs.length = r := by rw [hbs]; simp
  have hs := spl_zeros r ex
  rw [← hzs, ← hbs] at hs
  -- as many as are asked for
  have htk : ∀ (k : Nat) (ps : List Prt), ps.map (·.bs) = bs.take k → ps.length = min k r := fun k ps h => by
    have := congrArg List.length h
    rw [List.length_map, List.length_take, hbl] at this
    exact this
  have HB := Lib.hid (And.intro hzb (And.intro hs htk))
  have hbr : (bs.length : Int) = r := by omega
  clear hzs hbs hzb hs htk hbl
  go_enter Try.func8, Try.ntmps8
  go_wp2_with fail
  refine (frmAlive_any _).mono ?_
  rintro e w0 ⟨rfl, C0⟩
  have HC0 := Lib.hid C0
  clear C0
  have o1 : OwnS (w0.alloc (.cells (ints .u8 zs).toArray 5)) w0.heap.size 5 (.slice (some ⟨w0.heap.size, 0, none⟩) zs.length zs.length) (ints .u8 zs) := by
    have := OwnS.lit w0 w0.heap.size 5 (ints .u8 zs) (Nat.le_refl _) (by simp [maxLen]; omega)
    simpa using this
  have hcase : (m < r ∧ min m r = m) ∨ (m = r ∧ min m r = r) ∨ (r < m ∧ min m r = r) := by omega
  obtain ⟨u, hu⟩ : ∃ u, min m r = u := ⟨_, rfl⟩
  rw [hu] at hcase
  have HU := Lib.hid hu
  clear hu
  cases ex with
  | false =>
    go_wp2_with fail
    have H1 : Hid (Cls (w0.alloc (.cells (ints .u8 zs).toArray 5)) (some ⟨w0.heap.size, 0, none⟩) (ints .u8 zs) ∧ Spl zs bs [] 0 ∧ (∀ x ∈ zs, isB x) ∧ Ch No W (w0.alloc (.cells (ints .u8 zs).toArray 5))) := by
      obtain ⟨A', c', e1, X1, _⟩ := o1.slice_ints
      have e2 : some ⟨w0.heap.size, 0, none⟩ = A' := (Value.slice.inj e1).1
      rw [← e2] at X1
      have hs := HB.out.2.1
      simp only [Bool.false_eq_true, if_false, List.append_nil] at hs
      exact Lib.hid ⟨X1, hs, HB.out.1, HC0.out.alloc _⟩
    have q := FSplit_any _ _ zs.length zs bs [] 0 H1.out.2.1 H1.out.1 H1.out.2.2.1 (by omega)
    skip
    have HQ := Lib.hid q
    have q2 := fun w' h (k : Int) => fall_any w' (some ⟨w0.heap.size, 0, none⟩) zs.length (zs) bs [] 0 H1.out.2.1 h H1.out.2.2.1 (by omega) k
    skip
    have HQ2 := Lib.hid q2
    clear q q2
    clear o1 hmk
    rcases hcase with ⟨hc, hu⟩ | ⟨rfl, hu⟩ | ⟨hc, hu⟩
    all_goals
      go_wp2_with fail
      refine HQ.out.mono ?_
      rintro e w2 ⟨O, co, L, cl, rfl, _, _, h2⟩
      have H2 : Hid (Cls w2 (some ⟨w0.heap.size, 0, none⟩) (ints .u8 (zs)) ∧ Ch No W w2) := Lib.hid ⟨H1.out.1.ch h2 (fun _ _ h => h), H1.out.2.2.2.trans h2⟩
      clear h2
      go_wp2_with fail
      refine (HQ2.out w2 H2.out.1 _).mono ?_
      rintro e w3 ⟨v3, ps3, rfl, hp3, o3, h3⟩
      have hl3 : (ps3.map Prt.enc).length = u := by
        rw [List.length_map, HB.out.2.2 _ _ hp3, Int.toNat_natCast]
        exact HU.out
      obtain ⟨A3, c3, rfl, _, _⟩ := o3.slice
      rw [hl3]
      have H3 : Hid (Cls w3 (some ⟨w0.heap.size, 0, none⟩) (ints .u8 (zs)) ∧ Ch No W w3) := Lib.hid ⟨H2.out.1.ch h3 (fun _ _ h => h), H2.out.2.trans h3⟩
      clear hp3 hl3 o3 h3
      go_wp2_with fail
      refine (HQ2.out w3 H3.out.1 100).mono ?_
      rintro e w4 ⟨v4, ps4, rfl, hp4, o4, h4⟩
      have hl4 : (ps4.map Prt.enc).length = bs.length := by
        have e1 : (100 : Int).toNat = 100 := rfl
        rw [List.length_map, HB.out.2.2 _ _ hp4, e1]
        omega
      obtain ⟨A4, c4, rfl, _, _⟩ := o4.slice
      rw [hl4]
      have H4 := Lib.hid (H3.out.2.trans h4)
      clear hp4 hl4 o4 h4
      go_wp2_with fail
      go_ret
      exact ⟨rfl, H4.out⟩
  | true =>
    go_wp2_with (at_builtin; refine app1ig rfl _ _ 22 5 rfl .u8 0 1 Try.underlying22 u8info w0.heap.size (some ⟨w0.heap.size, 0, none⟩) zs.length zs 0 rfl o1 _ 1 rfl (by simp) ?hn ?hb ?hB ?_)
    case hn => simp [maxLen]; omega
    case hb => omega
    case hB => simp
    intro g2 c2 w2 o2 h2 _
    obtain ⟨A', c', e1, X1, _⟩ := o2.slice_ints
    have e2 : some ⟨g2, 0, none⟩ = A' := (Value.slice.inj e1).1
    rw [← e2] at X1
    have hs := HB.out.2.1
    simp only [if_true] at hs
    have C2 : Ch No W w2 := (HC0.out.alloc _).trans' h2 (fun i hi he => by
      have he' : w0.heap.size = i := by simpa [Value.ownBlock] using he
      have := HC0.out.size
      omega)
    have H1 : Hid (Cls w2 (some ⟨g2, 0, none⟩) (ints .u8 (zs ++ [0])) ∧ Spl (zs ++ [0]) bs [0] 0 ∧ (∀ x ∈ zs ++ [0], isB x) ∧ Ch No W w2) :=
      Lib.hid ⟨X1, hs, fun x hx => (List.mem_append.1 hx).elim (HB.out.1 x) (fun h => by rw [show x = 0 from by simpa using h]; unfold isB; omega), C2⟩
    have hlen1 : (zs ++ [(0 : Int)]).length = zs.length + 1 := by simp
    clear o2 h2 e1 e2 X1 hs C2
    have q := FSplit_any w2 (some ⟨g2, 0, none⟩) c2 (zs ++ [0]) bs [0] 0 H1.out.2.1 H1.out.1 H1.out.2.2.1 (by rw [hlen1]; omega)
    rw [hlen1] at q
    have HQ := Lib.hid q
    have q2 := fun w' h (k : Int) => fall_any w' (some ⟨g2, 0, none⟩) c2 ((zs ++ [0])) bs [0] 0 H1.out.2.1 h H1.out.2.2.1 (by rw [hlen1]; omega) k
    rw [hlen1] at q2
    have HQ2 := Lib.hid q2
    clear q q2
    clear o1 hmk
    rcases hcase with ⟨hc, hu⟩ | ⟨rfl, hu⟩ | ⟨hc, hu⟩
    all_goals
      go_wp2_with fail
      refine HQ.out.mono ?_
      rintro e w2 ⟨O, co, L, cl, rfl, _, _, h2⟩
      have H2 : Hid (Cls w2 (some ⟨g2, 0, none⟩) (ints .u8 ((zs ++ [0]))) ∧ Ch No W w2) := Lib.hid ⟨H1.out.1.ch h2 (fun _ _ h => h), H1.out.2.2.2.trans h2⟩
      clear h2
      go_wp2_with fail
      refine (HQ2.out w2 H2.out.1 _).mono ?_
      rintro e w3 ⟨v3, ps3, rfl, hp3, o3, h3⟩
      have hl3 : (ps3.map Prt.enc).length = u := by
        rw [List.length_map, HB.out.2.2 _ _ hp3, Int.toNat_natCast]
        exact HU.out
      obtain ⟨A3, c3, rfl, _, _⟩ := o3.slice
      rw [hl3]
      have H3 : Hid (Cls w3 (some ⟨g2, 0, none⟩) (ints .u8 ((zs ++ [0]))) ∧ Ch No W w3) := Lib.hid ⟨H2.out.1.ch h3 (fun _ _ h => h), H2.out.2.trans h3⟩
      clear hp3 hl3 o3 h3
      go_wp2_with fail
      refine (HQ2.out w3 H3.out.1 100).mono ?_
      rintro e w4 ⟨v4, ps4, rfl, hp4, o4, h4⟩
      have hl4 : (ps4.map Prt.enc).length = bs.length := by
        have e1 : (100 : Int).toNat = 100 := rfl
        rw [List.length_map, HB.out.2.2 _ _ hp4, e1]
        omega
      obtain ⟨A4, c4, rfl, _, _⟩ := o4.slice
      rw [hl4]
      have H4 := Lib.hid (H3.out.2.trans h4)
      clear hp4 hl4 o4 h4
      go_wp2_with fail
      go_ret
      exact ⟨rfl, H4.out⟩

theorem frameNone_walk (W : World) (a0 a1 : Int) (a2 : Bool) (_w0 : (Lit.int .i64 a0).wf = true) (_w1 : (Lit.int .i64 a1).wf = true) :
    Calls Try.prog 8 #[.int .i64 a0, .int .i64 a1, .bool a2] W fun e w' => e = .returned (.bool true) ∧ Below W.heap.size W w' :=
  (frameNone_core W a0 a1 a2).mono fun _ _ ⟨h1, h2⟩ => ⟨h1, h2.same⟩
end Go.Proofs.Ytdkkffmnpholdaa
