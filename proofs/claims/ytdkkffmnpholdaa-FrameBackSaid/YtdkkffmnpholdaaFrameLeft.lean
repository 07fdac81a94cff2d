/- FrameLeft: what is left is the end of the bytes, and has no frame: the walk. -/
import Derived.Test.YtdkkffmnpholdaaFrameSizes
namespace Go.Proofs.Ytdkkffmnpholdaa
open Go.RowKit

theorem wrp_of {xs b r : List Int} (hb : ∀ x ∈ xs, isB x) (h : nxt xs = .ok b r) : xs = wrp b ++ r := by
  obtain ⟨h1, h2, h3, h4, h5, h6, h7⟩ := nxt_ok h
  have hw : wrp b = xs.take 2 ++ b := by
    unfold wrp
    congr 1
    rw [h6, putB2]
    obtain ⟨x0, x1, t, rfl⟩ : ∃ x0 x1 t, xs = x0 :: x1 :: t := by
      cases xs with
      | nil => simp at h1
      | cons x0 xs =>
        cases xs with
        | nil => simp at h1
        | cons x1 r => exact ⟨x0, x1, r, rfl⟩
    have b0 := hb x0 (by simp)
    have b1 := hb x1 (by simp)
    unfold isB at b0 b1
    simp [two, getN]
    omega
  rw [hw]
  exact h7
theorem spl_join {xs : List Int} {bs : List (List Int)} {l : List Int} {e : Int} (h : Spl xs bs l e) (hb : ∀ x ∈ xs, isB x) : bs.flatMap wrp ++ l = xs := by
  induction h with
  | short h => rfl
  | long h => rfl
  | ok h t ih =>
    rw [List.flatMap_cons, List.append_assoc, ih (nxt_mem h _ hb).2]
    exact (wrp_of hb h).symm
theorem spl_end {xs : List Int} {bs : List (List Int)} {l : List Int} {e : Int} (h : Spl xs bs l e) : (e = 0 ∧ nxt l = .short) ∨ (e = 2 ∧ nxt l = .long) := by
  induction h with
  | short h => exact .inl ⟨rfl, h⟩
  | long h => exact .inr ⟨rfl, h⟩
  | ok h t ih => exact ih

set_option maxHeartbeats 8000000 in
set_option maxRecDepth 100000 in
theorem frameLeft_core (W : World) (A : Option Addr) (c : Nat) (xs : List Int) (hx : Cls W A (ints .u8 xs)) (hb : ∀ x ∈ xs, isB x) (hl : xs.length ≤ 140737488351232) :
    Calls Try.prog 6 #[.slice A xs.length c] W fun e w' => e = .returned (.bool true) ∧ Ch No W w' := by
  have HX := Lib.hid (And.intro hx hb)
  clear hx hb
  go_enter Try.func6, Try.ntmps6
  go_wp2_with fail
  refine (frmAlive_any _).mono ?_
  rintro e w0 ⟨rfl, C0⟩
  have HC0 := Lib.hid C0
  clear C0
  by_cases h30 : 3000 < xs.length
  · go_wp2_with fail
    go_ret
    exact ⟨rfl, HC0.out⟩
  go_wp2_with fail
  obtain ⟨bs, l, er, hs⟩ := spl_all xs
  refine (FSplit_any w0 A c xs bs l er hs (HX.out.1.ch HC0.out (fun _ _ h => h)) HX.out.2 (by omega)).mono ?_
  rintro e w1 ⟨O, co, L, cl, rfl, B1, L1, h1⟩
  have hjl := spl_len hs
  have hjo := spl_join hs HX.out.2
  have hbl : bs.length ≤ 3000 := by omega
  have hll : l.length ≤ 3000 := by omega
  have hend := spl_end hs
  have H1 : Hid (Bds w1 O bs ∧ Cls w1 L (ints .u8 l) ∧ Ch No W w1) := Lib.hid ⟨B1, L1, HC0.out.trans h1⟩
  have HP : Hid ((∀ b ∈ bs, (∀ x ∈ b, isB x) ∧ b.length ≤ 1024) ∧ (∀ x ∈ l, isB x) ∧ bs.flatMap wrp ++ l = xs ∧ xs.length ≤ 3000) :=
    Lib.hid ⟨fun b hb => ⟨(spl_mem hs _ HX.out.2).1 b hb, (hjl.2.1 b hb).2⟩, (spl_mem hs _ HX.out.2).2, hjo, by omega⟩
  clear B1 L1 h1 hjl hjo hs HC0
  have HS : Hid (OwnS (w1.alloc (.cells #[] 5)) w1.heap.size 5 (.slice (some ⟨w1.heap.size, 0, none⟩) 0 0) (ints .u8 []) ∧ Ch No w1 (w1.alloc (.cells #[] 5))) :=
    Lib.hid ⟨by simpa [ints] using OwnS.lit w1 w1.heap.size 5 [] (Nat.le_refl _) (by simp), (Ch.refl No w1).alloc _⟩
  go_wp2_with fail
  go_loopw [6, 8, 9, 10, 28] (fun ag _ _ _ i wr => ∃ (pre post : List (List Int)) (ac : List Int) (Ag : Option Addr) (cg : Nat), Hid (bs = pre ++ post ∧ ac = pre.flatMap wrp) ∧ i = .int .i64 pre.length ∧ ag = .slice Ag ac.length cg ∧ Hid (OwnS wr w1.heap.size 5 (.slice Ag ac.length cg) (ints .u8 ac) ∧ Ch No w1 wr)) (fun _ _ _ _ i _ => bs.length - (intOf i).toNat)
  case atStart => exact ⟨[], bs, [], _, _, Lib.hid ⟨rfl, rfl⟩, rfl, rfl, HS⟩
  case round =>
    clear HS
    obtain ⟨pre, post, ac, Ag, cg, hx, rfl, rfl, hst⟩ := hrel
    have hacl : ac.length ≤ 3000 := by
      have h1 := HP.out.2.2.1
      have h2 := HP.out.2.2.2
      rw [hx.out.1, List.flatMap_append, ← hx.out.2] at h1
      have := congrArg List.length h1
      simp only [List.length_append] at this
      omega
    cases post with
    | nil =>
      obtain rfl : pre = bs := by have := hx.out.1; simpa using this.symm
      have hfin : ac ++ l = xs := by rw [hx.out.2]; exact HP.out.2.2.1
      have HF := Lib.hid hfin
      clear hfin
      rcases hend with ⟨rfl, hn⟩ | ⟨rfl, hn⟩
      all_goals
        have q := FNext_any wr L cl l (H1.out.2.1.ch hst.out.2 (fun _ _ h => h)) HP.out.2.1 (by omega)
        rw [hn] at q
        unfold NextP at q
        simp only [Nx.body, Nx.rest, Nx.err] at q
        have HQ := Lib.hid q
        clear q hn
        go_wp2_with fail
        refine HQ.out.mono ?_
        rintro e w2 ⟨A4, c4, A5, c5, rfl, _, _, _, _, _, _, h2⟩
        have H2 := Lib.hid (And.intro (hst.out.1.ch h2 (fun _ _ h => h)) (hst.out.2.trans h2))
        clear h2 hst HQ
        go_wp2_with (at_builtin; refine appI rfl _ _ 22 5 rfl .u8 0 1 Try.underlying22 u8info w1.heap.size Ag cg ac rfl H2.out.1 L cl l rfl (H1.out.2.1.ch H2.out.2 (fun _ _ h => h)) ?hn ?hb ?hB ?_)
        case hn => simp [maxLen]; omega
        case hb => omega
        case hB => exact H2.out.2.size
        intro A6 c6 w3 o3 h3 _
        have C3 : Ch No w1 w3 := H2.out.2.trans' h3 (fun i hi he => by have := (H2.out.1.ge i he).1; omega)
        obtain ⟨A6', c6', e3, X3, _⟩ := o3.slice_ints
        obtain ⟨rfl, rfl⟩ : A6 = A6' ∧ c6 = c6' := by simpa using e3
        have hlen3 : (ac ++ l).length = ac.length + l.length := by simp
        have q := Same_any w3 A6 c6 (ac ++ l) A c xs X3 (HX.out.1.ch (H1.out.2.2.trans C3) (fun _ _ h => h)) (by rw [HF.out]; exact HX.out.2) HX.out.2
        rw [show decide (ac ++ l = xs) = true from by simpa using HF.out, hlen3] at q
        have HQ := Lib.hid (And.intro q (H1.out.2.2.trans C3))
        clear q hlen3 o3 h3 C3 e3 X3 H2
        go_wp2_with fail
        refine HQ.out.1.mono ?_
        rintro e w4 ⟨rfl, rfl⟩
        go_wp2_with fail
        go_ret
        exact ⟨rfl, HQ.out.2⟩
    | cons x post =>
      have hlen : pre.length < bs.length := by rw [hx.out.1]; simp
      obtain ⟨b, off, A1, c1, rfl, hcx, X1⟩ := (H1.out.1.no hst.out.2).at hx.out.1
      obtain ⟨hxb, hxl⟩ := HP.out.1 x (by rw [hx.out.1]; simp)
      have q := FWrap_ok wr A1 c1 x X1 hxl
      obtain ⟨fs, hfs⟩ : ∃ fs, wrp x = fs := ⟨_, rfl⟩
      rw [hfs] at q
      have hfl : fs.length ≤ 1026 := by rw [← hfs]; simp; omega
      have HQ := Lib.hid q
      have HFS := Lib.hid hfs
      clear q hfs X1 hxb hxl
      go_wp2_with fail
      refine HQ.out.mono ?_
      rintro e w2 ⟨A2, c2, rfl, o2, h2⟩
      obtain ⟨A2', c2', e2, X2, _⟩ := o2.slice_ints
      obtain ⟨rfl, rfl⟩ : A2 = A2' ∧ c2 = c2' := by simpa using e2
      have H2 := Lib.hid (And.intro (hst.out.1.ch h2 (fun _ _ h => h)) (And.intro X2 (hst.out.2.trans h2)))
      clear o2 h2 e2 X2 hst HQ
      go_wp2_with (at_builtin; refine appI rfl _ _ 22 5 rfl .u8 0 1 Try.underlying22 u8info w1.heap.size Ag cg ac rfl H2.out.1 A2 c2 fs rfl H2.out.2.1 ?hn ?hb ?hB ?_)
      case hn => simp [maxLen]; omega
      case hb => omega
      case hB => exact H2.out.2.2.size
      intro A3 c3 w3 o3 h3 _
      have HF : Hid (OwnS w3 w1.heap.size 5 (.slice A3 (ac ++ fs).length c3) (ints .u8 (ac ++ fs)) ∧ Ch No w1 w3) := Lib.hid ⟨by simpa using o3, H2.out.2.2.trans' h3 (fun i hi he => by have := (H2.out.1.ge i he).1; omega)⟩
      clear o3 h3 H2
      go_wp2_with fail
      go_roundw
      case rel => exact ⟨pre ++ [x], post, ac ++ fs, A3, c3, Lib.hid ⟨by rw [hx.out.1]; simp, by rw [hx.out.2, ← HFS.out]; simp⟩, by simp, by simp, HF⟩
      case measure => simp [intOf]; omega

theorem frameLeft_walk (W : World) (a0 : Option Addr) (cap0 : Nat) (xs0 : List Int) (c0 : Cls W a0 (ints .u8 xs0)) (_l0 : xs0.length ≤ cap0) (b0 : xs0.length * 1 ≤ 140737488351232) (w0 : ∀ x ∈ xs0, (Lit.int .u8 x).wf = true) :
    Calls Try.prog 6 #[.slice a0 xs0.length cap0] W fun e w' => e = .returned (.bool true) ∧ Below W.heap.size W w' :=
  (frameLeft_core W a0 cap0 xs0 c0 (isB_of w0) (by omega)).mono fun e w' ⟨h1, h2⟩ => ⟨h1, h2.same⟩
end Go.Proofs.Ytdkkffmnpholdaa
