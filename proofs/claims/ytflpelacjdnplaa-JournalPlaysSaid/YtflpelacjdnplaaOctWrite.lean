/- octet.Writer: what its methods come to. -/
import Derived.Test.YtflpelacjdnplaaOctMem
import Derived.Deep.RegionLaw
import Derived.Deep.AppendLies
namespace Go.Proofs.Ytflpelacjdnplaa
open Go.RowKit

theorem u8info : (Try.prog.info? 5).map (fun i => (i.zero, i.size, i.bytes)) = some (some (.int .u8 0), 1, 1) := by kernel_rfl

theorem oheld_any (n : Int) (w : World) : Calls Try.prog 63 #[.int .i64 n] w fun e w' => e = .returned (.int .i64 (heldB n)) ∧ w = w' := by
  by_cases h1 : n < 1
  · go_enter Try.func63, Try.ntmps63
    go_wp2
    go_ret
    exact ⟨ret_i64 (by unfold heldB; omega), rfl⟩
  · by_cases h2 : 8 < n
    · go_enter Try.func63, Try.ntmps63
      go_wp2
      go_ret
      exact ⟨ret_i64 (by unfold heldB; omega), rfl⟩
    · go_enter Try.func63, Try.ntmps63
      go_wp2
      go_ret
      exact ⟨ret_i64 (by unfold heldB; omega), rfl⟩

theorem putB_next (n r : Nat) : putB n (r + 1) = [((n / 256 ^ r % 256 : Nat) : Int)] ++ putB n r := rfl

set_option maxHeartbeats 2000000 in
set_option maxRecDepth 100000 in
theorem Put_any (n : Nat) (size : Int) (w : World) (B g : Nat) (k : Option Nat) (bs : List Int) (h : Wr w B g k bs) (hB : B ≤ w.heap.size) (hl : bs.length + 8 ≤ 100000000000000) :
    Calls Try.prog 59 #[.pointer (some ⟨g, 0, none⟩), .int .u64 n, .int .i64 size] w fun e w' => e = .returned (.tuple #[]) ∧ WrPost w B g k (bs ++ putB n (heldB size)) w' := by
  obtain ⟨hh1, hh8⟩ := heldB_le size
  obtain ⟨i0, hi0, hz0, hz1, hz2⟩ := info_parts u8info
  have ho := fun w => oheld_any size w
  generalize heldB size = s at *
  go_enter Try.func59, Try.ntmps59
  go_wp2_with fail
  refine (ho _).mono ?_
  rintro e w' ⟨rfl, rfl⟩
  clear ho
  go_wp2_with fail
  go_loopw [6] (fun i wr => ∃ (r : Nat) (pre : List Int) (k1 : Option Nat), r ≤ s ∧ i = .int .i64 ((r : Int) - 1) ∧ Hid (putB n s = pre ++ putB n r) ∧ Hid (Wr wr B g k1 (bs ++ pre)) ∧ Hid (Ch (WrS g k) w wr) ∧ Hid (WrK w k k1)) (fun i _ => (intOf i + 1).toNat)
  case atStart => exact ⟨s, [], k, by omega, by simp, rfl, by simpa [Hid] using h, Lib.hid (Ch.refl _ _), Lib.hid (WrK.refl _ _)⟩
  case round =>
    obtain ⟨r, pre, k1, hr, rfl, hp, hw, hc, hk⟩ := hrel
    cases r with
    | zero =>
      go_wp2_with fail
      go_end0
      refine ⟨rfl, k1, ?_, hc.out, hk.out⟩
      have := hp.out
      rw [this]
      simpa [putB] using hw.out
    | succ r =>
      have hlen : pre.length ≤ 8 := by
        have := congrArg List.length hp.out
        simp at this
        omega
      obtain ⟨ys, hys⟩ : ∃ ys, bs ++ pre = ys := ⟨_, rfl⟩
      have hyl : ys.length ≤ bs.length + 8 := by rw [← hys]; simp; omega
      rw [hys] at hw
      have HY := Lib.hid hys
      clear hys
      obtain ⟨A, c, hblk, hown, hkk⟩ := hw.out.ex
      have hne := hw.out.ne
      have f0 := hblk.frozen 0
      have c0 : wr.cell? ⟨g, 0, none⟩ = some (.slice A ys.length c) := hblk.cell 0
      have hgl := hblk.lt
      have hsz := hc.out.size
      have hneg : some g ≠ (Value.slice A ys.length c).ownBlock := by rw [hkk]; exact fun h => hne h.symm
      have hown2 : wr.ownsRow B 5 1 (.slice A ys.length c) ys.length (ints .u8 ys) := by simpa [OwnS] using hown
      have hr1 : ((r + 1 : Nat) : Int) - 1 = (r : Int) := by omega
      rw [hr1]
      have hm : IntKind.i64.wrap (8 * (r : Int)) = 8 * (r : Int) := by rw [IntKind.wrap_i64]; omega
      go_wp2_with fail
      have kc : ∀ o, (wr.alloc o).drew.cell? ⟨g, 0, none⟩ = some (.slice A ys.length c) := fun o => (World.cell?_alloc_past o g 0 hgl).trans c0
      have kf : ∀ o, (wr.alloc o).drew.frozen? ⟨g, 0, none⟩ = false := fun o => (World.frozen?_alloc_past o g 0 hgl).trans f0
      go_region_law
        ((refine step_append_lies _ (by rfl) _ _ _ (by rfl) B 5 i0 _ 1 1 Try.underlying58 hi0 hz0 hz1 hz2 rfl (by omega) (.slice A ys.length c) ys.length (ints .u8 ys) (by rfl) ((hown2.alloc _).drew)
              ⟨wr.heap.size, 0, none⟩ 1 1 [.int .u8 (IntKind.u8.wrap (↑n / 2 ^ (8 * (r : Int)).toNat))] (by rfl) (by rfl) (World.news_of_block (cs := #[.int .u8 (IntKind.u8.wrap (↑n / 2 ^ (8 * (r : Int)).toNat))]) (t := 5) (fr := (0, 0)) (heap_alloc_new wr _)) (by simp [Value.oneCell'])
              (by omega) (by simp [maxLen]; omega) (by simp; omega) (by simp; omega) (wr.heap.size + 1) (by simp) ?_; intro gg cap w1 hown1 hgrow hat hlt; have e1 := (hgrow.cell_far ⟨g, 0, none⟩ (by simp; omega) hneg).trans (kc _); have e2 := (hgrow.frozen_far ⟨g, 0, none⟩ (by simp; omega) hneg).trans (kf _)))
      all_goals
        have hp1 : WrPost wr B g k1 (ys ++ [((n / 256 ^ r % 256 : Nat) : Int)]) (w1.setCell ⟨g, 0, none⟩ (.slice (some ⟨gg, 0, none⟩) (ys.length + 1) cap)) := by
          have hz := wr_app (wa := (wr.alloc (.cells #[.int .u8 (IntKind.u8.wrap (↑n / 2 ^ (8 * (r : Int)).toNat))] 5)).drew) (news := [((n / 256 ^ r % 256 : Nat) : Int)]) (A1 := some ⟨gg, 0, none⟩) (c1 := cap) hblk hne (((Ch.refl No wr).alloc _).drew)
            (by have := hown1; rw [put_byte] at this; simpa [OwnS, ints] using this) (by rw [← hkk]; exact Ch.grown (S := fun i => (Value.slice A ys.length c).ownBlock = some i) (Ch.refl _ _) hgrow (fun i hi _ => hi))
            (by
              intro i hi
              obtain rfl : gg = i := by simpa [Value.ownBlock] using hi
              rcases hat with h | h
              · exact .inl (hkk ▸ h)
              · right; simp; omega)
          simpa using hz
        have HP := Lib.hid hp1
        clear hown1 hgrow hat hlt e1 e2 kc kf hm f0 c0 hneg hown2 hp1 hown hblk hkk
        go_wp2_with fail
        go_roundw
        case rel =>
          obtain ⟨k2, h1, h2, h3⟩ := HP.out
          refine ⟨r, pre ++ [((n / 256 ^ r % 256 : Nat) : Int)], k2, by omega, rfl, ?_, ?_, Lib.hid (hc.out.wr h2 hk.out), Lib.hid (hk.out.trans h3 hc.out.size)⟩
          · have := hp.out
            rw [putB_next] at this
            simpa [Hid] using this
          · rw [← List.append_assoc, HY.out]
            exact Lib.hid h1
        case measure => simp [intOf]

end Go.Proofs.Ytflpelacjdnplaa
