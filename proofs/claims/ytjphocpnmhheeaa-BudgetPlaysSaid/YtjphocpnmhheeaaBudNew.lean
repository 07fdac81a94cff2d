/- A new ledger; the reference's small functions. -/
import Derived.Test.YtjphocpnmhheeaaBudWalk
namespace Go.Proofs.Ytjphocpnmhheeaa
open Go.RowKit

theorem infoAcc : (Try.prog.info? 79).map (fun i => (i.zero, i.size, i.bytes)) = some (some (.agg #[.int .i64 0, .int .i64 0]), 2, 16) := by kernel_rfl

def newL (xs : List Int) : List Acc := xs.map fun n => ⟨max n 0, 0⟩
theorem newL_snoc (xs : List Int) (n : Int) : newL (xs ++ [n]) = newL xs ++ [⟨max n 0, 0⟩] := by simp [newL]
@[simp] theorem newL_len (xs : List Int) : (newL xs).length = xs.length := by simp [newL]

set_option maxHeartbeats 2000000 in
theorem BNew_any (w : World) (A : Option Addr) (c : Nat) (xs : List Int) (h : Cls w A (ints .i64 xs)) (hw : ∀ x ∈ xs, wfI x) (hl : xs.length ≤ 1000000) :
    Calls Try.prog 24 #[.slice A xs.length c] w fun e w' => ∃ g k, e = .returned (.pointer (some ⟨g, 0, none⟩)) ∧ Led w' w.heap.size g k (newL xs) ∧ w.heap.size ≤ g ∧ Ch No w w' := by
  have HX := Lib.hid (And.intro h hw)
  clear h hw
  go_enter Try.func24, Try.ntmps24
  go_wp2_with fail
  have L0 : Hid (∃ k, Led (w.alloc (.cells #[.slice none 0 0] 77)) w.heap.size w.heap.size k (newL []) ∧ Ch No w (w.alloc (.cells #[.slice none 0 0] 77))) :=
    Lib.hid ⟨none, ⟨⟨_, Blk.new w 77 [.slice none 0 0], World.ownsRow_nil _ _ _ _, rfl⟩, by simp, by simp [newL]⟩, (Ch.refl No w).alloc _⟩
  go_loopw [5, 10] (fun _ i wr => ∃ pre post : List Int, Hid (xs = pre ++ post) ∧ i = .int .i64 pre.length ∧ Hid (∃ k, Led wr w.heap.size w.heap.size k (newL pre) ∧ Ch No w wr)) (fun _ i _ => xs.length - (intOf i).toNat)
  case atStart => exact ⟨[], xs, rfl, rfl, L0⟩
  case round =>
    clear L0
    obtain ⟨pre, post, hx, rfl, hst⟩ := hrel
    cases post with
    | nil =>
      obtain rfl : pre = xs := by have := hx.out; simpa using this.symm
      go_wp2_with fail
      go_ret
      obtain ⟨k, h1, h2⟩ := hst.out
      exact ⟨_, k, rfl, h1, Nat.le_refl _, h2⟩
    | cons n post =>
      have hlen : pre.length < xs.length := by rw [hx.out]; simp
      obtain ⟨k, hL, hC⟩ := hst.out
      obtain ⟨b, off, rfl, hcx⟩ := (HX.out.1.ch hC (fun _ _ h => h)).at hx.out
      have hwn := HX.out.2 n (by rw [hx.out]; simp)
      unfold wfI at hwn
      obtain ⟨v, hb, hr, hv⟩ := hL.ex
      have q0 : wr.cell? ⟨w.heap.size, 0, none⟩ = some v := hb.cell 0
      have f0 := hb.frozen 0
      have hlt := hL.lt
      obtain ⟨m, hm⟩ : ∃ m, max n 0 = m := ⟨_, rfl⟩
      have hs := newL_snoc pre n
      rw [hm] at hs
      obtain ⟨ys, hys⟩ : ∃ ys, pre ++ [n] = ys := ⟨_, rfl⟩
      have hxy : Hid (xs = ys ++ post ∧ ys.length = pre.length + 1) := Lib.hid ⟨by rw [← hys, hx.out]; simp, by rw [← hys]; simp⟩
      rw [hys] at hs
      clear hys
      have hm0 : 0 ≤ m := by omega
      have hm1 : m ≤ 9223372036854775807 := by omega
      have HH := Lib.hid (And.intro hs (And.intro hL (And.intro hC (And.intro hb (And.intro hr hv)))))
      have hcase : (n < 0 ∧ m = 0) ∨ (n = 0 ∧ m = 0) ∨ (0 < n ∧ m = n) := by omega
      clear hst hs hL hC hb hr hv hm
      rcases hcase with ⟨hn, rfl⟩ | ⟨rfl, rfl⟩ | ⟨hn, rfl⟩
      all_goals
        go_wp2_with (at_builtin; refine appZ rfl _ _ 75 79 rfl (.agg #[.int .i64 0, .int .i64 0]) 2 16 Try.underlying75 infoAcc rfl (by decide) w.heap.size v pre.length (flat (newL pre)) _ rfl (rowZ_ch (by simpa using HH.out.2.2.2.2.1) ((Ch.refl No wr).alloc _) (fun _ _ h => h)) wr.heap.size 1 rfl (Blk.new wr _ _) rfl (by simp [Value.oneCell']) ?hn ?hb ?hB ?_)
        case hn => simp [maxLen]; omega
        case hb => omega
        case hB => first | omega | (simp; omega)
        intro g1 c1 w1 r1 h1 hat
        have hkne := HH.out.2.1.ne
        have hg1 : g1 ≠ w.heap.size := by
          rcases hat with hat | hat
          · intro e; rw [HH.out.2.2.2.2.2, e] at hat; exact hkne hat
          · have hat' : wr.heap.size + 1 ≤ g1 := by simpa using hat
            omega
        have hS : ¬ (v.ownBlock = some w.heap.size) := fun e => hkne (by rw [← HH.out.2.2.2.2.2, e])
        have b1 := (HH.out.2.2.2.1.alloc _).ch h1 hS
        have f1 := b1.frozen 0
        have q1 : w1.cell? ⟨w.heap.size, 0, none⟩ = some v := b1.cell 0
        have C1 := (HH.out.2.2.1.alloc _).trans' h1 (fun i hi he => by
          have := HH.out.2.1.klt (i := i) (by rw [← HH.out.2.2.2.2.2]; exact he)
          omega)
        have HR := Lib.hid (And.intro r1 (And.intro b1 C1))
        have hlt1 := b1.lt
        clear r1 h1 hat b1 C1 hS q0 f0 hkne hlt
        go_wp2_with fail
        have C2 : Ch (Only w.heap.size) w1 (w1.setCell ⟨w.heap.size, 0, none⟩ (.slice (some ⟨g1, 0, none⟩) (pre.length + 1) c1)) := (Ch.refl (Only w.heap.size) w1).setCell (p := ⟨w.heap.size, 0, none⟩) (fun _ => rfl) _
        have HF : Hid (∃ k, Led (w1.setCell ⟨w.heap.size, 0, none⟩ (.slice (some ⟨g1, 0, none⟩) (pre.length + 1) c1)) w.heap.size w.heap.size k (newL ys) ∧ Ch No w (w1.setCell ⟨w.heap.size, 0, none⟩ (.slice (some ⟨g1, 0, none⟩) (pre.length + 1) c1))) := by
          refine Lib.hid ⟨some g1, ⟨⟨_, HR.out.2.1.set 0 _, ?_, rfl⟩, by simpa using hg1, ?_⟩, HR.out.2.2.trans' C2 (fun i hi he => by have he' : i = w.heap.size := he; omega)⟩
          · rw [HH.out.1, flat_app, List.length_append, newL_len]
            exact rowZ_ch HR.out.1 C2 (fun i hi he => hg1 (by have h1 : some g1 = some i := hi; have h2 : i = w.heap.size := he; simp at h1; omega))
          · rw [HH.out.1]
            intro a ha
            rcases List.mem_append.1 ha with ha | ha
            · exact HH.out.2.1.ok a ha
            · obtain rfl := by simpa using ha
              exact ⟨Int.le_refl _, by simp only; omega, by simp only; omega⟩
        clear C2 HR HH
        go_roundw
        case rel => exact ⟨ys, post, hxy.out.1, by rw [hxy.out.2]; rfl, HF⟩
        case measure => simp [intOf]; omega
end Go.Proofs.Ytjphocpnmhheeaa
