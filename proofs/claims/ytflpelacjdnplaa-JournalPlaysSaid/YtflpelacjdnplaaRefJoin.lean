/- The reference's Join: what it comes to. -/
import Derived.Test.YtflpelacjdnplaaRefs
import Derived.Test.YtflpelacjdnplaaOctClone
namespace Go.Proofs.Ytflpelacjdnplaa
open Go.RowKit

/-- a part: a slice of bytes, as a value -/
structure Prt where
  A : Option Addr
  c : Nat
  bs : List Int
def Prt.enc (p : Prt) : Value := .slice p.A p.bs.length p.c

set_option maxHeartbeats 2000000 in
theorem RJoin_any (w : World) (P : Option Addr) (cp : Nat) (ps : List Prt) (h : Cls w P (ps.map Prt.enc)) (hp : ∀ p ∈ ps, Cls w p.A (ints .u8 p.bs)) (hl : ps.length ≤ 1000000) (hn : ∀ p ∈ ps, p.bs.length ≤ 1000000) :
    Calls Try.prog 44 #[.slice P ps.length cp] w (MadeS w (ps.flatMap (·.bs))) := by
  have HP := Lib.hid (And.intro h (And.intro hp hn))
  clear h hp hn
  go_enter Try.func44, Try.ntmps44
  go_wp2_with fail
  have S0 : Hid (OwnS (w.alloc (.cells #[] 5)) w.heap.size 5 (.slice (some ⟨w.heap.size, 0, none⟩) 0 0) (ints .u8 []) ∧ Ch No w (w.alloc (.cells #[] 5))) :=
    Lib.hid ⟨by simpa [ints] using OwnS.lit w w.heap.size 5 [] (Nat.le_refl _) (by simp), (Ch.refl No w).alloc _⟩
  go_loopw [3, 4] (fun out i wr => ∃ pre post : List Prt, Hid (ps = pre ++ post) ∧ i = .int .i64 pre.length ∧ Hid (OwnS wr w.heap.size 5 out (ints .u8 (pre.flatMap (·.bs))) ∧ Ch No w wr)) (fun _ i _ => ps.length - (intOf i).toNat)
  case atStart => exact ⟨[], ps, rfl, rfl, S0⟩
  case round =>
    clear S0
    obtain ⟨pre, post, hx, rfl, hst⟩ := hrel
    have hacc : (pre.flatMap (·.bs)).length ≤ 1000000 * pre.length := by
      have : ∀ p ∈ pre, p.bs.length ≤ 1000000 := fun p hm => HP.out.2.2 p (by rw [hx.out]; simp [hm])
      clear hst hx
      induction pre with
      | nil => simp
      | cons p pre ih =>
        have h1 := ih (fun p hm => this p (List.mem_cons_of_mem _ hm))
        have h2 := this p (by simp)
        rw [List.flatMap_cons, List.length_append, List.length_cons]
        omega
    obtain ⟨acc, hac⟩ : ∃ acc, pre.flatMap (·.bs) = acc := ⟨_, rfl⟩
    rw [hac] at hst hacc
    have HAC := Lib.hid hac
    clear hac
    obtain ⟨Ax, cx, rfl, _⟩ := hst.out.1.slice_ints
    cases post with
    | nil =>
      obtain rfl : pre = ps := by have := hx.out; simpa using this.symm
      go_wp2_with fail
      go_ret
      exact ⟨Ax, cx, by rw [HAC.out]; rfl, by rw [HAC.out]; exact hst.out.1, hst.out.2⟩
    | cons p post =>
      have hlen : pre.length < ps.length := by rw [hx.out]; simp
      have hpn := HP.out.2.2 p (by rw [hx.out]; simp)
      obtain ⟨b, off, rfl, hc⟩ := HP.out.1 (pre.map Prt.enc) p.enc (post.map Prt.enc) (by rw [hx.out]; simp)
      rw [List.length_map] at hc
      have hcx := hst.out.2.cell hc (fun h => h)
      unfold Prt.enc at hcx
      have HL := Lib.hid ((HP.out.2.1 p (by rw [hx.out]; simp)).ch hst.out.2 (fun _ _ h => h))
      clear hc
      go_wp2_with (at_builtin; refine appI rfl _ _ 58 5 rfl .u8 0 1 Try.underlying58 u8info w.heap.size Ax cx acc rfl hst.out.1 p.A p.c p.bs rfl HL.out ?hn ?hb ?hB ?_)
      case hn => simp [maxLen]; omega
      case hb => omega
      case hB => exact hst.out.2.size
      intro A1 c1 w2 o2 h2 _
      have HO : Hid (OwnS w2 w.heap.size 5 (.slice A1 (acc.length + p.bs.length) c1) (ints .u8 ((pre ++ [p]).flatMap (·.bs))) ∧ Ch No w w2) := by
        refine Lib.hid ⟨?_, hst.out.2.trans' h2 (fun i hi he => ?_)⟩
        · rw [List.flatMap_append, HAC.out]
          simpa using o2
        · have := (hst.out.1.ge i he).1
          omega
      clear o2 h2 hst HL
      go_wp2_with fail
      go_roundw
      case rel => exact ⟨pre ++ [p], post, by rw [hx.out]; simp [Hid], by simp, HO⟩
      case measure => simp [intOf]; omega
end Go.Proofs.Ytflpelacjdnplaa
