/- The reference's reader: what Num comes to. -/
import Derived.Test.YtflpelacjdnplaaRefRead
namespace Go.Proofs.Ytflpelacjdnplaa
open Go.RowKit

set_option maxHeartbeats 2000000 in
theorem RNum2_any (w : World) (A : Option Addr) (c : Nat) (xs : List Int) (bad : Bool) (h : Cls w A (ints .u8 xs)) (hb : ∀ x ∈ xs, isB x) (hc : xs.length ≤ c) (hm : xs.length ≤ 100000000000000) (size : Int) :
    Calls Try.prog 49 #[rdV A xs.length c bad, .int .i64 size] w fun e w' =>
      ∃ A2 c2, e = .returned (.tuple #[rdV A2 (tkR xs bad (heldB size)).length c2 (tkB xs bad (heldB size)), .int .i64 (sgn (getN (tkO xs bad (heldB size))) (8 * heldB size))]) ∧ Cls w' A2 (ints .u8 (tkR xs bad (heldB size))) ∧ Ch No w w' ∧ (tkR xs bad (heldB size)).length ≤ c2 := by
  obtain ⟨hh1, hh8⟩ := heldB_le size
  have ho := fun w => RHeld_18 size w
  have hget := fun w' (hC : Ch No w w') => RGet2_any w' A c xs bad (h.ch hC (fun _ _ h => h)) hb hc hm size
  have hl := tkO_len xs bad (heldB size)
  have hy : ∀ x ∈ tkO xs bad (heldB size), isB x := fun x hx => hb x (tkO_mem hx)
  have hg64 : getN (tkO xs bad (heldB size)) < 2 ^ 64 := by
    have h1 := getN_lt hy
    have h2 : 256 ^ (tkO xs bad (heldB size)).length ≤ 256 ^ 8 := Nat.pow_le_pow_right (by decide) (by omega)
    have h3 : (256 : Nat) ^ 8 = 2 ^ 64 := by decide
    omega
  have hsg := fun w => RSign_any (getN (tkO xs bad (heldB size))) (8 * (heldB size : Int)) w hg64
  rw [show hld (8 * (heldB size : Int)) = 8 * heldB size from by unfold hld; omega] at hsg
  clear h hy hb hl hg64
  generalize heldB size = s at *
  generalize getN (tkO xs bad s) = m at *
  generalize tkR xs bad s = zs at *
  generalize tkB xs bad s = b2 at *
  generalize sgn m (8 * s) = v at *
  unfold rdV at *
  have hx1 : IntKind.i64.wrap (8 * (s : Int)) = 8 * (s : Int) := by rw [IntKind.wrap_i64]; omega
  have HH := Lib.hid (And.intro ho (And.intro hget hsg))
  clear ho hget hsg
  go_enter Try.func49, Try.ntmps49
  go_wp2_with fail
  have B0 : Blk ((w.alloc (.cells #[.slice A xs.length c, .bool bad] 98)).alloc (.cells #[.slice none 0 0, .bool false] 98)) w.heap.size 98 [.slice A xs.length c, .bool bad] := (Blk.new w 98 [.slice A xs.length c, .bool bad]).alloc _
  have B4 : Blk ((w.alloc (.cells #[.slice A xs.length c, .bool bad] 98)).alloc (.cells #[.slice none 0 0, .bool false] 98)) (w.heap.size + 1) 98 [.slice none 0 0, .bool false] := by simpa using Blk.new (w.alloc (.cells #[.slice A xs.length c, .bool bad] 98)) 98 [.slice none 0 0, .bool false]
  have C2 : Ch No w ((w.alloc (.cells #[.slice A xs.length c, .bool bad] 98)).alloc (.cells #[.slice none 0 0, .bool false] 98)) := ((Ch.refl No w).alloc _).alloc _
  refine (HH.out.2.1 _ C2).mono ?_
  rintro e w1 ⟨A2, c2, rfl, L1, h5, hc2⟩
  have B1 := B0.ch h5 (fun h => h)
  have B5 := B4.ch h5 (fun h => h)
  have C3 := C2.trans h5
  have f0 := B1.frozen 0
  have f1 := B1.frozen 1
  have q0 := B1.cell 0
  have q1 := B1.cell 1
  simp only [List.getElem?_cons_zero, List.getElem?_cons_succ] at q0 q1
  have HL := Lib.hid (And.intro L1 (And.intro B1 (And.intro B5 C3)))
  clear B0 B4 C2 B1 B5 C3 L1 h5
  go_wp2_with fail
  have C3 : Ch (Only w.heap.size) w1 ((w1.setCell ⟨w.heap.size, 0, none⟩ (.slice A2 zs.length c2)).setCell ⟨w.heap.size, 1, none⟩ (.bool b2)) := ((Ch.refl (Only w.heap.size) w1).setCell (p := ⟨w.heap.size, 0, none⟩) (fun _ => rfl) _).setCell (p := ⟨w.heap.size, 1, none⟩) (fun _ => rfl) _
  have HN : Hid (Blk ((w1.setCell ⟨w.heap.size, 0, none⟩ (.slice A2 zs.length c2)).setCell ⟨w.heap.size, 1, none⟩ (.bool b2)) w.heap.size 98 [.slice A2 zs.length c2, .bool b2] ∧ Blk ((w1.setCell ⟨w.heap.size, 0, none⟩ (.slice A2 zs.length c2)).setCell ⟨w.heap.size, 1, none⟩ (.bool b2)) (w.heap.size + 1) 98 [.slice none 0 0, .bool false] ∧ Ch No w ((w1.setCell ⟨w.heap.size, 0, none⟩ (.slice A2 zs.length c2)).setCell ⟨w.heap.size, 1, none⟩ (.bool b2)) ∧
      Cls ((w1.setCell ⟨w.heap.size, 0, none⟩ (.slice A2 zs.length c2)).setCell ⟨w.heap.size, 1, none⟩ (.bool b2)) A2 (ints .u8 zs)) :=
    Lib.hid ⟨(HL.out.2.1.set 0 _).set 1 _, HL.out.2.2.1.ch C3 (fun h => by have h' : w.heap.size + 1 = w.heap.size := h; omega), HL.out.2.2.2.trans' C3 (fun i hi he => by have h' : i = w.heap.size := he; omega), HL.out.1.keep HL.out.2.1 (by simp) C3⟩
  generalize (w1.setCell ⟨w.heap.size, 0, none⟩ (.slice A2 zs.length c2)).setCell ⟨w.heap.size, 1, none⟩ (.bool b2) = w3 at *
  clear f0 f1 q0 q1 HL C3
  have k0 := HN.out.1.cell 0
  have k1 := HN.out.1.cell 1
  have f0 := HN.out.2.1.frozen 0
  have f1 := HN.out.2.1.frozen 1
  have q0 := HN.out.2.1.cell 0
  have q1 := HN.out.2.1.cell 1
  simp only [List.getElem?_cons_zero, List.getElem?_cons_succ] at k0 k1 q0 q1
  go_region_with (first | (go_at_call 41; refine (HH.out.1 _).mono ?_; rintro e w' ⟨rfl, rfl⟩) | (go_at_call 65; refine (HH.out.2.2 _).mono ?_; rintro e w' ⟨rfl, rfl⟩))
  all_goals
    go_wp2_with fail
    have C5 : Ch (Only (w.heap.size + 1)) w3 ((w3.setCell ⟨w.heap.size + 1, 0, none⟩ (.slice A2 zs.length c2)).setCell ⟨w.heap.size + 1, 1, none⟩ (.bool b2)).drew := (((Ch.refl (Only (w.heap.size + 1)) w3).setCell (p := ⟨w.heap.size + 1, 0, none⟩) (fun _ => rfl) _).setCell (p := ⟨w.heap.size + 1, 1, none⟩) (fun _ => rfl) _).drew
    have B5 : Blk ((w3.setCell ⟨w.heap.size + 1, 0, none⟩ (.slice A2 zs.length c2)).setCell ⟨w.heap.size + 1, 1, none⟩ (.bool b2)).drew (w.heap.size + 1) 98 [.slice A2 zs.length c2, .bool b2] := (HN.out.2.1.set 0 (.slice A2 zs.length c2)).set 1 (.bool b2)
    have L5 := HN.out.2.2.2.keep HN.out.2.1 (by simp) C5
    have C6 := HN.out.2.2.1.trans' C5 (fun i hi he => by have h' : i = w.heap.size + 1 := he; omega)
    generalize ((w3.setCell ⟨w.heap.size + 1, 0, none⟩ (.slice A2 zs.length c2)).setCell ⟨w.heap.size + 1, 1, none⟩ (.bool b2)).drew = w5 at *
    have z0 := B5.cell 0
    have z1 := B5.cell 1
    simp only [List.getElem?_cons_zero, List.getElem?_cons_succ] at z0 z1
    exact bodyPost_ret (v := .tuple #[.agg #[.slice A2 zs.length c2, .bool b2], .int .i64 v]) (by simp [results, Try.results49, go_sem, z0, z1]) rfl ⟨A2, c2, rfl, L5, C6, hc2⟩
end Go.Proofs.Ytflpelacjdnplaa
