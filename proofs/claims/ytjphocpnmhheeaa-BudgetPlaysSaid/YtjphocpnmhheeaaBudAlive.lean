/- The chapter's own example (budget): the walk. -/
import Derived.Test.YtjphocpnmhheeaaBudNew
import Derived.Test.YtjphocpnmhheeaaBudPoor2
import Derived.Test.YtjphocpnmhheeaaBudRef
namespace Go.Proofs.Ytjphocpnmhheeaa
open Go.RowKit

theorem Led.no {W w w' : World} {B g : Nat} {k : Option Nat} {l : List Acc} (hW : Ch No W w) (h : Led w B g k l) (hB : W.heap.size ≤ B) (hc : Ch (fun j => k = some j) w w') : Ch No W w' :=
  hW.trans' hc (fun i hi he => by have := (h.klt he).1; omega)

set_option maxHeartbeats 4000000 in
theorem budAlive_any (W : World) : Calls Try.prog 23 #[] W fun e w' => e = .returned (.bool true) ∧ Ch No W w' := by
  go_enter Try.func23, Try.ntmps23
  go_wp2_with fail
  refine (BNew_any (W.alloc (.cells #[.int .i64 1, .int .i64 (-3), .int .i64 9] 3)) (some ⟨W.heap.size, 0, none⟩) 3 [1, -3, 9] ?hc (by simp [wfI]) (by simp)).mono ?_
  case hc =>
    have b := Blk.new W 3 [.int .i64 1, .int .i64 (-3), .int .i64 9]
    intro pre v post e
    refine ⟨W.heap.size, 0, rfl, ?_⟩
    rw [Nat.zero_add, b.cell]
    have e' : [Value.int .i64 1, .int .i64 (-3), .int .i64 9] = pre ++ v :: post := e
    rw [e']
    simp
  rintro e w1 ⟨g, k, rfl, L1, hg1, h1⟩
  have C1 := ((Ch.refl No W).alloc (.cells #[.int .i64 1, .int .i64 (-3), .int .i64 9] 3)).trans h1
  have HB : W.heap.size ≤ (W.alloc (.cells #[.int .i64 1, .int .i64 (-3), .int .i64 9] 3)).heap.size := by simp
  generalize (W.alloc (.cells #[.int .i64 1, .int .i64 (-3), .int .i64 9] 3)).heap.size = B at *
  have HL1 := Lib.hid (And.intro L1 C1)
  clear L1 C1 h1
  go_wp2_with fail
  refine (BSpend_any w1 B g k _ HL1.out.1 0).mono ?_
  rintro e w2 ⟨rfl, L2, h2⟩
  have HL2 := Lib.hid (And.intro L2 (Led.no HL1.out.2 HL1.out.1 HB h2))
  clear L2 h2 HL1
  rw [show spendE (newL [1, -3, 9]) 0 = 0 from by decide]
  go_wp2_with fail
  refine (BSpend_any w2 B g k _ HL2.out.1 0).mono ?_
  rintro e w3 ⟨rfl, L3, h3⟩
  have HL3 := Lib.hid (And.intro L3 (Led.no HL2.out.2 HL2.out.1 HB h3))
  clear L3 h3 HL2
  rw [show spendE (spendL (newL [1, -3, 9]) 0) 0 = 32 from by decide]
  go_wp2_with fail
  refine (BSpend_any w3 B g k _ HL3.out.1 1).mono ?_
  rintro e w4 ⟨rfl, L4, h4⟩
  have HL4 := Lib.hid (And.intro L4 (Led.no HL3.out.2 HL3.out.1 HB h4))
  clear L4 h4 HL3
  rw [show spendE (spendL (spendL (newL [1, -3, 9]) 0) 0) 1 = 32 from by decide]
  go_wp2_with fail
  refine (BSpend_any w4 B g k _ HL4.out.1 3).mono ?_
  rintro e w5 ⟨rfl, L5, h5⟩
  have HL5 := Lib.hid (And.intro L5 (Led.no HL4.out.2 HL4.out.1 HB h5))
  clear L5 h5 HL4
  rw [show spendE (spendL (spendL (spendL (newL [1, -3, 9]) 0) 0) 1) 3 = 4 from by decide]
  have el2 : leftI (spendL (spendL (spendL (spendL (newL [1, -3, 9]) 0) 0) 1) 3) 2 = 9 := by decide
  have ee2 : errI (spendL (spendL (spendL (spendL (newL [1, -3, 9]) 0) 0) 1) 3) 2 = 0 := by decide
  have ee3 : errI (spendL (spendL (spendL (spendL (newL [1, -3, 9]) 0) 0) 1) 3) (-1) = 4 := by decide
  have es0 : spentI (spendL (spendL (spendL (spendL (newL [1, -3, 9]) 0) 0) 1) 3) 0 = 1 := by decide
  have en : (spendL (spendL (spendL (spendL (newL [1, -3, 9]) 0) 0) 1) 3).length = 3 := by decide
  have ep : ((poorAll (spendL (spendL (spendL (spendL (newL [1, -3, 9]) 0) 0) 1) 3)).take (9 : Int).toNat).length = 2 := by decide
  generalize spendL (spendL (spendL (spendL (newL [1, -3, 9]) 0) 0) 1) 3 = L at *
  have HE := Lib.hid (And.intro el2 (And.intro ee2 (And.intro ee3 (And.intro es0 (And.intro en ep)))))
  clear el2 ee2 ee3 es0 en ep
  go_wp2_with fail
  have q := BLeft_any w5 B g k L HL5.out.1 2
  rw [HE.out.1, HE.out.2.1] at q
  refine q.mono ?_
  rintro e w6 ⟨rfl, h6⟩
  have HL6 := Lib.hid (And.intro (HL5.out.1.ch h6 (fun h => h) (fun _ _ h => h)) (HL5.out.2.trans h6))
  clear q h6 HL5
  go_wp2_with fail
  have q := BLeft_any w6 B g k L HL6.out.1 (-1)
  rw [HE.out.2.2.1] at q
  refine q.mono ?_
  rintro e w7 ⟨rfl, h7⟩
  have HL7 := Lib.hid (And.intro (HL6.out.1.ch h7 (fun h => h) (fun _ _ h => h)) (HL6.out.2.trans h7))
  clear q h7 HL6
  go_wp2_with fail
  have q := BSpent_any w7 B g k L HL7.out.1 0
  rw [HE.out.2.2.2.1] at q
  refine q.mono ?_
  rintro e w8 ⟨rfl, rfl⟩
  clear q
  go_wp2_with fail
  have q := BLen_any w7 B g k L HL7.out.1
  rw [HE.out.2.2.2.2.1] at q
  refine q.mono ?_
  rintro e w8 ⟨rfl, rfl⟩
  clear q
  go_wp2_with fail
  refine (poor_any w7 B g k L HL7.out.1 (by have := HE.out.2.2.2.2.1; omega) 9).mono ?_
  rintro e w8 ⟨v, rfl, o8, h8⟩
  obtain ⟨A8, c8, rfl, _⟩ := o8.slice_ints
  rw [HE.out.2.2.2.2.2]
  have HC := Lib.hid (HL7.out.2.trans h8)
  clear o8 h8
  go_wp2_with fail
  go_ret
  exact ⟨rfl, HC.out⟩
end Go.Proofs.Ytjphocpnmhheeaa
