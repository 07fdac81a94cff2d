/- octet.Reader: Int: what it comes to. -/
import Derived.Test.YtflpelacjdnplaaOctGet
import Derived.Test.YtflpelacjdnplaaSign
namespace Go.Proofs.Ytflpelacjdnplaa
open Go.RowKit

theorem hld_8 (s : Nat) (hs : s ≤ 8) : hld (8 * (s : Int)) = 8 * s := by unfold hld; omega

theorem RInt_any (w : World) (g : Nat) (A : Option Addr) (c : Nat) (xs : List Int) (bad : Bool) (h : Rdr w g A c xs bad) (hb : ∀ x ∈ xs, isB x) (size : Int) :
    Calls Try.prog 47 #[.pointer (some ⟨g, 0, none⟩), .int .i64 size] w (GetP w g A xs bad (heldB size) (.int .i64 (sgn (getN (tkO xs bad (heldB size))) (8 * heldB size)))) := by
  obtain ⟨hh1, hh8⟩ := heldB_le size
  have ho := fun w => oheld_any size w
  have HG := Lib.hid (Get_any w g A c xs bad h hb size)
  clear h hb
  generalize heldB size = s at *
  generalize getN (tkO xs bad s) = m at *
  have hs := fun w => Sign_any m (8 * (s : Int)) w
  rw [hld_8 s hh8] at hs
  go_enter Try.func47, Try.ntmps47
  go_wp2_with fail
  refine HG.out.mono ?_
  rintro e w1 ⟨A2, c2, rfl, h1⟩
  have H1 := Lib.hid h1
  clear h1 HG
  go_wp2_with fail
  refine (ho _).mono ?_
  rintro e w2 ⟨rfl, rfl⟩
  clear ho
  go_wp2_with fail
  refine (hs _).mono ?_
  rintro e w3 ⟨rfl, rfl⟩
  clear hs
  go_wp2_with fail
  go_ret
  exact ⟨A2, c2, rfl, H1.out⟩
end Go.Proofs.Ytflpelacjdnplaa
