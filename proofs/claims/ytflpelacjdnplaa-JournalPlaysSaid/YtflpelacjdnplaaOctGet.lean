/- octet.Reader: Get: what it comes to. -/
import Derived.Test.YtflpelacjdnplaaOctRead
namespace Go.Proofs.Ytflpelacjdnplaa
open Go.RowKit

/-- bytes as a number -/
def getN (xs : List Int) : Nat := xs.foldl (fun a x => 256 * a + x.toNat) 0
theorem getN_snoc (xs : List Int) (x : Int) : getN (xs ++ [x]) = 256 * getN xs + x.toNat := by simp [getN]
theorem getN_lt {xs : List Int} (h : ∀ x ∈ xs, isB x) : getN xs < 256 ^ xs.length := by
  have H : ∀ ys : List Int, (∀ x ∈ ys, isB x) → getN ys.reverse < 256 ^ ys.length := by
    intro ys
    induction ys with
    | nil => intro _; simp [getN]
    | cons y ys ih =>
      intro hy
      rw [List.reverse_cons, getN_snoc, List.length_cons, Nat.pow_succ]
      have h1 := ih (fun x hx => hy x (List.mem_cons_of_mem _ hx))
      have h2 := hy y (by simp)
      unfold isB at h2
      omega
  have := H xs.reverse (fun x hx => h x (by simpa using hx))
  simpa using this
theorem or_byte (m k : Nat) (hm : m < 72057594037927936) (hk : k < 256) : bits .or .u64 ((m : Int) * 256) (k : Int) = ((256 * m + k : Nat) : Int) := by
  have e : ((m : Int) * 256) = ((256 * m : Nat) : Int) := by omega
  rw [e, u64_or_nat _ _ (by omega) (by omega)]
  have := Nat.two_pow_add_eq_or_of_lt (i := 8) (b := k) (by omega) m
  rw [show (256 : Nat) = 2 ^ 8 from rfl, ← this]
theorem tkO_mem {xs : List Int} {bad : Bool} {n : Nat} {x : Int} (h : x ∈ tkO xs bad n) : x ∈ xs := by
  unfold tkO at h
  split at h
  · simp at h
  · exact List.mem_of_mem_take h
theorem tkO_len (xs : List Int) (bad : Bool) (n : Nat) : (tkO xs bad n).length ≤ n := by
  unfold tkO
  split
  · simp
  · simp; omega

/-- a number has come, the reader stands behind it -/
def GetP (w : World) (g : Nat) (A : Option Addr) (xs : List Int) (bad : Bool) (n : Nat) (v : Value) (e : Ending) (w' : World) : Prop :=
  ∃ A2 c2, e = .returned v ∧ Rdr w' g A2 c2 (tkR xs bad n) (tkB xs bad n) ∧ (∀ a, A2 = some a → ∃ a0, A = some a0 ∧ a.block = a0.block) ∧ Ch (Only g) w w'

set_option maxHeartbeats 1000000 in
theorem Get_any (w : World) (g : Nat) (A : Option Addr) (c : Nat) (xs : List Int) (bad : Bool) (h : Rdr w g A c xs bad) (hb : ∀ x ∈ xs, isB x) (size : Int) :
    Calls Try.prog 48 #[.pointer (some ⟨g, 0, none⟩), .int .i64 size] w (GetP w g A xs bad (heldB size) (.int .u64 (getN (tkO xs bad (heldB size)) : Nat))) := by
  obtain ⟨hh1, hh8⟩ := heldB_le size
  have ho := fun w => oheld_any size w
  generalize heldB size = s at *
  have HT := Lib.hid (take_any w g A c xs bad h s (by omega))
  have hl := tkO_len xs bad s
  have hy : ∀ x ∈ tkO xs bad s, isB x := fun x hx => hb x (tkO_mem hx)
  have HY := Lib.hid hy
  clear h hy hb
  unfold TakeP at HT
  generalize tkO xs bad s = ys at *
  go_enter Try.func48, Try.ntmps48
  go_wp2_with fail
  refine (ho _).mono ?_
  rintro e w' ⟨rfl, rfl⟩
  clear ho
  go_wp2_with fail
  refine HT.out.mono ?_
  rintro e w1 ⟨A1, c1, A2, c2, rfl, h1, h2, h3, h4, h5⟩
  have HP : Hid (GetP w g A xs bad s (.int .u64 (getN ys : Nat)) (.returned (.int .u64 (getN ys : Nat))) w1) := Lib.hid ⟨A2, c2, rfl, h3, h4, h5⟩
  have HC := Lib.hid h1
  clear h1 h2 h3 h4 h5 HT
  go_wp2_with fail
  go_loop [5, 7, 13] (fun n _ i => ∃ pre post : List Int, Hid (ys = pre ++ post) ∧ i = .int .i64 pre.length ∧ n = .int .u64 (getN pre : Nat)) (fun _ _ i => ys.length - (intOf i).toNat)
  case atStart => exact ⟨[], ys, rfl, rfl, rfl⟩
  case round =>
    obtain ⟨pre, post, hx, rfl, rfl⟩ := hrel
    cases post with
    | nil =>
      obtain rfl : pre = ys := by have := hx.out; simpa using this.symm
      go_wp2_with fail
      go_ret
      exact HP.out
    | cons x post =>
      have hlen : pre.length < ys.length := by rw [hx.out]; simp
      obtain ⟨blk, off, rfl, hcx⟩ := HC.out.at hx.out
      have hxb := HY.out x (by rw [hx.out]; simp)
      unfold isB at hxb
      have hp := getN_lt (xs := pre) (fun y hy => HY.out y (by rw [hx.out]; simp [hy]))
      have hp2 : 256 ^ pre.length ≤ 256 ^ 7 := Nat.pow_le_pow_right (by decide) (by omega)
      obtain ⟨m, hm⟩ : ∃ m, getN pre = m := ⟨_, rfl⟩
      rw [hm] at hp ⊢
      have hmm : m < 72057594037927936 := by have : (256 : Nat) ^ 7 = 72057594037927936 := rfl; omega
      have HM := Lib.hid hm
      clear hm hp hp2
      go_wp2_with fail
      go_round
      case rel =>
        refine ⟨pre ++ [x], post, by rw [hx.out]; simp [Hid], by simp, ?_⟩
        obtain ⟨k, rfl⟩ : ∃ k : Nat, x = k := ⟨x.toNat, by omega⟩
        rw [getN_snoc, HM.out, or_byte m k hmm (by omega)]
        simp
      case measure => simp [intOf]; omega
end Go.Proofs.Ytflpelacjdnplaa
