/- octet.Reader: what its methods come to. -/
import Derived.Test.YtflpelacjdnplaaOctClone
import Derived.Deep.LoopGhost
namespace Go.Proofs.Ytflpelacjdnplaa
open Go.RowKit

/-- what comes of asking for n bytes: these bytes, what is left, whether more was asked for -/
def tkB (xs : List Int) (bad : Bool) (n : Nat) : Bool := bad || decide (xs.length < n)
def tkO (xs : List Int) (bad : Bool) (n : Nat) : List Int := if tkB xs bad n then [] else xs.take n
def tkR (xs : List Int) (bad : Bool) (n : Nat) : List Int := if tkB xs bad n then xs else xs.drop n

theorem tk_all {xs : List Int} {n : Nat} (h : xs.length = n) : tkO xs false n = xs ∧ tkR xs false n = [] ∧ tkB xs false n = false := by
  subst h
  simp [tkO, tkR, tkB]
/-- what a reader's step leaves: bytes that lie where the reader's lie, the reader behind them -/
def TakeP (w : World) (g : Nat) (A : Option Addr) (xs : List Int) (bad : Bool) (n : Nat) (e : Ending) (w' : World) : Prop :=
  ∃ A1 c1 A2 c2, e = .returned (.slice A1 (tkO xs bad n).length c1) ∧ Cls w' A1 (ints .u8 (tkO xs bad n)) ∧ (∀ a, A1 = some a → ∃ a0, A = some a0 ∧ a.block = a0.block) ∧
    Rdr w' g A2 c2 (tkR xs bad n) (tkB xs bad n) ∧ (∀ a, A2 = some a → ∃ a0, A = some a0 ∧ a.block = a0.block) ∧ Ch (Only g) w w'

theorem take_ok (w : World) (g : Nat) (A : Option Addr) (c : Nat) (xs : List Int) (n : Nat) (h : Rdr w g A c xs false) (hn : n ≤ xs.length) (A2 : Option Addr) (hA : (c = n ∧ A2 = A) ∨ A2 = A.map (·.add n)) :
    TakeP w g A xs false n (.returned (.slice A n n)) (w.setCell ⟨g, 0, none⟩ (.slice A2 (xs.length - n) (c - n))) := by
  have hb : tkB xs false n = false := by simp [tkB]; omega
  have e1 : tkO xs false n = xs.take n := by simp [tkO, hb]
  have e2 : tkR xs false n = xs.drop n := by simp [tkR, hb]
  have hle := h.le
  have hmx := h.max
  have hC : Ch (Only g) w (w.setCell ⟨g, 0, none⟩ (.slice A2 (xs.length - n) (c - n))) := (Ch.refl (Only g) w).setCell (p := ⟨g, 0, none⟩) (fun _ => rfl) _
  have hblk : ∀ a, A2 = some a → ∃ a0, A = some a0 ∧ a.block = a0.block := by
    rintro a rfl
    rcases hA with ⟨_, hA⟩ | hA
    · exact ⟨a, hA.symm, rfl⟩
    · cases A with
      | none => cases hA
      | some a0 =>
        refine ⟨a0, rfl, ?_⟩
        have : a = a0.add n := by simpa using hA
        rw [this]
        unfold Addr.add
        split <;> rfl
  refine ⟨A, n, A2, c - n, ?_, ?_, fun a ha => ⟨a, ha, rfl⟩, ⟨?_, ?_, ?_, ?_, by omega⟩, hblk, hC⟩
  · rw [e1, List.length_take, Nat.min_eq_left hn]
  · rw [e1, ints_take]
    exact (h.cls.ch hC (fun a ha he => h.ne a ha he)).takeI n
  · rw [e2, hb, List.length_drop]
    exact h.blk.set 0 _
  · rw [e2, ints_drop]
    have hc := h.cls.ch hC (fun a ha he => h.ne a ha he)
    rcases hA with ⟨h1, rfl⟩ | rfl
    · rw [List.drop_eq_nil_of_le (by simp; omega)]
      exact Cls.nil _ _
    · exact hc.dropI n
  · rw [e2, List.length_drop]
    omega
  · intro a ha
    obtain ⟨a0, h0, h1⟩ := hblk a ha
    rw [h1]
    exact h.ne a0 h0

set_option maxHeartbeats 1000000 in
theorem take_any (w : World) (g : Nat) (A : Option Addr) (c : Nat) (xs : List Int) (bad : Bool) (h : Rdr w g A c xs bad) (n : Nat) (hn : n ≤ 9223372036854775807) :
    Calls Try.prog 64 #[.pointer (some ⟨g, 0, none⟩), .int .i64 n] w (TakeP w g A xs bad n) := by
  have q0 : w.cell? ⟨g, 0, none⟩ = some (.slice A xs.length c) := h.blk.cell 0
  have q1 : w.cell? ⟨g, 1, none⟩ = some (.bool bad) := h.blk.cell 1
  have f0 := h.blk.frozen 0
  have f1 := h.blk.frozen 1
  have hle := h.le
  have hmx := h.max
  unfold maxLen at hmx
  have HR := Lib.hid h
  clear h
  by_cases hb : tkB xs bad n = true
  · have e1 : tkO xs bad n = [] := by simp [tkO, hb]
    have e2 : tkR xs bad n = xs := by simp [tkR, hb]
    have HP : Hid (Rdr (w.setCell ⟨g, 1, none⟩ (.bool true)) g A c xs true) := Lib.hid ⟨HR.out.blk.set 1 _, HR.out.cls.ch (S := Only g) ((Ch.refl (Only g) w).setCell (p := ⟨g, 1, none⟩) (fun _ => rfl) _) (fun a ha he => HR.out.ne a ha he), HR.out.le, HR.out.ne, HR.out.max⟩
    have HC : Hid (Ch (Only g) w (w.setCell ⟨g, 1, none⟩ (.bool true))) := Lib.hid ((Ch.refl (Only g) w).setCell (p := ⟨g, 1, none⟩) (fun _ => rfl) _)
    have hq : bad = true ∨ xs.length < n := by simpa [tkB] using hb
    have HB := Lib.hid hb
    clear hb
    cases bad with
    | true =>
      go_enter Try.func64, Try.ntmps64
      go_wp2_with fail
      go_ret
      exact ⟨none, 0, A, c, by rw [e1]; rfl, by rw [e1]; exact Cls.nil _ _, (fun a ha => by cases ha), by rw [e2, HB.out]; exact HP.out, (fun a ha => ⟨a, ha, rfl⟩), HC.out⟩
    | false =>
      have hlt : xs.length < n := by simpa using hq
      go_enter Try.func64, Try.ntmps64
      go_wp2_with fail
      go_ret
      exact ⟨none, 0, A, c, by rw [e1]; rfl, by rw [e1]; exact Cls.nil _ _, (fun a ha => by cases ha), by rw [e2, HB.out]; exact HP.out, (fun a ha => ⟨a, ha, rfl⟩), HC.out⟩
  · have hq : bad = false ∧ ¬ xs.length < n := by simpa [tkB] using hb
    obtain ⟨rfl, hlt⟩ := hq
    have e1 : tkO xs false n = xs.take n := by simp [tkO, hb]
    have e2 : tkR xs false n = xs.drop n := by simp [tkR, hb]
    have e3 : tkB xs false n = false := by simpa using hb
    clear hb
    go_enter Try.func64, Try.ntmps64
    go_wp2_with fail
    all_goals (try go_ret)
    · have hcn : c = n := by omega
      subst hcn
      have hz := take_ok w g A c xs c HR.out (by omega) A (.inl ⟨rfl, rfl⟩)
      rw [Nat.sub_self] at hz
      exact hz
    · exact take_ok w g A c xs n HR.out (by omega) _ (.inr rfl)

/- the reader's small questions -/
end Go.Proofs.Ytflpelacjdnplaa
