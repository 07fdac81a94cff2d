/- slices.Clone of bytes, octet.Writer's Done, octet.Open: what they come to. -/
import Derived.Test.YtflpelacjdnplaaOctWrite
namespace Go.Proofs.Ytflpelacjdnplaa
open Go.RowKit

theorem run_eqlsn (w : World) (A : Option Addr) (n c : Nat) : (binOp .eql 58 (.slice A n c) (.slice none 0 0)).run Try.prog w = .ok (.bool A.isNone) w := by
  simp only [binOp]
  simp [Op.equal, Op.maxDepth, Lib.run_equalIn_slice_nil w 9999 58 5 A n c 0 0 Try.underlying58]
/-- a slice of its own that holds these bytes is handed back; nothing old has turned -/
def MadeS (w : World) (xs : List Int) (e : Ending) (w' : World) : Prop := ∃ A c, e = .returned (.slice A xs.length c) ∧ OwnS w' w.heap.size 5 (.slice A xs.length c) (ints .u8 xs) ∧ Ch No w w'

set_option maxHeartbeats 1000000 in
theorem Clone_any (w : World) (A : Option Addr) (c : Nat) (xs : List Int) (hx : Cls w A (ints .u8 xs)) (hl : xs.length ≤ 100000000000000) :
    Calls Try.prog 60 #[.slice A xs.length c] w (MadeS w xs) := by
  have hen := fun (w : World) (A : Option Addr) (n c : Nat) => run_eqlsn w A n c
  cases A with
  | none =>
    have hnil : xs = [] := by
      cases xs with
      | nil => rfl
      | cons u us =>
        obtain ⟨b, off, h, _⟩ := hx [] (.int .u8 u) (ints .u8 us) rfl
        cases h
    subst hnil
    go_enter Try.func60, Try.ntmps60
    go_wp2_with fail
    go_ret
    exact ⟨none, 0, rfl, OwnS.nil _ _ _, Ch.refl _ _⟩
  | some ad =>
    have HX := Lib.hid hx
    clear hx
    go_enter Try.func60, Try.ntmps60
    go_wp2_with (at_builtin; refine appI rfl _ _ 58 5 rfl .u8 0 1 Try.underlying58 u8info w.heap.size (some ⟨w.heap.size, 0, none⟩) 0 [] rfl (OwnS.lit w w.heap.size 5 [] (Nat.le_refl _) (by simp)) (some ad) c xs rfl (HX.out.ch ((Ch.refl No w).alloc _) (fun _ _ h => h)) ?hn ?hb ?hB ?_)
    case hn => simp [maxLen]; omega
    case hb => simp; omega
    case hB => simp
    intro A1 c1 w1 hown1 hch hat
    have HO := Lib.hid hown1
    have HC : Hid (Ch No w w1) := Lib.hid (Ch.trans' ((Ch.refl No w).alloc _) hch (fun i hi he => by simp [Value.ownBlock] at he; omega))
    clear hown1 hch hat
    go_wp2_with fail
    go_ret
    exact ⟨A1, c1, by simp, by simpa using HO.out, HC.out⟩

theorem Done_any (w : World) (B g : Nat) (k : Option Nat) (bs : List Int) (h : Wr w B g k bs) (hl : bs.length ≤ 100000000000000) :
    Calls Try.prog 43 #[.pointer (some ⟨g, 0, none⟩)] w (MadeS w bs) := by
  obtain ⟨A0, c0, hblk, hown, _⟩ := h.ex
  have q0 : w.cell? ⟨g, 0, none⟩ = some (.slice A0 bs.length c0) := hblk.cell 0
  obtain ⟨A1, c1, e1, hcl, _⟩ := hown.slice_ints
  obtain ⟨rfl, rfl⟩ : A0 = A1 ∧ c0 = c1 := by simpa using e1
  have HC := Lib.hid (Clone_any w A0 c0 bs hcl hl)
  clear e1 hcl hown hblk h
  go_enter Try.func43, Try.ntmps43
  go_wp2_with fail
  refine HC.out.mono ?_
  rintro e w' ⟨A1, c1, rfl, h1, h2⟩
  have HP := Lib.hid (And.intro h1 h2)
  clear h1 h2
  go_wp2_with fail
  go_ret
  exact ⟨A1, c1, rfl, HP.out.1, HP.out.2⟩

/-- a reader of its own of these bytes is handed back; nothing old has turned -/
def MadeR (w : World) (xs : List Int) (e : Ending) (w' : World) : Prop := ∃ g A c, e = .returned (.pointer (some ⟨g, 0, none⟩)) ∧ Rdr w' g A c xs false ∧ w.heap.size ≤ g ∧ (∀ a, A = some a → w.heap.size ≤ a.block ∧ a.block < w'.heap.size) ∧ Ch No w w'

set_option maxHeartbeats 1000000 in
theorem Open_any (w : World) (A : Option Addr) (c : Nat) (xs : List Int) (hx : Cls w A (ints .u8 xs)) (hl : xs.length ≤ 100000000000000) :
    Calls Try.prog 46 #[.slice A xs.length c] w (MadeR w xs) := by
  have HC := Lib.hid (Clone_any w A c xs hx hl)
  clear hx
  go_enter Try.func46, Try.ntmps46
  go_wp2_with fail
  refine HC.out.mono ?_
  rintro e w1 ⟨A1, c1, rfl, h1, h2⟩
  have hc1 : c1 ≤ maxLen := by
    rcases h1.2 with ⟨h, _⟩ | ⟨_, _, _, h, _, _, _, h3, _⟩
    · have : c1 = 0 := by simp at h; exact h.2.2
      omega
    · have := (Value.slice.inj h).2.2
      omega
  have hge := h1.ge
  have hle := h1.slice_ints
  have HP := Lib.hid (And.intro h1 (And.intro h2 (And.intro hc1 (And.intro hge hle))))
  clear h1 h2 hc1 hge hle
  go_wp2_with fail
  go_ret
  obtain ⟨h1, h2, hc1, hge, A2, c2, e2, hcl, hle⟩ := HP.out
  obtain ⟨rfl, rfl⟩ : A1 = A2 ∧ c1 = c2 := by simpa using e2
  refine ⟨w1.heap.size, A1, c1, rfl, ⟨Blk.new w1 _ [.slice A1 xs.length c1, .bool false], hcl.ch ((Ch.refl No w1).alloc _) (fun _ _ h => h), hle, ?_, hc1⟩, h2.size, ?_, h2.alloc _⟩
  · rintro a rfl
    have := (hge a.block rfl).2
    omega
  · rintro a rfl
    have := hge a.block rfl
    exact ⟨this.1, by simp; omega⟩
end Go.Proofs.Ytflpelacjdnplaa
