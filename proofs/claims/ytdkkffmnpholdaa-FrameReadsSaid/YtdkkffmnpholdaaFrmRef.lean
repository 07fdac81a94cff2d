/- the reference's functions on frames: what they come to. -/
import Derived.Test.YtdkkffmnpholdaaFrmSplit
import Derived.Test.YtdkkffmnpholdaaRefPut
import Derived.Deep.LoopGhost
namespace Go.Proofs.Ytdkkffmnpholdaa
open Go.RowKit

/-- the reference's Next: its answers lie where the bytes lie -/
def RNextP (w : World) (A : Option Addr) (c : Nat) (x : Nx) (e : Ending) (w' : World) : Prop :=
  ∃ A1 c1 A2 c2, e = .returned (.tuple #[.slice A1 x.body.length c1, .slice A2 x.rest.length c2, .int .i64 x.err]) ∧ Cls w' A1 (ints .u8 x.body) ∧ Cls w' A2 (ints .u8 x.rest) ∧ x.rest.length ≤ c2 ∧ c2 ≤ c ∧
    (∀ a, A1 = some a → ∃ a0, A = some a0 ∧ a.block = a0.block) ∧ (∀ a, A2 = some a → ∃ a0, A = some a0 ∧ a.block = a0.block) ∧ Ch No w w'
theorem RNextP.none {w w' : World} {A : Option Addr} {c : Nat} (x : Nx) (hb : x.body = []) (hr : x.rest = []) (h : Ch No w w') : RNextP w A c x (.returned (.tuple #[.slice none 0 0, .slice none 0 0, .int .i64 x.err])) w' :=
  ⟨.none, 0, .none, 0, by rw [hb, hr]; rfl, by rw [hb]; exact Cls.nil _ _, by rw [hr]; exact Cls.nil _ _, by rw [hr]; simp, by omega, (by simp), (by simp), h⟩

theorem rnext_ok {w w' : World} {blk off c n : Nat} {xs : List Int} (h : Cls w (some ⟨blk, off, none⟩) (ints .u8 xs)) (hc : xs.length ≤ c) (hn : 2 + n ≤ xs.length) (hC : Ch No w w') (A1 A2 : Option Addr)
    (h1 : A1 = some ⟨blk, off + 2, none⟩ ∨ (n = 0 ∧ A1 = some ⟨blk, off, none⟩)) (h2 : A2 = some ⟨blk, off + (2 + n), none⟩ ∨ (c = 2 + n ∧ A2 = some ⟨blk, off, none⟩)) (c1 c2 : Nat) (hc2 : c2 = c - (2 + n)) :
    RNextP w (some ⟨blk, off, none⟩) c (.ok ((xs.drop 2).take n) (xs.drop (2 + n))) (.returned (.tuple #[.slice A1 n c1, .slice A2 (xs.length - (2 + n)) c2, .int .i64 0])) w' := by
  have h' := h.ch hC (fun _ _ h => h)
  refine ⟨A1, c1, A2, c2, ?_, ?_, ?_, ?_, by omega, ?_, ?_, hC⟩
  · simp only [Nx.body, Nx.rest, Nx.err, List.length_take, List.length_drop]
    rw [Nat.min_eq_left (by omega)]
  · simp only [Nx.body]
    rcases h1 with rfl | ⟨rfl, rfl⟩
    · rw [ints_take, ints_drop]
      have := (h'.dropI 2).takeI n
      simpa [addr_add] using this
    · rw [List.take_zero]; exact Cls.nil _ _
  · simp only [Nx.rest]
    rcases h2 with rfl | ⟨h2, rfl⟩
    · rw [ints_drop]
      have := h'.dropI (2 + n)
      simpa [addr_add] using this
    · rw [List.drop_eq_nil_of_le (by omega)]; exact Cls.nil _ _
  · simp only [Nx.rest, List.length_drop]; omega
  · rintro a rfl
    rcases h1 with h1 | ⟨_, h1⟩ <;> (cases h1; exact ⟨_, rfl, rfl⟩)
  · rintro a rfl
    rcases h2 with h1 | ⟨_, h1⟩ <;> (cases h1; exact ⟨_, rfl, rfl⟩)

set_option maxHeartbeats 4000000 in
set_option maxRecDepth 100000 in
theorem FRNext_any (w : World) (A : Option Addr) (c : Nat) (xs : List Int) (hx : Cls w A (ints .u8 xs)) (hb : ∀ x ∈ xs, isB x) (hc : xs.length ≤ c) (hl : xs.length ≤ 100000000) :
    Calls Try.prog 11 #[.slice A xs.length c] w (RNextP w A c (nxt xs)) := by
  have htw := two_lt hb
  by_cases h2 : xs.length < 2
  · have HN : Hid (nxt xs = .short) := Lib.hid (by unfold nxt; rw [if_pos h2])
    clear hx hb htw
    go_enter Try.func11, Try.ntmps11
    go_wp2_with fail
    go_ret3
    rw [HN.out]
    exact RNextP.none .short rfl rfl (Ch.refl _ _)
  · obtain ⟨blk, off, rfl, c0⟩ := hx.get 0 (by omega)
    obtain ⟨blk', off', e1, c1⟩ := hx.get 1 (by omega)
    cases e1
    have HX := Lib.hid (And.intro hx hb)
    have hb0 := hb xs[0] (by simp)
    have hb1 := hb xs[1] (by simp)
    have htw2 : (256 : Int) * xs[0] + xs[1] = (two xs : Nat) := by
      unfold two isB at *
      obtain ⟨x0, x1, r, rfl⟩ : ∃ x0 x1 r, xs = x0 :: x1 :: r := by
        cases xs with
        | nil => simp at h2
        | cons x0 xs =>
          cases xs with
          | nil => simp at h2
          | cons x1 r => exact ⟨x0, x1, r, rfl⟩
      simp [getN] at hb0 hb1 ⊢
      omega
    obtain ⟨x0, hx0⟩ : ∃ x0, xs[0] = x0 := ⟨_, rfl⟩
    obtain ⟨x1, hx1⟩ : ∃ x1, xs[1] = x1 := ⟨_, rfl⟩
    rw [hx0] at c0 hb0 htw2
    rw [hx1] at c1 hb1 htw2
    clear hx hb hx0 hx1
    unfold isB at hb0 hb1
    obtain ⟨n, hn⟩ : ∃ n, two xs = n := ⟨_, rfl⟩
    rw [hn] at htw htw2
    have HN := Lib.hid hn
    clear hn
    rw [Nat.add_zero] at c0
    by_cases h3 : 1024 < n
    · have HNX : Hid (nxt xs = .long) := Lib.hid (by unfold nxt; rw [if_neg h2, if_pos (by rw [HN.out]; exact h3)])
      go_enter Try.func11, Try.ntmps11
      go_wp2_with fail
      go_region
      all_goals (try go_wp2)
      all_goals go_ret3
      all_goals rw [HNX.out]
      all_goals exact RNextP.none .long rfl rfl (Ch.refl _ _).drew
    by_cases h4 : xs.length < 2 + n
    · have HNX : Hid (nxt xs = .short) := Lib.hid (by unfold nxt; rw [if_neg h2, if_neg (by rw [HN.out]; exact h3), if_pos (by rw [HN.out]; exact h4)])
      go_enter Try.func11, Try.ntmps11
      go_wp2_with fail
      go_region
      all_goals (try go_wp2)
      all_goals go_ret3
      all_goals rw [HNX.out]
      all_goals exact RNextP.none .short rfl rfl (Ch.refl _ _).drew
    have hnx : nxt xs = .ok ((xs.drop 2).take n) (xs.drop (2 + n)) := by unfold nxt; rw [if_neg h2, if_neg (by rw [HN.out]; exact h3), if_neg (by rw [HN.out]; exact h4), HN.out]
    have HNX := Lib.hid hnx
    clear hnx
    go_enter Try.func11, Try.ntmps11
    go_wp2_with fail
    go_region
    all_goals (try go_wp2)
    all_goals go_region
    all_goals (try go_wp2)
    all_goals go_ret3
    all_goals rw [HNX.out]
    · rw [show n = 0 from by omega]
      exact rnext_ok (n := 0) (c := 2) HX.out.1 (by omega) (by omega) (Ch.refl _ _).drew.drew _ _ (.inr ⟨rfl, rfl⟩) (.inr ⟨rfl, rfl⟩) _ 0 rfl
    · exact rnext_ok (n := n) (c := 2 + n) HX.out.1 (by omega) (by omega) (Ch.refl _ _).drew.drew _ _ (.inl rfl) (.inr ⟨rfl, rfl⟩) _ 0 (by omega)
    · exact rnext_ok HX.out.1 hc (by omega) (Ch.refl _ _).drew.drew _ _ (.inl rfl) (.inl rfl) _ _ rfl

/-- what the reference's Split hands back -/
def RSplitP (w : World) (bs : List (List Int)) (l : List Int) (er : Int) (e : Ending) (w' : World) : Prop :=
  ∃ O co L cl, e = .returned (.tuple #[.slice O bs.length co, .slice L l.length cl, .int .i64 er]) ∧ Bds w' O bs ∧ Cls w' L (ints .u8 l) ∧ bs.length ≤ co ∧ Ch No w w'

set_option maxHeartbeats 4000000 in
set_option maxRecDepth 100000 in
theorem FRSplit_any (w : World) (A : Option Addr) (c : Nat) (xs : List Int) (bs : List (List Int)) (l : List Int) (er : Int) (hs : Spl xs bs l er) (hx : Cls w A (ints .u8 xs)) (hb : ∀ x ∈ xs, isB x) (hc : xs.length ≤ c) (hA : xs ≠ [] → ∀ a, A = some a → a.block < w.heap.size) (hl : xs.length ≤ 1000000) :
    Calls Try.prog 13 #[.slice A xs.length c] w (RSplitP w bs l er) := by
  have HX := Lib.hid (And.intro hx (And.intro hb hs))
  have HA := Lib.hid hA
  clear hx hb hs hA
  go_enter Try.func13, Try.ntmps13
  go_wp2_with fail
  have HS : Hid (Cls (w.alloc (.cells #[] 22)) A (ints .u8 xs) ∧ Acc2 (w.alloc (.cells #[] 22)) w.heap.size (.slice (some ⟨w.heap.size, 0, none⟩) 0 0) [] ∧ Ch No w (w.alloc (.cells #[] 22))) := by
    refine Lib.hid ⟨HX.out.1.ch ((Ch.refl No w).alloc _) (fun _ _ h => h), ⟨[], rfl, OwnS.lit w w.heap.size 22 [] (Nat.le_refl _) (by simp), by simp, by simp⟩, (Ch.refl No w).alloc _⟩
  go_loopw [0, 5, 6, 7, 8] (fun lf out _ _ _ wr => ∃ (pre post : List (List Int)) (cur : List Int) (O : Option Addr) (co : Nat) (L : Option Addr) (cl : Nat), out = .slice O pre.length co ∧ lf = .slice L cur.length cl ∧
    Hid (bs = pre ++ post ∧ Spl cur post l er ∧ (∀ x ∈ cur, isB x) ∧ cur.length ≤ xs.length ∧ 2 * pre.length + cur.length ≤ xs.length ∧ cur.length ≤ cl) ∧ Hid (Cls wr L (ints .u8 cur) ∧ (xs ≠ [] → ∀ a, L = some a → a.block < w.heap.size) ∧ Acc2 wr w.heap.size (.slice O pre.length co) pre ∧ Ch No w wr)) (fun lf _ _ _ _ _ => match lf with | .slice _ n _ => n | _ => 0)
  case atStart => exact ⟨[], bs, xs, _, 0, A, c, rfl, rfl, Lib.hid ⟨rfl, HX.out.2.2, HX.out.2.1, Nat.le_refl _, by simp, hc⟩, Lib.hid ⟨HS.out.1, HA.out, HS.out.2.1, HS.out.2.2⟩⟩
  case round =>
    clear HS
    obtain ⟨pre, post, cur, O, co, L, cl, rfl, rfl, hp, hst⟩ := hrel
    have hcl := hp.out.2.2.2.1
    have hpl := hp.out.2.2.2.2.1
    have q := FRNext_any wr L cl cur hst.out.1 hp.out.2.2.1 hp.out.2.2.2.2.2 (by omega)
    obtain ⟨nx, hnx⟩ : ∃ nx, nxt cur = nx := ⟨_, rfl⟩
    rw [hnx] at q
    have HQ := Lib.hid q
    have HN := Lib.hid hnx
    clear q hnx
    go_wp2_with fail
    refine HQ.out.mono ?_
    clear HQ
    rintro e w2 ⟨A2, c2, A3, c3, rfl, L2, L3, hlc, hcc, hA2, hA3, h2⟩
    have H2 := Lib.hid (And.intro L2 (And.intro L3 (And.intro (fun hne a ha => (hA2 a ha).elim fun a0 h0 => h0.2 ▸ hst.out.2.1 hne a0 h0.1 : xs ≠ [] → ∀ a, A2 = some a → a.block < w.heap.size) (And.intro (fun hne a ha => (hA3 a ha).elim fun a0 h0 => h0.2 ▸ hst.out.2.1 hne a0 h0.1 : xs ≠ [] → ∀ a, A3 = some a → a.block < w.heap.size) (And.intro h2 (And.intro hlc hcc))))))
    clear L2 L3 hA2 hA3 h2 hlc hcc
    cases nx with
    | short =>
      have hpp : Hid (post = [] ∧ l = cur ∧ er = 0) := by
        have hs := hp.out.2.1
        have h := HN.out
        cases hs with
        | short _ => exact Lib.hid ⟨rfl, rfl, rfl⟩
        | long k => rw [h] at k; cases k
        | ok k _ => rw [h] at k; cases k
      simp only [Nx.err, Nx.body, Nx.rest, List.length_nil]
      go_wp2_with fail
      go_ret3
      obtain ⟨rfl, rfl, rfl⟩ := hpp.out
      obtain ⟨O', co', ev, hB, hco⟩ := hst.out.2.2.1.slice2
      obtain ⟨rfl, rfl⟩ : O = O' ∧ co = co' := by simpa using ev
      refine ⟨O, co, L, cl, by rw [hp.out.1]; simp, ?_, hst.out.1.ch H2.out.2.2.2.2.1 (fun _ _ h => h), by rw [hp.out.1, List.append_nil]; exact hco, hst.out.2.2.2.trans H2.out.2.2.2.2.1⟩
      rw [hp.out.1, List.append_nil]
      exact hB.no H2.out.2.2.2.2.1
    | long =>
      have hpp : Hid (post = [] ∧ l = cur ∧ er = 2) := by
        have hs := hp.out.2.1
        have h := HN.out
        cases hs with
        | short k => rw [h] at k; cases k
        | long k => exact Lib.hid ⟨rfl, rfl, rfl⟩
        | ok k _ => rw [h] at k; cases k
      simp only [Nx.err, Nx.body, Nx.rest, List.length_nil]
      go_wp2_with fail
      go_ret3
      obtain ⟨rfl, rfl, rfl⟩ := hpp.out
      obtain ⟨O', co', ev, hB, hco⟩ := hst.out.2.2.1.slice2
      obtain ⟨rfl, rfl⟩ : O = O' ∧ co = co' := by simpa using ev
      refine ⟨O, co, L, cl, by rw [hp.out.1]; simp, ?_, hst.out.1.ch H2.out.2.2.2.2.1 (fun _ _ h => h), by rw [hp.out.1, List.append_nil]; exact hco, hst.out.2.2.2.trans H2.out.2.2.2.2.1⟩
      rw [hp.out.1, List.append_nil]
      exact hB.no H2.out.2.2.2.2.1
    | ok b r =>
      have hpp : Hid (∃ post', post = b :: post' ∧ Spl r post' l er) := by
        have hs := hp.out.2.1
        have h := HN.out
        cases hs with
        | short k => rw [h] at k; cases k
        | long k => rw [h] at k; cases k
        | ok k t =>
          rw [h] at k
          obtain ⟨rfl, rfl⟩ := Nx.ok.inj k
          exact Lib.hid ⟨_, rfl, t⟩
      have hrl := nxt_lt HN.out
      have hr2 : r.length + 2 ≤ cur.length := by
        obtain ⟨k1, k2, k3, k4, k5, _⟩ := nxt_ok HN.out
        rw [k5, List.length_drop]
        omega
      simp only [Nx.err, Nx.body, Nx.rest] at H2 ⊢
      obtain ⟨ps, hps, hown, hcs, hsep⟩ := (hst.out.2.2.1.no H2.out.2.2.2.2.1).ex
      have hpl2 : (ps.map Prt.enc).length = pre.length := by rw [← hps]; simp
      have HA2 := Lib.hid (And.intro hps (And.intro hcs hsep))
      clear hcs hsep hps
      go_wp2_with (at_builtin; refine app1n rfl _ _ 29 22 rfl (.slice none 0 0) 24 Try.underlying29 infoBs rfl w.heap.size (.slice O pre.length co) (ps.map Prt.enc) (.slice A2 b.length c2) rfl hown 1 rfl rfl ?hn ?hb ?hB ?_)
      case hn => rw [hpl2]; simp [maxLen]; omega
      case hb => rw [hpl2]; omega
      case hB => exact (hst.out.2.2.2.trans H2.out.2.2.2.2.1).size
      intro g4 c4 w4 o4 h4 hat
      have hlow : ∀ k, (Value.slice O pre.length co).ownBlock = some k → w.heap.size ≤ k ∧ k < wr.heap.size := fun k hk => by
        obtain ⟨ps0, _, ho0, _⟩ := hst.out.2.2.1.ex
        exact ho0.ge k hk
      have hne0 : xs ≠ [] := by
        rintro rfl
        simp at hcl
        rw [hcl] at hr2
        simp at hr2
      have HF : Hid (Cls w4 A3 (ints .u8 r) ∧ (xs ≠ [] → ∀ a, A3 = some a → a.block < w.heap.size) ∧ Acc2 w4 w.heap.size (.slice (some ⟨g4, 0, none⟩) (pre.length + 1) c4) (pre ++ [b]) ∧ Ch No w w4) := by
        obtain ⟨k1, k2, k3', k4', k5, _⟩ := H2.out
        have k3 := k3' hne0
        have k4 := k4' hne0
        have hww := (hst.out.2.2.2.trans k5).size
        have hne : ∀ a : Addr, a.block < w.heap.size → (Value.slice O pre.length co).ownBlock ≠ some a.block := fun a ha he => by
          have := (hlow _ he).1
          omega
        refine Lib.hid ⟨k2.ch h4 (fun a ha he => hne a (k4 a ha) he), k4', ?_, (hst.out.2.2.2.trans k5).trans' h4 (fun i hi he => by have := (hlow i he).1; omega)⟩
        exact Acc2.app HA2.out.1 HA2.out.2.1 HA2.out.2.2 k1 (fun a ha => ⟨hne a (k3 a ha), by have := k3 a ha; omega⟩) o4 h4 hat
      have HLC := Lib.hid H2.out.2.2.2.2.2
      clear o4 h4 hat hlow hown hpl2 H2 HA2 hst
      go_wp2_with fail
      go_roundw
      case rel =>
        obtain ⟨post', hp1, hp2⟩ := hpp.out
        exact ⟨pre ++ [b], post', r, some ⟨g4, 0, none⟩, c4, A3, c3, by simp, rfl, Lib.hid ⟨by rw [hp.out.1, hp1]; simp, hp2, (nxt_mem HN.out _ hp.out.2.2.1).2, by omega, by simp; omega, HLC.out.1⟩, by simpa using HF⟩
      case measure => simp; omega
end Go.Proofs.Ytdkkffmnpholdaa
