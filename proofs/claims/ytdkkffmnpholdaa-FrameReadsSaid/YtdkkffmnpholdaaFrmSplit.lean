/- frame: Split: what it comes to. -/
import Derived.Test.YtdkkffmnpholdaaFrmWalk
namespace Go.Proofs.Ytdkkffmnpholdaa
open Go.RowKit

theorem infoBs : (Try.prog.info? 22).map (fun i => (i.zero, i.size, i.bytes)) = some (some (.slice none 0 0), 1, 24) := by kernel_rfl

/-- all bodies, what is left and the error's number have been handed back -/
def SplitP (w : World) (bs : List (List Int)) (l : List Int) (er : Int) (e : Ending) (w' : World) : Prop :=
  ∃ O co L cl, e = .returned (.tuple #[.slice O bs.length co, .slice L l.length cl, .int .i64 er]) ∧ Bds w' O bs ∧ Cls w' L (ints .u8 l) ∧ Ch No w w'

set_option maxHeartbeats 4000000 in
set_option maxRecDepth 100000 in
theorem FSplit_any (w : World) (A : Option Addr) (c : Nat) (xs : List Int) (bs : List (List Int)) (l : List Int) (er : Int) (hs : Spl xs bs l er) (hx : Cls w A (ints .u8 xs)) (hb : ∀ x ∈ xs, isB x) (hl : xs.length ≤ 1000000) :
    Calls Try.prog 12 #[.slice A xs.length c] w (SplitP w bs l er) := by
  have HX := Lib.hid (And.intro hx (And.intro hb hs))
  clear hx hb hs
  go_enter Try.func12, Try.ntmps12
  go_wp2_with fail
  refine (Clone_any w A c xs HX.out.1 (by omega)).mono ?_
  rintro e w1 ⟨A1, c1, rfl, o1, h1⟩
  obtain ⟨A1', c1', e1, X1, _⟩ := o1.slice_ints
  obtain ⟨rfl, rfl⟩ : A1 = A1' ∧ c1 = c1' := by simpa using e1
  have HS : Hid (Cls w1 A1 (ints .u8 xs) ∧ (∀ a, A1 = some a → a.block < w1.heap.size) ∧ Acc2 w1 w.heap.size (.slice none 0 0) [] ∧ Ch No w w1) := by
    refine Lib.hid ⟨X1, ?_, Acc2.nil _ _, h1⟩
    rintro a rfl
    rcases o1.2 with ⟨h, _⟩ | ⟨g, _, _, h, _, hg, _⟩
    · cases h
    · have : a = ⟨g, 0, none⟩ := by simpa using (Value.slice.inj h).1
      rw [this]
      exact (Array.getElem?_eq_some_iff.1 hg).1
  clear o1 h1 e1 X1
  go_wp2_with fail
  go_loopw [5, 6, 7, 8, 9] (fun out lf _ _ _ wr => ∃ (pre post : List (List Int)) (cur : List Int) (O : Option Addr) (co : Nat) (L : Option Addr) (cl : Nat), out = .slice O pre.length co ∧ lf = .slice L cur.length cl ∧
    Hid (bs = pre ++ post ∧ Spl cur post l er ∧ (∀ x ∈ cur, isB x) ∧ cur.length ≤ xs.length ∧ 2 * pre.length + cur.length ≤ xs.length) ∧ Hid (Cls wr L (ints .u8 cur) ∧ (∀ a, L = some a → a.block < wr.heap.size ∧ (Value.slice O pre.length co).ownBlock ≠ some a.block) ∧ Acc2 wr w.heap.size (.slice O pre.length co) pre ∧ Ch No w wr)) (fun _ lf _ _ _ _ => match lf with | .slice _ n _ => n | _ => 0)
  case atStart => exact ⟨[], bs, xs, none, 0, A1, c1, rfl, rfl, Lib.hid ⟨rfl, HX.out.2.2, HX.out.2.1, Nat.le_refl _, by simp⟩, Lib.hid ⟨HS.out.1, fun a ha => ⟨HS.out.2.1 a ha, by simp [Value.ownBlock]⟩, HS.out.2.2.1, HS.out.2.2.2⟩⟩
  case round =>
    clear HS
    obtain ⟨pre, post, cur, O, co, L, cl, rfl, rfl, hp, hst⟩ := hrel
    have hcl := hp.out.2.2.2.1
    have hpl := hp.out.2.2.2.2
    have q := FNext_any wr L cl cur hst.out.1 hp.out.2.2.1 (by omega)
    obtain ⟨nx, hnx⟩ : ∃ nx, nxt cur = nx := ⟨_, rfl⟩
    rw [hnx] at q
    have HQ := Lib.hid q
    have HN := Lib.hid hnx
    clear q hnx
    go_wp2_with fail
    refine HQ.out.mono ?_
    clear HQ
    rintro e w2 ⟨A2, c2, A3, c3, rfl, L2, L3, hA2, hA3, _, _, h2⟩
    have H2 := Lib.hid (And.intro L2 (And.intro L3 (And.intro hA2 (And.intro hA3 h2))))
    clear L2 L3 hA2 hA3 h2
    cases nx with
    | short =>
      have hpp : Hid (post = [] ∧ l = cur ∧ er = 0) := by
        have hs := hp.out.2.1
        have h := HN.out
        cases hs with
        | short _ => exact Lib.hid ⟨rfl, rfl, rfl⟩
        | long k => rw [h] at k; cases k
        | ok k _ => rw [h] at k; cases k
      simp only [Nx.err, Nx.body, Nx.rest, List.length_nil]
      go_wp2_with fail
      go_ret3
      obtain ⟨rfl, rfl, rfl⟩ := hpp.out
      obtain ⟨O', co', ev, hB⟩ := hst.out.2.2.1.slice
      obtain ⟨rfl, rfl⟩ : O = O' ∧ co = co' := by simpa using ev
      refine ⟨O, co, L, cl, by rw [hp.out.1]; simp, ?_, hst.out.1.ch H2.out.2.2.2.2 (fun _ _ h => h), hst.out.2.2.2.trans H2.out.2.2.2.2⟩
      rw [hp.out.1, List.append_nil]
      exact hB.no H2.out.2.2.2.2
    | long =>
      have hpp : Hid (post = [] ∧ l = cur ∧ er = 2) := by
        have hs := hp.out.2.1
        have h := HN.out
        cases hs with
        | short k => rw [h] at k; cases k
        | long k => exact Lib.hid ⟨rfl, rfl, rfl⟩
        | ok k _ => rw [h] at k; cases k
      simp only [Nx.err, Nx.body, Nx.rest, List.length_nil]
      go_wp2_with fail
      go_ret3
      obtain ⟨rfl, rfl, rfl⟩ := hpp.out
      obtain ⟨O', co', ev, hB⟩ := hst.out.2.2.1.slice
      obtain ⟨rfl, rfl⟩ : O = O' ∧ co = co' := by simpa using ev
      refine ⟨O, co, L, cl, by rw [hp.out.1]; simp, ?_, hst.out.1.ch H2.out.2.2.2.2 (fun _ _ h => h), hst.out.2.2.2.trans H2.out.2.2.2.2⟩
      rw [hp.out.1, List.append_nil]
      exact hB.no H2.out.2.2.2.2
    | ok b r =>
      have hpp : Hid (∃ post', post = b :: post' ∧ Spl r post' l er) := by
        have hs := hp.out.2.1
        have h := HN.out
        cases hs with
        | short k => rw [h] at k; cases k
        | long k => rw [h] at k; cases k
        | ok k t =>
          rw [h] at k
          obtain ⟨rfl, rfl⟩ := Nx.ok.inj k
          exact Lib.hid ⟨_, rfl, t⟩
      have hrl := nxt_lt HN.out
      have hr2 : r.length + 2 ≤ cur.length := by
        obtain ⟨k1, k2, k3, k4, k5, _⟩ := nxt_ok HN.out
        rw [k5, List.length_drop]
        omega
      simp only [Nx.err, Nx.body, Nx.rest] at H2 ⊢
      obtain ⟨ps, hps, hown, hcs, hsep⟩ := (hst.out.2.2.1.no H2.out.2.2.2.2).ex
      have hpl2 : (ps.map Prt.enc).length = pre.length := by rw [← hps]; simp
      have HA := Lib.hid (And.intro hps (And.intro hcs hsep))
      clear hcs hsep hps
      go_wp2_with (at_builtin; (refine app1n rfl _ _ 29 22 rfl (.slice none 0 0) 24 Try.underlying29 infoBs rfl w.heap.size (.slice O pre.length co) (ps.map Prt.enc) (.slice A2 b.length c2) rfl hown 1 rfl rfl ?hn ?hb ?hB ?_))
      case hn => rw [hpl2]; simp [maxLen]; omega
      case hb => rw [hpl2]; omega
      case hB => exact (hst.out.2.2.2.trans H2.out.2.2.2.2).size
      intro g4 c4 w4 o4 h4 hat
      have hlow : ∀ k, (Value.slice O pre.length co).ownBlock = some k → w.heap.size ≤ k ∧ k < wr.heap.size := fun k hk => by
        obtain ⟨ps0, _, ho0, _⟩ := hst.out.2.2.1.ex
        exact ho0.ge k hk
      have HF : Hid (Cls w4 A3 (ints .u8 r) ∧ (∀ a, A3 = some a → a.block < w4.heap.size ∧ (Value.slice (some ⟨g4, 0, none⟩) (pre.length + 1) c4).ownBlock ≠ some a.block) ∧ Acc2 w4 w.heap.size (.slice (some ⟨g4, 0, none⟩) (pre.length + 1) c4) (pre ++ [b]) ∧ Ch No w w4) := by
        obtain ⟨k1, k2, k3, k4, k5⟩ := H2.out
        have hs4 := h4.size
        have hs2 := k5.size
        have hne : ∀ a : Addr, wr.heap.size ≤ a.block ∧ a.block < w2.heap.size → (Value.slice O pre.length co).ownBlock ≠ some a.block := fun a ha he => by
          have := (hlow _ he).2
          omega
        refine Lib.hid ⟨k2.ch h4 (fun a ha he => hne a (k4 a ha) he), ?_, ?_, (hst.out.2.2.2.trans k5).trans' h4 (fun i hi he => by have := (hlow i he).1; omega)⟩
        · intro a ha
          have := k4 a ha
          refine ⟨by omega, ?_⟩
          intro he
          have he' : g4 = a.block := by simpa [Value.ownBlock] using he
          rcases hat with hat | hat
          · exact hne a (k4 a ha) (by rw [hat, he'])
          · omega
        · exact Acc2.app HA.out.1 HA.out.2.1 HA.out.2.2 k1 (fun a ha => ⟨hne a (k3 a ha), (k3 a ha).2⟩) o4 h4 hat
      clear o4 h4 hat hlow hown hpl2 H2 HA hst
      go_wp2_with fail
      go_roundw
      case rel =>
        obtain ⟨post', hp1, hp2⟩ := hpp.out
        exact ⟨pre ++ [b], post', r, some ⟨g4, 0, none⟩, c4, A3, c3, by simp, rfl, Lib.hid ⟨by rw [hp.out.1, hp1]; simp, hp2, (nxt_mem HN.out _ hp.out.2.2.1).2, by omega, by simp; omega⟩, by simpa using HF⟩
      case measure => simp; omega
end Go.Proofs.Ytdkkffmnpholdaa
