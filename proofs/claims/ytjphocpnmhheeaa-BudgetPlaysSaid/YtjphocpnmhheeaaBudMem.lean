/- How a ledger lies in memory; what its small functions come to. -/
import Derived.Test.YtjphocpnmhheeaaOwn
import Derived.Test.YtjphocpnmhheeaaNum
import Derived.Test.YtjphocpnmhheeaaProg
import Derived.Test.YtjphocpnmhheeaaLexF
import Derived.Deep.RegionWith
namespace Go.Proofs.Ytjphocpnmhheeaa
open Go.RowKit

theorem rowZ_ch {S : Nat → Prop} {w w' : World} {B n sz : Nat} {e : TypeId} {v : Value} {vs : List Value} (h : w.ownsRow B e sz v n vs) (hc : Ch S w w') (hn : ∀ k, v.ownBlock = some k → ¬ S k) : w'.ownsRow B e sz v n vs := by
  refine ⟨h.1, ?_⟩
  rcases h.2 with h0 | ⟨g, cap, cur, rfl, hb, hg, rest⟩
  · exact .inl h0
  · exact .inr ⟨g, cap, cur, rfl, hb, hc.at hg (hn g rfl), rest⟩
/-- append of one element of sz cells -/
theorem appZ {P : Program} {ops : Array Oper} {Q : Exit → Act → World → Prop} {a : Act} {w : World} {rest : List Oper} {o : Oper} (hgd : o.guard = none) (s x : Operand) (t e : TypeId)
    (ho : o.op = .call { callee := .builtin .append, args := #[s, x], argTypes := #[t, t] }) (z : Value) (sz bytes : Nat)
    (ht : P.underlying t = some (.slice e)) (hinfo : (P.info? e).map (fun i => (i.zero, i.size, i.bytes)) = some (some z, sz, bytes)) (hz : z.cells.size = sz) (hsz : 0 < sz)
    (B : Nat) (v : Value) (n : Nat) (vs : List Value) (us : List Value) (hs : a.eval s = v) (hown : w.ownsRow B e sz v n vs) (g c : Nat) (hx : a.eval x = .slice (some ⟨g, 0, none⟩) 1 c) (hg : Blk w g e us) (hul : us.length = sz) (hu : ∀ u ∈ us, u.oneCell' = true)
    (hn : n + 1 ≤ maxLen) (hb : (n + 1) * bytes ≤ 140737488355328) (hB : B ≤ w.heap.size)
    (h : ∀ g' c' w', w'.ownsRow B e sz (.slice (some ⟨g', 0, none⟩) (n + 1) c') (n + 1) (vs ++ us) → Ch (fun k => v.ownBlock = some k) w w' → (v.ownBlock = some g' ∨ w.heap.size ≤ g') → wpList P ops Q rest (a.put o.dst (.slice (some ⟨g', 0, none⟩) (n + 1) c')) w') :
    wpList P ops Q (o :: rest) a w := by
  obtain ⟨i0, hi, h0, h1, h2⟩ := info_parts hinfo
  refine wpList_append_own_at _ hgd s x t ho B e i0 z sz bytes ht hi h0 h1 h2 hz hsz v n vs hs hown ⟨g, 0, none⟩ 1 c us hx (by omega)
    (by
      intro j u' hj
      have e1 : (⟨g, 0, none⟩ : Addr).add j = ⟨g, j, none⟩ := by unfold Addr.add; split <;> simp_all
      rw [e1, hg.cell j]
      exact hj)
    hu hn hb hB ?_
  intro v' w' hown' hgr _ hat
  rcases hown'.2 with ⟨_, hz0⟩ | ⟨g', cap, cur, rfl, hb', hgg, hnc, hm, hsz', htk⟩
  · omega
  · refine h g' cap w' hown' (Ch.grown (S := fun k => v.ownBlock = some k) (Ch.refl _ w) hgr (fun k hk _ => hk)) ?_
    rcases hat with hat | hat
    · exact .inl (by rw [← hat]; rfl)
    · have e : g' = w.heap.size := by simpa [Value.ownBlock] using hat
      exact .inr (by omega)

/-- an account: what may be spent, what is -/
structure Acc where
  m : Int
  s : Int
def Acc.Ok (a : Acc) : Prop := 0 ≤ a.s ∧ a.s ≤ a.m ∧ a.m ≤ 9223372036854775807
def Acc.enc (a : Acc) : List Value := [.int .i64 a.m, .int .i64 a.s]
def flat (l : List Acc) : List Value := l.flatMap Acc.enc
theorem flat_len (l : List Acc) : (flat l).length = l.length * 2 := by
  induction l with
  | nil => rfl
  | cons a l ih => unfold flat at *; rw [List.flatMap_cons, List.length_append, ih]; simp [Acc.enc]; omega
theorem flat_app (l k : List Acc) : flat (l ++ k) = flat l ++ flat k := by simp [flat]
theorem flat_at (pre post : List Acc) (a : Acc) : (flat (pre ++ a :: post))[pre.length * 2]? = some (.int .i64 a.m) ∧ (flat (pre ++ a :: post))[pre.length * 2 + 1]? = some (.int .i64 a.s) := by
  have e : flat (a :: post) = .int .i64 a.m :: .int .i64 a.s :: flat post := by simp [flat, Acc.enc]
  rw [flat_app, e]
  constructor
  · rw [List.getElem?_append_right (by rw [flat_len]; omega), flat_len]; simp
  · rw [List.getElem?_append_right (by rw [flat_len]; omega), flat_len]; simp
theorem flat_set (pre post : List Acc) (a : Acc) (n : Int) : (flat (pre ++ a :: post)).set (pre.length * 2 + 1) (.int .i64 n) = flat (pre ++ ⟨a.m, n⟩ :: post) := by
  have e : ∀ a : Acc, flat (a :: post) = .int .i64 a.m :: .int .i64 a.s :: flat post := fun a => by simp [flat, Acc.enc]
  rw [flat_app, flat_app, e, e, List.set_append_right _ _ (by rw [flat_len]; omega), flat_len]
  simp

/-- a ledger in block g, its accounts in block k, all beyond block B -/
structure Led (w : World) (B g : Nat) (k : Option Nat) (l : List Acc) : Prop where
  ex : ∃ v, Blk w g 77 [v] ∧ w.ownsRow B 79 2 v l.length (flat l) ∧ v.ownBlock = k
  ne : k ≠ some g
  ok : ∀ a ∈ l, a.Ok
theorem Led.lt {w : World} {B g : Nat} {k : Option Nat} {l : List Acc} (h : Led w B g k l) : g < w.heap.size := by obtain ⟨_, b, _⟩ := h.ex; exact b.lt
theorem Led.klt {w : World} {B g i : Nat} {k : Option Nat} {l : List Acc} (h : Led w B g k l) (hk : k = some i) : B ≤ i ∧ i < w.heap.size := by
  obtain ⟨v, _, r, e⟩ := h.ex
  exact r.lt i (by rw [e, hk])
theorem Led.ch {S : Nat → Prop} {w w' : World} {B g : Nat} {k : Option Nat} {l : List Acc} (h : Led w B g k l) (hc : Ch S w w') (hg : ¬ S g) (hk : ∀ i, k = some i → ¬ S i) : Led w' B g k l := by
  obtain ⟨v, b, r, e⟩ := h.ex
  exact ⟨⟨v, b.ch hc hg, rowZ_ch r hc (fun i hi => hk i (by rw [← e, hi])), e⟩, h.ne, h.ok⟩
/-- its cells -/
theorem Led.at {w : World} {B g : Nat} {k : Option Nat} {pre post : List Acc} {a : Acc} (h : Led w B g k (pre ++ a :: post)) :
    ∃ i c, k = some i ∧ w.cell? ⟨g, 0, none⟩ = some (.slice (some ⟨i, 0, none⟩) (pre ++ a :: post).length c) ∧ w.cell? ⟨i, pre.length * 2, none⟩ = some (.int .i64 a.m) ∧ w.cell? ⟨i, pre.length * 2 + 1, none⟩ = some (.int .i64 a.s) ∧ w.frozen? ⟨i, pre.length * 2 + 1, none⟩ = false ∧ (pre ++ a :: post).length ≤ c := by
  obtain ⟨v, b, r, e⟩ := h.ex
  have r' := r
  rcases r.2 with ⟨_, h0⟩ | ⟨i, cap, cur, rfl, hb, hg, hnc, _⟩
  · simp at h0
  · have hk : k = some i := by rw [← e]; rfl
    have h1 := r'.cellAt (pre.length * 2) (by rw [List.length_append, List.length_cons]; omega)
    have h2 := r'.cellAt (pre.length * 2 + 1) (by rw [List.length_append, List.length_cons]; omega)
    rw [(flat_at pre post a).1] at h1
    rw [(flat_at pre post a).2] at h2
    exact ⟨i, cap, hk, b.cell 0, h1, h2, r'.frozenAt _, hnc⟩
theorem Led.len {w : World} {B g : Nat} {k : Option Nat} {l : List Acc} (h : Led w B g k l) : ∃ A c, w.cell? ⟨g, 0, none⟩ = some (.slice A l.length c) := by
  obtain ⟨v, b, r, e⟩ := h.ex
  rcases r.2 with ⟨rfl, h0⟩ | ⟨i, cap, cur, rfl, hb, hg, hnc, _⟩
  · exact ⟨none, 0, by rw [b.cell 0]; simp [h0]⟩
  · exact ⟨_, cap, b.cell 0⟩
theorem Led.set {w : World} {B g i : Nat} {k : Option Nat} {pre post : List Acc} {a : Acc} (h : Led w B g k (pre ++ a :: post)) (hk : k = some i) (n : Int) (hok : (⟨a.m, n⟩ : Acc).Ok) :
    Led (w.setCell ⟨i, pre.length * 2 + 1, none⟩ (.int .i64 n)) B g k (pre ++ ⟨a.m, n⟩ :: post) := by
  obtain ⟨v, b, r, e⟩ := h.ex
  have r' := r
  rcases r.2 with ⟨_, h0⟩ | ⟨j, cap, cur, rfl, hb, hg, hnc, _⟩
  · simp at h0
  · obtain rfl : j = i := by have : some j = some i := by rw [← hk, ← e]; rfl
                             simpa using this
    have q := (World.ownsRow.stored r' (pre.length * 2 + 1) (.int .i64 n)).1
    rw [flat_set] at q
    refine ⟨⟨_, b.set_other (p := ⟨j, pre.length * 2 + 1, none⟩) (fun he => h.ne (by rw [hk, he])) _, ?_, e⟩, h.ne, ?_⟩
    · simpa using q
    · intro x hx
      simp only [List.mem_append, List.mem_cons] at hx
      rcases hx with hx | rfl | hx
      · exact h.ok x (by simp [hx])
      · exact hok
      · exact h.ok x (by simp [hx])

/-- what is left at i, and the error -/
def leftI (l : List Acc) (i : Int) : Int := if 0 ≤ i then (match l[i.toNat]? with | some a => a.m - a.s | none => 0) else 0
def errI (l : List Acc) (i : Int) : Int := if 0 ≤ i ∧ i < l.length then 0 else 4
def spentI (l : List Acc) (i : Int) : Int := if 0 ≤ i then (match l[i.toNat]? with | some a => a.s | none => 0) else 0

set_option maxHeartbeats 1000000 in
theorem Bthere_any (w : World) (B g : Nat) (k : Option Nat) (l : List Acc) (h : Led w B g k l) (i : Int) :
    Calls Try.prog 36 #[.pointer (some ⟨g, 0, none⟩), .int .i64 i] w fun e w' => e = .returned (.bool (decide (0 ≤ i ∧ i < l.length))) ∧ w = w' := by
  obtain ⟨A, c, q0⟩ := h.len
  clear h
  by_cases h0 : 0 ≤ i
  · by_cases h1 : i < l.length
    · go_enter Try.func36, Try.ntmps36
      go_wp2_with fail
      go_ret
      exact ⟨ret_bool (by simp; omega), rfl⟩
    · go_enter Try.func36, Try.ntmps36
      go_wp2_with fail
      go_ret
      exact ⟨ret_bool (by simp; omega), rfl⟩
  · go_enter Try.func36, Try.ntmps36
    go_wp2_with fail
    go_ret
    exact ⟨ret_bool (by simp; omega), rfl⟩

set_option maxHeartbeats 1000000 in
theorem BLen_any (w : World) (B g : Nat) (k : Option Nat) (l : List Acc) (h : Led w B g k l) :
    Calls Try.prog 30 #[.pointer (some ⟨g, 0, none⟩)] w fun e w' => e = .returned (.int .i64 l.length) ∧ w = w' := by
  obtain ⟨A, c, q0⟩ := h.len
  clear h
  go_enter Try.func30, Try.ntmps30
  go_wp2_with fail
  go_ret
  exact ⟨rfl, rfl⟩
end Go.Proofs.Ytjphocpnmhheeaa
