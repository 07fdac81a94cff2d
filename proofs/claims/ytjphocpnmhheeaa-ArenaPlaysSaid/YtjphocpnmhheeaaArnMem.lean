/- arena: nodes in memory; the small functions. -/
import Derived.Test.YtjphocpnmhheeaaOwn
import Derived.Test.YtjphocpnmhheeaaNum
import Derived.Test.YtjphocpnmhheeaaProg
import Derived.Test.YtjphocpnmhheeaaLexF
import Derived.Deep.RegionWith
namespace Go.Proofs.Ytjphocpnmhheeaa
open Go.RowKit

theorem rowN_ch {S : Nat → Prop} {w w' : World} {B n sz : Nat} {e : TypeId} {v : Value} {vs : List Value} (h : w.ownsRow B e sz v n vs) (hc : Ch S w w') (hn : ∀ k, v.ownBlock = some k → ¬ S k) : w'.ownsRow B e sz v n vs := by
  refine ⟨h.1, ?_⟩
  rcases h.2 with h0 | ⟨g, cap, cur, rfl, hb, hg, rest⟩
  · exact .inl h0
  · exact .inr ⟨g, cap, cur, rfl, hb, hc.at hg (hn g rfl), rest⟩
theorem rowN_lower {w : World} {B C n sz : Nat} {e : TypeId} {v : Value} {vs : List Value} (h : w.ownsRow B e sz v n vs) (hC : C ≤ B) : w.ownsRow C e sz v n vs :=
  ⟨h.1, h.2.elim Or.inl (fun ⟨g, cap, cur, hv, hg, r⟩ => Or.inr ⟨g, cap, cur, hv, Nat.le_trans hC hg, r⟩)⟩
/-- append of one element of sz cells, that has just been laid -/
theorem appR {P : Program} {ops : Array Oper} {Q : Exit → Act → World → Prop} {a : Act} {w : World} {rest : List Oper} {o : Oper} (hgd : o.guard = none) (s x : Operand) (t e : TypeId)
    (ho : o.op = .call { callee := .builtin .append, args := #[s, x], argTypes := #[t, t] }) (z : Value) (sz bytes : Nat)
    (ht : P.underlying t = some (.slice e)) (hinfo : (P.info? e).map (fun i => (i.zero, i.size, i.bytes)) = some (some z, sz, bytes)) (hz : z.cells.size = sz) (hsz : 0 < sz)
    (B : Nat) (v : Value) (n : Nat) (vs : List Value) (us : List Value) (hs : a.eval s = v) (hown : w.ownsRow B e sz v n vs) (g c : Nat) (hx : a.eval x = .slice (some ⟨g, 0, none⟩) 1 c) (hg : g = w.heap.size) (hul : us.length = sz) (hu : ∀ u ∈ us, u.oneCell' = true)
    (hn : n + 1 ≤ maxLen) (hb : (n + 1) * bytes ≤ 140737488355328) (hB : B ≤ w.heap.size)
    (h : ∀ g' c' w', w'.ownsRow B e sz (.slice (some ⟨g', 0, none⟩) (n + 1) c') (n + 1) (vs ++ us) → Ch (fun k => v.ownBlock = some k) w w' → (v.ownBlock = some g' ∨ w.heap.size ≤ g') → wpList P ops Q rest (a.put o.dst (.slice (some ⟨g', 0, none⟩) (n + 1) c')) w') :
    wpList P ops Q (o :: rest) a (w.alloc (.cells us.toArray e)) := by
  subst hg
  obtain ⟨i0, hi, h0, h1, h2⟩ := info_parts hinfo
  refine wpList_append_own_at _ hgd s x t ho B e i0 z sz bytes ht hi h0 h1 h2 hz hsz v n vs hs (rowN_ch hown ((Ch.refl No w).alloc _) (fun _ _ h => h)) ⟨w.heap.size, 0, none⟩ 1 c us hx (by omega)
    (by
      intro j u' hj
      have e1 : (⟨w.heap.size, 0, none⟩ : Addr).add j = ⟨w.heap.size, j, none⟩ := by unfold Addr.add; split <;> simp_all
      rw [e1, (Blk.new w e us).cell j]
      exact hj)
    hu hn hb (by simp; omega) ?_
  intro v' w' hown' hgr _ hat
  rcases hown'.2 with ⟨_, hz0⟩ | ⟨g', cap, cur, rfl, hb', hgg, hnc, hm, hsz', htk⟩
  · omega
  · refine h g' cap w' hown' (((Ch.refl _ w).alloc _).trans (Ch.grown (S := fun k => v.ownBlock = some k) (Ch.refl _ _) hgr (fun k hk _ => hk))) ?_
    rcases hat with hat | hat
    · exact .inl (by rw [← hat]; rfl)
    · have e : g' = w.heap.size + 1 := by simpa [Value.ownBlock] using hat
      exact .inr (by omega)

/-- a node -/
structure Nd where
  l : Int
  r : Int
  c : Int
  s : Int
  mn : Int
  mx : Int
  k : Bool
deriving DecidableEq
def Nd.enc (a : Nd) : List Value := [.int .i32 a.l, .int .i32 a.r, .int .i64 a.c, .int .i64 a.s, .int .i64 a.mn, .int .i64 a.mx, .bool a.k]
def Nd.val (a : Nd) : Value := .agg #[.int .i32 a.l, .int .i32 a.r, .int .i64 a.c, .int .i64 a.s, .int .i64 a.mn, .int .i64 a.mx, .bool a.k]
def Nd.zero : Nd := ⟨0, 0, 0, 0, 0, 0, false⟩
def flatN (l : List Nd) : List Value := l.flatMap Nd.enc
theorem flatN_len (l : List Nd) : (flatN l).length = l.length * 7 := by
  induction l with
  | nil => rfl
  | cons a l ih => unfold flatN at *; rw [List.flatMap_cons, List.length_append, ih]; simp [Nd.enc]; omega
theorem flatN_app (l k : List Nd) : flatN (l ++ k) = flatN l ++ flatN k := by simp [flatN]
theorem flatN_cons (a : Nd) (l : List Nd) : flatN (a :: l) = a.enc ++ flatN l := by simp [flatN]
theorem flatN_at (pre post : List Nd) (a : Nd) (j : Nat) (hj : j < 7) : (flatN (pre ++ a :: post))[pre.length * 7 + j]? = a.enc[j]? := by
  rw [flatN_app, flatN_cons, List.getElem?_append_right (by rw [flatN_len]; omega), flatN_len, show pre.length * 7 + j - pre.length * 7 = j from by omega, List.getElem?_append_left (by simp [Nd.enc]; omega)]

/-- an arena in block g, its nodes in block k, all beyond block B -/
structure Ar (w : World) (B g : Nat) (k : Option Nat) (lim : Int) (l : List Nd) : Prop where
  ex : ∃ v, Blk w g 70 [v, .int .i64 lim] ∧ w.ownsRow B 34 7 v l.length (flatN l) ∧ v.ownBlock = k
  ne : k ≠ some g
theorem Ar.lt {w : World} {B g : Nat} {k : Option Nat} {lim : Int} {l : List Nd} (h : Ar w B g k lim l) : g < w.heap.size := by obtain ⟨_, b, _⟩ := h.ex; exact b.lt
theorem Ar.klt {w : World} {B g i : Nat} {k : Option Nat} {lim : Int} {l : List Nd} (h : Ar w B g k lim l) (hk : k = some i) : B ≤ i ∧ i < w.heap.size := by
  obtain ⟨v, _, r, e⟩ := h.ex
  exact r.lt i (by rw [e, hk])
theorem Ar.ch {S : Nat → Prop} {w w' : World} {B g : Nat} {k : Option Nat} {lim : Int} {l : List Nd} (h : Ar w B g k lim l) (hc : Ch S w w') (hg : ¬ S g) (hk : ∀ i, k = some i → ¬ S i) : Ar w' B g k lim l := by
  obtain ⟨v, b, r, e⟩ := h.ex
  exact ⟨⟨v, b.ch hc hg, rowN_ch r hc (fun i hi => hk i (by rw [← e, hi])), e⟩, h.ne⟩
theorem Ar.no {w w' : World} {B g : Nat} {k : Option Nat} {lim : Int} {l : List Nd} (h : Ar w B g k lim l) (hc : Ch No w w') : Ar w' B g k lim l := h.ch hc (fun h => h) (fun _ _ h => h)
theorem Ar.lower {w : World} {B C g : Nat} {k : Option Nat} {lim : Int} {l : List Nd} (h : Ar w B g k lim l) (hC : C ≤ B) : Ar w C g k lim l := by
  obtain ⟨v, b, r, e⟩ := h.ex
  exact ⟨⟨v, b, rowN_lower r hC, e⟩, h.ne⟩
theorem Ar.len {w : World} {B g : Nat} {k : Option Nat} {lim : Int} {l : List Nd} (h : Ar w B g k lim l) : ∃ A c, w.cell? ⟨g, 0, none⟩ = some (.slice A l.length c) ∧ w.cell? ⟨g, 1, none⟩ = some (.int .i64 lim) ∧ l.length ≤ c := by
  obtain ⟨v, b, r, e⟩ := h.ex
  rcases r.2 with ⟨rfl, h0⟩ | ⟨i, cap, cur, rfl, hb, hg, hnc, _⟩
  · exact ⟨none, 0, by rw [b.cell 0]; simp [h0], b.cell 1, by omega⟩
  · exact ⟨_, cap, b.cell 0, b.cell 1, hnc⟩
/-- the cells of a node -/
theorem Ar.at {w : World} {B g : Nat} {k : Option Nat} {lim : Int} {pre post : List Nd} {a : Nd} (h : Ar w B g k lim (pre ++ a :: post)) :
    ∃ i c, k = some i ∧ w.cell? ⟨g, 0, none⟩ = some (.slice (some ⟨i, 0, none⟩) (pre ++ a :: post).length c) ∧ w.cell? ⟨g, 1, none⟩ = some (.int .i64 lim) ∧
      (∀ j, j < 7 → w.cell? ⟨i, pre.length * 7 + j, none⟩ = a.enc[j]?) ∧ (∀ j, w.frozen? ⟨i, j, none⟩ = false) ∧ (pre ++ a :: post).length ≤ c := by
  obtain ⟨v, b, r, e⟩ := h.ex
  have r' := r
  rcases r.2 with ⟨_, h0⟩ | ⟨i, cap, cur, rfl, hb, hg, hnc, _⟩
  · simp at h0
  · have hk : k = some i := by rw [← e]; rfl
    refine ⟨i, cap, hk, b.cell 0, b.cell 1, fun j hj => ?_, fun j => r'.frozenAt _, hnc⟩
    have h1 := r'.cellAt (pre.length * 7 + j) (by rw [List.length_append, List.length_cons]; omega)
    rw [flatN_at pre post a j hj] at h1
    exact h1

def inA (l : List Nd) (i : Int) : Prop := 1 ≤ i ∧ i ≤ l.length
instance (l : List Nd) (i : Int) : Decidable (inA l i) := by unfold inA; exact inferInstance

set_option maxHeartbeats 1000000 in
theorem Athere_any (w : World) (B g : Nat) (k : Option Nat) (lim : Int) (l : List Nd) (h : Ar w B g k lim l) (i : Int) (hi : -2147483648 ≤ i ∧ i ≤ 2147483647) :
    Calls Try.prog 34 #[.pointer (some ⟨g, 0, none⟩), .int .i32 i] w fun e w' => e = .returned (.bool (decide (inA l i))) ∧ w = w' := by
  obtain ⟨A, c, q0, _, _⟩ := h.len
  clear h
  obtain ⟨hi1, hi2⟩ := hi
  by_cases h0 : 1 ≤ i
  · by_cases h1 : i ≤ l.length
    · have hd : decide (inA l i) = true := decide_eq_true (show inA l i from ⟨h0, h1⟩)
      rw [hd]
      clear hd
      go_enter Try.func34, Try.ntmps34
      go_wp2_with fail
      go_ret
      exact ⟨ret_bool (by first | rfl | (simp; done) | (simp; omega)), rfl⟩
    · have hd : decide (inA l i) = false := decide_eq_false (fun h : inA l i => by obtain ⟨x, y⟩ := h; omega)
      rw [hd]
      clear hd
      go_enter Try.func34, Try.ntmps34
      go_wp2_with fail
      go_ret
      exact ⟨ret_bool (by first | rfl | (simp; done) | (simp; omega)), rfl⟩
  · have hd : decide (inA l i) = false := decide_eq_false (fun h : inA l i => by obtain ⟨x, y⟩ := h; omega)
    rw [hd]
    clear hd
    go_enter Try.func34, Try.ntmps34
    go_wp2_with fail
    go_ret
    exact ⟨ret_bool (by first | rfl | (simp; done) | (simp; omega)), rfl⟩

set_option maxHeartbeats 1000000 in
theorem ALen_any (w : World) (B g : Nat) (k : Option Nat) (lim : Int) (l : List Nd) (h : Ar w B g k lim l) :
    Calls Try.prog 20 #[.pointer (some ⟨g, 0, none⟩)] w fun e w' => e = .returned (.int .i64 l.length) ∧ w = w' := by
  obtain ⟨A, c, q0, _, _⟩ := h.len
  clear h
  go_enter Try.func20, Try.ntmps20
  go_wp2_with fail
  go_ret
  exact ⟨rfl, rfl⟩

set_option maxHeartbeats 1000000 in
theorem ARoom_any (w : World) (B g : Nat) (k : Option Nat) (lim : Int) (l : List Nd) (h : Ar w B g k lim l) (hl : l.length ≤ lim) (hm : lim ≤ 4194304) :
    Calls Try.prog 21 #[.pointer (some ⟨g, 0, none⟩)] w fun e w' => e = .returned (.int .i64 (lim - l.length)) ∧ Ch No w w' := by
  obtain ⟨A, c, q0, q1, _⟩ := h.len
  clear h
  go_enter Try.func21, Try.ntmps21
  go_wp2_with fail
  go_region
  all_goals (try go_wp2)
  all_goals go_ret
  all_goals exact ⟨rfl, (Ch.refl No w).drew⟩

set_option maxHeartbeats 1000000 in
theorem ANew_bad (w : World) (lim : Int) (h : ¬ (1 ≤ lim ∧ lim ≤ 4194304)) :
    Calls Try.prog 13 #[.int .i64 lim] w fun e w' => e = .returned (.tuple #[.pointer none, .int .i64 1]) ∧ w = w' := by
  by_cases h0 : lim < 1
  · clear h
    go_enter Try.func13, Try.ntmps13
    go_wp2_with fail
    go_ret2
    exact ⟨rfl, rfl⟩
  · have h1 : 4194304 < lim := by omega
    clear h
    go_enter Try.func13, Try.ntmps13
    go_wp2_with fail
    go_ret2
    exact ⟨rfl, rfl⟩
set_option maxHeartbeats 1000000 in
theorem ANew_ok (w : World) (lim : Int) (h1 : 1 ≤ lim) (h2 : lim ≤ 4194304) :
    Calls Try.prog 13 #[.int .i64 lim] w fun e w' => e = .returned (.tuple #[.pointer (some ⟨w.heap.size, 0, none⟩), .int .i64 0]) ∧ Ar w' w.heap.size w.heap.size none lim [] ∧ Ch No w w' := by
  go_enter Try.func13, Try.ntmps13
  go_wp2_with fail
  go_ret2
  exact ⟨rfl, ⟨⟨_, Blk.new w _ [.slice none 0 0, .int .i64 lim], World.ownsRow_nil _ _ _ _, rfl⟩, by simp⟩, (Ch.refl No w).alloc _⟩

theorem infoNd : (Try.prog.info? 34).map (fun i => (i.zero, i.size, i.bytes)) = some (some Nd.zero.val, 7, 48) := by kernel_rfl

set_option maxHeartbeats 2000000 in
theorem AAlloc_full (w : World) (B g : Nat) (k : Option Nat) (lim : Int) (l : List Nd) (h : Ar w B g k lim l) (hl : (l.length : Int) = lim) (hm : lim ≤ 4194304) :
    Calls Try.prog 14 #[.pointer (some ⟨g, 0, none⟩)] w fun e w' => e = .returned (.tuple #[.int .i32 0, .int .i64 6]) ∧ Ch No w w' := by
  have q := ARoom_any w B g k lim l h (by omega) hm
  rw [show lim - (l.length : Int) = 0 from by omega] at q
  have HQ := Lib.hid q
  clear h hl q
  go_enter Try.func14, Try.ntmps14
  go_wp2_with fail
  refine HQ.out.mono ?_
  rintro e w1 ⟨rfl, h1⟩
  have H1 := Lib.hid h1
  clear h1
  go_wp2_with fail
  go_ret2
  exact ⟨rfl, H1.out⟩

set_option maxHeartbeats 2000000 in
theorem AAlloc_ok (w : World) (B g : Nat) (k : Option Nat) (lim : Int) (l : List Nd) (h : Ar w B g k lim l) (hB : B ≤ w.heap.size) (hl : (l.length : Int) < lim) (hm : lim ≤ 4194304) :
    Calls Try.prog 14 #[.pointer (some ⟨g, 0, none⟩)] w fun e w' => e = .returned (.tuple #[.int .i32 (l.length + 1), .int .i64 0]) ∧ ∃ k', Ar w' B g k' lim (l ++ [Nd.zero]) ∧ Ch (fun i => i = g ∨ k = some i) w w' ∧ (∀ i, k' = some i → k = some i ∨ w.heap.size ≤ i) := by
  have q := ARoom_any w B g k lim l h (by omega) hm
  have hne : ¬ lim - (l.length : Int) = 0 := by omega
  obtain ⟨d, hd⟩ : ∃ d, lim - (l.length : Int) = d := ⟨_, rfl⟩
  rw [hd] at q hne
  have hdb : (d == 0) = false := by simpa using hne
  have HQ := Lib.hid q
  have HH := Lib.hid h
  clear h q hd hne
  go_enter Try.func14, Try.ntmps14
  go_wp2_with fail
  refine HQ.out.mono ?_
  rintro e w1 ⟨rfl, h1⟩
  obtain ⟨v, b1, r1, e1⟩ := (HH.out.no h1).ex
  have c0 := b1.cell 0
  have f0 := b1.frozen 0
  simp only [List.getElem?_cons_zero] at c0
  have hwk : ∀ i, k = some i → i < w.heap.size := fun i hi => (HH.out.klt hi).2
  have hgl := HH.out.lt
  have HR := Lib.hid (And.intro r1 (And.intro e1 (And.intro h1 (And.intro b1 (And.intro hwk hgl)))))
  have hs1 := h1.size
  clear h1 b1 r1 e1 hwk
  go_wp2_with (at_builtin; refine appR rfl _ _ 49 34 rfl Nd.zero.val 7 48 Try.underlying49 infoNd rfl (by decide) B v l.length (flatN l) Nd.zero.enc rfl HR.out.1 _ 1 rfl rfl rfl (by simp [Nd.zero, Nd.enc, Value.oneCell']) ?hn ?hb ?hB ?_)
  case hn => simp [maxLen]; omega
  case hb => omega
  case hB => omega
  intro g2 c2 w2 r2 h2 hat
  obtain ⟨_, e1, h1, b1, hwk, _⟩ := HR.out
  have hne2 : ¬ v.ownBlock = some g := fun e => HH.out.ne (by rw [← e1, e])
  have b2 := b1.ch h2 hne2
  have c2' := b2.cell 0
  have f2 := b2.frozen 0
  simp only [List.getElem?_cons_zero] at c2'
  have hg2 : g2 ≠ g := by
    rcases hat with hat | hat
    · intro e; exact hne2 (by rw [hat, e])
    · omega
  have HF : Hid (w2.ownsRow B 34 7 (.slice (some ⟨g2, 0, none⟩) (l.length + 1) c2) (l.length + 1) (flatN (l ++ [Nd.zero])) ∧ Blk w2 g 70 [v, .int .i64 lim] ∧ Ch (fun i => i = g ∨ k = some i) w w2 ∧ g2 ≠ g ∧ (∀ i, (some g2 : Option Nat) = some i → k = some i ∨ w.heap.size ≤ i)) := by
    refine Lib.hid ⟨by rw [flatN_app]; simpa [flatN] using r2, b2, ?_, hg2, ?_⟩
    · exact (h1.mono (fun _ _ h => h.elim)).trans' h2 (fun i hi he => .inr (by rw [← e1]; exact he))
    · intro i hi
      cases hi
      rcases hat with hat | hat
      · exact .inl (by rw [← e1]; exact hat)
      · exact .inr (by omega)
  have hs2 := h2.size
  clear r2 h2 hat e1 h1 b1 hwk hne2 b2 hg2 c0 f0 HR
  go_wp2_with fail
  go_ret2
  obtain ⟨r2, b2, h2, hg2, hk2⟩ := HF.out
  have C : Ch (Only g) w2 (w2.setCell ⟨g, 0, none⟩ (.slice (some ⟨g2, 0, none⟩) (l.length + 1) c2)) := (Ch.refl (Only g) w2).setCell (p := ⟨g, 0, none⟩) (fun _ => rfl) _
  refine ⟨rfl, some g2, ⟨⟨_, b2.set 0 _, ?_, rfl⟩, by simpa using hg2⟩, h2.trans' C (fun i hi he => .inl he), hk2⟩
  have := rowN_ch r2 C (fun i hi he => hg2 (by have h1 : some g2 = some i := hi; have h2 : i = g := he; simp at h1; omega))
  simpa using this

theorem Ar.cells {w : World} {B g : Nat} {k : Option Nat} {lim : Int} {pre post : List Nd} {a : Nd} (h : Ar w B g k lim (pre ++ a :: post)) :
    ∃ i c, k = some i ∧ w.cell? ⟨g, 0, none⟩ = some (.slice (some ⟨i, 0, none⟩) (pre ++ a :: post).length c) ∧ w.cell? ⟨g, 1, none⟩ = some (.int .i64 lim) ∧
      (w.cell? ⟨i, pre.length * 7, none⟩ = some (.int .i32 a.l) ∧ w.cell? ⟨i, pre.length * 7 + 1, none⟩ = some (.int .i32 a.r) ∧ w.cell? ⟨i, pre.length * 7 + 2, none⟩ = some (.int .i64 a.c) ∧ w.cell? ⟨i, pre.length * 7 + 3, none⟩ = some (.int .i64 a.s) ∧ w.cell? ⟨i, pre.length * 7 + 4, none⟩ = some (.int .i64 a.mn) ∧ w.cell? ⟨i, pre.length * 7 + 5, none⟩ = some (.int .i64 a.mx) ∧ w.cell? ⟨i, pre.length * 7 + 6, none⟩ = some (.bool a.k)) ∧
      (∀ j, w.frozen? ⟨i, j, none⟩ = false) ∧ (pre ++ a :: post).length ≤ c := by
  obtain ⟨i, c, h1, h2, h3, h4, h5, h6⟩ := h.at
  exact ⟨i, c, h1, h2, h3, ⟨h4 0 (by omega), h4 1 (by omega), h4 2 (by omega), h4 3 (by omega), h4 4 (by omega), h4 5 (by omega), h4 6 (by omega)⟩, h5, h6⟩
theorem cutN {l : List Nd} {i : Int} (h : inA l i) : ∃ pre a post, l = pre ++ a :: post ∧ i = (pre.length : Nat) + 1 := by
  obtain ⟨h1, h2⟩ := h
  refine ⟨l.take (i - 1).toNat, l[(i - 1).toNat]'(by omega), l.drop ((i - 1).toNat + 1), ?_, ?_⟩
  · rw [List.getElem_cons_drop, List.take_append_drop]
  · rw [List.length_take]; omega

set_option maxHeartbeats 2000000 in
theorem AGet_no (w : World) (B g : Nat) (k : Option Nat) (lim : Int) (l : List Nd) (h : Ar w B g k lim l) (i : Int) (hi : -2147483648 ≤ i ∧ i ≤ 2147483647) (hn : ¬ inA l i) :
    Calls Try.prog 18 #[.pointer (some ⟨g, 0, none⟩), .int .i32 i] w fun e w' => e = .returned (.tuple #[Nd.zero.val, .int .i64 4]) ∧ Ch No w w' := by
  have q := fun w' (h : Ar w' B g k lim l) => Athere_any w' B g k lim l h i hi
  rw [decide_eq_false hn] at q
  have HQ := Lib.hid q
  have HH := Lib.hid h
  clear q h hn
  go_enter Try.func18, Try.ntmps18
  go_wp2_with fail
  refine (HQ.out _ (HH.out.no ((Ch.refl No w).alloc _))).mono ?_
  rintro e w1 ⟨rfl, rfl⟩
  go_wp2_with fail
  exact bodyPost_ret (v := .tuple #[Nd.zero.val, .int .i64 4]) (by simp [Nd.zero, Nd.val, results, Try.results18, go_sem]) rfl ⟨rfl, (Ch.refl No w).alloc _⟩

set_option maxHeartbeats 2000000 in
theorem AGet_ok (w : World) (B g : Nat) (k : Option Nat) (lim : Int) (pre post : List Nd) (a : Nd) (h : Ar w B g k lim (pre ++ a :: post)) (hi : pre.length + 1 ≤ 2147483647) :
    Calls Try.prog 18 #[.pointer (some ⟨g, 0, none⟩), .int .i32 ((pre.length : Nat) + 1)] w fun e w' => e = .returned (.tuple #[a.val, .int .i64 0]) ∧ Ch No w w' := by
  have q := fun w' (h : Ar w' B g k lim (pre ++ a :: post)) => Athere_any w' B g k lim _ h ((pre.length : Nat) + 1) ⟨by omega, by omega⟩
  rw [decide_eq_true (show inA (pre ++ a :: post) ((pre.length : Nat) + 1) from ⟨by omega, by simp; omega⟩)] at q
  have HQ := Lib.hid q
  have HH := Lib.hid h
  obtain ⟨kb, c, hk, q0, q1, ⟨k0, k1, k2, k3, k4, k5, k6⟩, _, hc⟩ := (h.no ((Ch.refl No w).alloc (.cells #[.int .i32 0, .int .i32 0, .int .i64 0, .int .i64 0, .int .i64 0, .int .i64 0, .bool false] 34))).cells
  have hlen : pre.length < (pre ++ a :: post).length := by simp
  generalize (pre ++ a :: post).length = n at *
  clear q h q1
  go_enter Try.func18, Try.ntmps18
  go_wp2_with fail
  refine (HQ.out _ (HH.out.no ((Ch.refl No w).alloc _))).mono ?_
  rintro e w1 ⟨rfl, rfl⟩
  go_wp2_with fail
  exact bodyPost_ret (v := .tuple #[a.val, .int .i64 0]) (by simp [Nd.val, results, Try.results18, go_sem]) rfl ⟨rfl, (Ch.refl No w).alloc _⟩

/-- node i is set to a -/
def setA (l : List Nd) (i : Int) (a : Nd) : List Nd := l.set (i - 1).toNat a
theorem setA_at (pre post : List Nd) (a b : Nd) : setA (pre ++ a :: post) ((pre.length : Nat) + 1) b = pre ++ b :: post := by
  unfold setA
  rw [show (((pre.length : Nat) : Int) + 1 - 1).toNat = pre.length from by omega, List.set_append_right _ _ (Nat.le_refl _)]
  simp

set_option maxHeartbeats 2000000 in
theorem ASet_no (w : World) (B g : Nat) (k : Option Nat) (lim : Int) (l : List Nd) (h : Ar w B g k lim l) (i : Int) (hi : -2147483648 ≤ i ∧ i ≤ 2147483647) (hn : ¬ inA l i) (b : Nd) :
    Calls Try.prog 16 #[.pointer (some ⟨g, 0, none⟩), .int .i32 i, b.val] w fun e w' => e = .returned (.int .i64 4) ∧ Ch No w w' := by
  have q := fun w' (h : Ar w' B g k lim l) => Athere_any w' B g k lim l h i hi
  rw [decide_eq_false hn] at q
  have HQ := Lib.hid q
  have HH := Lib.hid h
  clear q h hn
  unfold Nd.val
  go_enter Try.func16, Try.ntmps16
  go_wp2_with fail
  refine (HQ.out _ (HH.out.no ((Ch.refl No w).alloc _))).mono ?_
  rintro e w1 ⟨rfl, rfl⟩
  go_wp2_with fail
  go_ret
  exact ⟨rfl, (Ch.refl No w).alloc _⟩

theorem flatN_set7 (pre post : List Nd) (a b : Nd) : (((((((flatN (pre ++ a :: post)).set (pre.length * 7) (.int .i32 b.l)).set (pre.length * 7 + 1) (.int .i32 b.r)).set (pre.length * 7 + 2) (.int .i64 b.c)).set (pre.length * 7 + 3) (.int .i64 b.s)).set (pre.length * 7 + 4) (.int .i64 b.mn)).set (pre.length * 7 + 5) (.int .i64 b.mx)).set (pre.length * 7 + 6) (.bool b.k) = flatN (pre ++ b :: post) := by
  rw [flatN_app, flatN_app, flatN_cons, flatN_cons]
  have hl := flatN_len pre
  generalize flatN pre = p at *
  rw [← hl]
  rw [show p.length = p.length + 0 from rfl]
  simp only [List.set_append_right _ _ (Nat.le_add_right _ _), Nat.add_sub_cancel_left, Nat.add_assoc, Nat.zero_add]
  simp [Nd.enc]
theorem Ar.put {w : World} {B g i : Nat} {k : Option Nat} {lim : Int} {pre post : List Nd} {a : Nd} (h : Ar w B g k lim (pre ++ a :: post)) (hk : k = some i) (b : Nd) :
    Ar (((((((w.setCell ⟨i, pre.length * 7, none⟩ (.int .i32 b.l)).setCell ⟨i, pre.length * 7 + 1, none⟩ (.int .i32 b.r)).setCell ⟨i, pre.length * 7 + 2, none⟩ (.int .i64 b.c)).setCell ⟨i, pre.length * 7 + 3, none⟩ (.int .i64 b.s)).setCell ⟨i, pre.length * 7 + 4, none⟩ (.int .i64 b.mn)).setCell ⟨i, pre.length * 7 + 5, none⟩ (.int .i64 b.mx)).setCell ⟨i, pre.length * 7 + 6, none⟩ (.bool b.k)) B g k lim (pre ++ b :: post) := by
  obtain ⟨v, bl, r, e⟩ := h.ex
  have r' := r
  have hg : g ≠ i := fun he => h.ne (by rw [hk, he])
  rcases r.2 with ⟨_, h0⟩ | ⟨j, cap, cur, rfl, hb, hgg, hnc, _⟩
  · simp at h0
  · obtain rfl : j = i := by
      have : some j = some i := by rw [← hk, ← e]; rfl
      simpa using this
    have q := (World.ownsRow.stored ((World.ownsRow.stored ((World.ownsRow.stored ((World.ownsRow.stored ((World.ownsRow.stored ((World.ownsRow.stored ((World.ownsRow.stored r' (pre.length * 7) (.int .i32 b.l)).1) (pre.length * 7 + 1) (.int .i32 b.r)).1) (pre.length * 7 + 2) (.int .i64 b.c)).1) (pre.length * 7 + 3) (.int .i64 b.s)).1) (pre.length * 7 + 4) (.int .i64 b.mn)).1) (pre.length * 7 + 5) (.int .i64 b.mx)).1) (pre.length * 7 + 6) (.bool b.k)).1
    rw [flatN_set7] at q
    refine ⟨⟨_, ((((((bl.set_other hg _).set_other hg _).set_other hg _).set_other hg _).set_other hg _).set_other hg _).set_other hg _, ?_, e⟩, h.ne⟩
    simpa using q

set_option maxHeartbeats 2000000 in
theorem ASet_ok (w : World) (B g : Nat) (k : Option Nat) (lim : Int) (pre post : List Nd) (a : Nd) (h : Ar w B g k lim (pre ++ a :: post)) (hi : pre.length + 1 ≤ 2147483647) (b : Nd) :
    Calls Try.prog 16 #[.pointer (some ⟨g, 0, none⟩), .int .i32 ((pre.length : Nat) + 1), b.val] w fun e w' => e = .returned (.int .i64 0) ∧ Ar w' B g k lim (pre ++ b :: post) ∧ Ch (fun i => k = some i) w w' := by
  have q := fun w' (h : Ar w' B g k lim (pre ++ a :: post)) => Athere_any w' B g k lim _ h ((pre.length : Nat) + 1) ⟨by omega, by omega⟩
  rw [decide_eq_true (show inA (pre ++ a :: post) ((pre.length : Nat) + 1) from ⟨by omega, by simp; omega⟩)] at q
  have HQ := Lib.hid q
  have HH := Lib.hid h
  obtain ⟨kb, c, hk, q0, q1, ⟨k0, k1, k2, k3, k4, k5, k6⟩, hf, hc⟩ := (h.no ((Ch.refl No w).alloc (.cells b.enc.toArray 34))).cells
  have f0 := hf (pre.length * 7)
  have f1 := hf (pre.length * 7 + 1)
  have f2 := hf (pre.length * 7 + 2)
  have f3 := hf (pre.length * 7 + 3)
  have f4 := hf (pre.length * 7 + 4)
  have f5 := hf (pre.length * 7 + 5)
  have f6 := hf (pre.length * 7 + 6)
  have HK := Lib.hid hk
  unfold Nd.enc at q0 k0 k1 k2 k3 k4 k5 k6 f0 f1 f2 f3 f4 f5 f6
  have hlen : pre.length < (pre ++ a :: post).length := by simp
  generalize (pre ++ a :: post).length = n at *
  clear q h q1 hf hk
  unfold Nd.val
  go_enter Try.func16, Try.ntmps16
  go_wp2_with fail
  refine (HQ.out _ (HH.out.no ((Ch.refl No w).alloc _))).mono ?_
  rintro e w1 ⟨rfl, rfl⟩
  go_wp2_with fail
  go_region
  all_goals (try go_wp2)
  all_goals go_ret
  all_goals
    have h1 := (HH.out.no ((Ch.refl No w).alloc (.cells b.enc.toArray 34))).put HK.out b
    refine ⟨rfl, h1.no (Ch.refl No _).drew, ?_⟩
    refine Ch.drew ?_
    have h2 : Ch (fun i => k = some i) w (w.alloc (.cells b.enc.toArray 34)) := (Ch.refl _ w).alloc _
    exact ((((((h2.setCell (p := ⟨kb, pre.length * 7, none⟩) (fun _ => HK.out) _).setCell (p := ⟨kb, pre.length * 7 + 1, none⟩) (fun _ => HK.out) _).setCell (p := ⟨kb, pre.length * 7 + 2, none⟩) (fun _ => HK.out) _).setCell (p := ⟨kb, pre.length * 7 + 3, none⟩) (fun _ => HK.out) _).setCell (p := ⟨kb, pre.length * 7 + 4, none⟩) (fun _ => HK.out) _).setCell (p := ⟨kb, pre.length * 7 + 5, none⟩) (fun _ => HK.out) _).setCell (p := ⟨kb, pre.length * 7 + 6, none⟩) (fun _ => HK.out) _
end Go.Proofs.Ytjphocpnmhheeaa
