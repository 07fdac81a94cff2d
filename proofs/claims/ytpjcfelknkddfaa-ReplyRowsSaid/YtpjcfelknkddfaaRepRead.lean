/- reply: Read, and the reference's Read: what each comes to. -/
import Derived.Test.YtpjcfelknkddfaaRepWrite
import Derived.Test.YtpjcfelknkddfaaRefNum
import Derived.Test.YtpjcfelknkddfaaTill
namespace Go.Proofs.Ytpjcfelknkddfaa
open Go.RowKit

theorem tkO_in {xs : List Int} {n : Nat} (h : n ≤ xs.length) : tkO xs false n = xs.take n ∧ tkR xs false n = xs.drop n ∧ tkB xs false n = false := by
  have hb : tkB xs false n = false := by unfold tkB; simp; omega
  unfold tkO tkR
  rw [hb]
  exact ⟨rfl, rfl, rfl⟩
theorem tkO_out {xs : List Int} {bad : Bool} {n : Nat} (h : bad = true ∨ xs.length < n) : tkO xs bad n = [] ∧ tkR xs bad n = xs ∧ tkB xs bad n = true := by
  have hb : tkB xs bad n = true := by unfold tkB; rcases h with h | h <;> simp [h]
  unfold tkO tkR
  rw [hb]
  exact ⟨rfl, rfl, rfl⟩
/-- where a reader of numbers is -/
def RdAt (b : List Int) (n j : Nat) (cur vs : List Int) (bd : Bool) : Prop :=
  vs.length = j ∧ ((bd = false ∧ cur = b.drop (2 + 8 * j) ∧ 2 + 8 * j ≤ b.length ∧ vs = nums j (b.drop 2)) ∨ (bd = true ∧ b.length < 2 + 8 * n))
theorem RdAt.next {b : List Int} {n j : Nat} {cur vs : List Int} {bd : Bool} (h : RdAt b n j cur vs bd) (hj : j < n) : RdAt b n (j + 1) (tkR cur bd 8) (vs ++ [sgn (getN (tkO cur bd 8)) 64]) (tkB cur bd 8) := by
  obtain ⟨h1, h2⟩ := h
  refine ⟨by simp [h1], ?_⟩
  rcases h2 with ⟨rfl, rfl, h3, rfl⟩ | ⟨rfl, h3⟩
  · by_cases h8 : 8 ≤ (b.drop (2 + 8 * j)).length
    · obtain ⟨e1, e2, e3⟩ := tkO_in h8
      rw [List.length_drop] at h8
      left
      rw [e1, e2, e3, nums_snoc, List.drop_drop, List.drop_drop]
      exact ⟨rfl, by rw [show 2 + 8 * j + 8 = 2 + 8 * (j + 1) from by omega], by omega, rfl⟩
    · obtain ⟨e1, e2, e3⟩ := tkO_out (bad := false) (n := 8) (.inr (by omega : (b.drop (2 + 8 * j)).length < 8))
      rw [List.length_drop] at h8
      right
      exact ⟨e3, by omega⟩
  · obtain ⟨e1, e2, e3⟩ := tkO_out (xs := cur) (bad := true) (n := 8) (.inl rfl)
    right
    exact ⟨e3, h3⟩
/-- a reader under way: its block's owner is the call -/
structure RRd (w0 wr : World) (g E : Nat) (cur : List Int) (bd : Bool) : Prop where
  ex : ∃ A c, Rdr wr g A c cur bd ∧ ∀ a, A = some a → a.block < E
  ch : Ch No w0 wr
  lo : w0.heap.size < g
  ge : g < E
theorem RRd.no {w0 wr w' : World} {g E : Nat} {cur : List Int} {bd : Bool} (h : RRd w0 wr g E cur bd) (hc : Ch No wr w') : RRd w0 w' g E cur bd := by
  obtain ⟨A, c, h1, h2⟩ := h.ex
  exact ⟨⟨A, c, h1.ch hc (fun h => h) (fun _ _ h => h), h2⟩, h.ch.trans hc, h.lo, h.ge⟩
theorem RRdGet {w0 wr : World} {g E : Nat} {cur : List Int} {bd : Bool} (h : RRd w0 wr g E cur bd) (hb : ∀ x ∈ cur, isB x) :
    Calls Try.prog 25 #[.pointer (some ⟨g, 0, none⟩), .int .i64 1] wr fun e w' => e = .returned (.int .u64 (getN (tkO cur bd 1) : Nat)) ∧ RRd w0 w' g E (tkR cur bd 1) (tkB cur bd 1) ∧ Ch (Only g) wr w' := by
  obtain ⟨A, c, h1, h2⟩ := h.ex
  refine (Get_any wr g A c cur bd h1 hb 1).mono ?_
  rintro e w' ⟨A2, c2, rfl, h3, h4, h5⟩
  refine ⟨rfl, ⟨⟨A2, c2, h3, fun a ha => ?_⟩, h.ch.rd0 (Nat.le_of_lt h.lo) h5, h.lo, h.ge⟩, h5⟩
  obtain ⟨a0, h6, h7⟩ := h4 a ha
  rw [h7]
  exact h2 a0 h6
theorem RRdInt {w0 wr : World} {g E : Nat} {cur : List Int} {bd : Bool} (h : RRd w0 wr g E cur bd) (hb : ∀ x ∈ cur, isB x) :
    Calls Try.prog 26 #[.pointer (some ⟨g, 0, none⟩), .int .i64 8] wr fun e w' => e = .returned (.int .i64 (sgn (getN (tkO cur bd 8)) 64)) ∧ RRd w0 w' g E (tkR cur bd 8) (tkB cur bd 8) ∧ Ch (Only g) wr w' := by
  obtain ⟨A, c, h1, h2⟩ := h.ex
  refine (RInt_any wr g A c cur bd h1 hb 8).mono ?_
  rintro e w' ⟨A2, c2, rfl, h3, h4, h5⟩
  refine ⟨rfl, ⟨⟨A2, c2, h3, fun a ha => ?_⟩, h.ch.rd0 (Nat.le_of_lt h.lo) h5, h.lo, h.ge⟩, h5⟩
  obtain ⟨a0, h6, h7⟩ := h4 a ha
  rw [h7]
  exact h2 a0 h6
theorem RRdBad {w0 wr : World} {g E : Nat} {cur : List Int} {bd : Bool} (h : RRd w0 wr g E cur bd) :
    Calls Try.prog 27 #[.pointer (some ⟨g, 0, none⟩)] wr fun e w' => e = .returned (.bool bd) ∧ wr = w' := by
  obtain ⟨A, c, h1, h2⟩ := h.ex
  exact Bad_any wr g A c cur bd h1
theorem RRdLeft {w0 wr : World} {g E : Nat} {cur : List Int} {bd : Bool} (h : RRd w0 wr g E cur bd) :
    Calls Try.prog 28 #[.pointer (some ⟨g, 0, none⟩)] wr fun e w' => e = .returned (.int .i64 cur.length) ∧ wr = w' := by
  obtain ⟨A, c, h1, h2⟩ := h.ex
  exact Left_any wr g A c cur bd h1

/-- numbers under way: the reader, the reply's box, and its row -/
structure RL (w wr : World) (E g ob : Nat) (n0 : Int) (cur : List Int) (bd : Bool) (A : Option Addr) (c : Nat) (vs : List Int) : Prop where
  bt : Blk wr w.heap.size 24 [.int .i64 0, .slice none 0 0]
  rd : RRd w wr g E cur bd
  bo : Blk wr ob 24 [.int .i64 n0, .slice A vs.length c]
  ow : OwnS wr (ob + 1) 2 (.slice A vs.length c) (ints .i64 vs)
  le : E ≤ ob
theorem RRd.far {S : Nat → Prop} {w0 wr w' : World} {g E : Nat} {cur : List Int} {bd : Bool} (h : RRd w0 wr g E cur bd) (hc : Ch S wr w') (hS : ∀ k, S k → E ≤ k) : RRd w0 w' g E cur bd := by
  obtain ⟨A, c, h1, h2⟩ := h.ex
  have h3 := h.ge
  have h4 := h.lo
  exact ⟨⟨A, c, h1.ch hc (fun hk => by have := hS _ hk; omega) (fun a ha hk => by have := hS _ hk; have := h2 a ha; omega), h2⟩, h.ch.trans' hc (fun i hi hk => by have := hS _ hk; omega), h.lo, h.ge⟩
theorem RL.no {w wr w' : World} {E g ob : Nat} {n0 : Int} {cur : List Int} {bd : Bool} {A : Option Addr} {c : Nat} {vs : List Int} (h : RL w wr E g ob n0 cur bd A c vs) (hc : Ch No wr w') : RL w w' E g ob n0 cur bd A c vs :=
  ⟨h.bt.ch hc (fun h => h), h.rd.no hc, h.bo.ch hc (fun h => h), h.ow.ch hc (fun _ _ h => h), h.le⟩
theorem RL.int {w wr w' : World} {E g ob : Nat} {n0 : Int} {cur cur' : List Int} {bd bd' : Bool} {A : Option Addr} {c : Nat} {vs : List Int} (h : RL w wr E g ob n0 cur bd A c vs) (hr : RRd w w' g E cur' bd') (hc : Ch (Only g) wr w') : RL w w' E g ob n0 cur' bd' A c vs := by
  have h1 := h.rd.lo
  have h2 := h.rd.ge
  have h3 := h.le
  exact ⟨h.bt.ch hc (fun e => by have e' : w.heap.size = g := e; omega), hr, h.bo.ch hc (fun e => by have e' : ob = g := e; omega), h.ow.ch hc (fun k hk e => by have e' : k = g := e; have := (h.ow.ge k hk).1; omega), h.le⟩
theorem RL.app {w wr wa w5 : World} {E g ob n : Nat} {n0 x : Int} {cur : List Int} {bd : Bool} {A A5 : Option Addr} {c c5 : Nat} {vs : List Int} (h : RL w wr E g ob n0 cur bd A c vs) (hn : vs.length = n) (ha : Ch No wr wa) (o5 : OwnS w5 (ob + 1) 2 (.slice A5 (n + 1) c5) (ints .i64 (vs ++ [x]))) (h5 : Ch (fun k => (Value.slice A n c).ownBlock = some k) wa w5) :
    RL w (w5.setCell ⟨ob, 1, none⟩ (.slice A5 (n + 1) c5)) E g ob n0 cur bd A5 c5 (vs ++ [x]) := by
  subst hn
  have ha' := h.no ha
  have h1 := h.rd.lo
  have h2 := h.rd.ge
  have h3 := h.le
  have hk : ∀ k, (Value.slice A vs.length c).ownBlock = some k → ob + 1 ≤ k := fun k hk => (h.ow.ge k hk).1
  have b5 := ha'.bo.ch h5 (fun e => by have := hk _ e; omega)
  have t5 := ha'.bt.ch h5 (fun e => by have := hk _ e; omega)
  have r5 := ha'.rd.far h5 (fun k e => by have := hk _ e; omega)
  have c6 : Ch (Only ob) w5 (w5.setCell ⟨ob, 1, none⟩ (.slice A5 (vs.length + 1) c5)) := (Ch.refl (Only ob) w5).setCell (p := ⟨ob, 1, none⟩) (fun _ => rfl) _
  refine ⟨t5.ch c6 (fun e => by have e' : w.heap.size = ob := e; omega), r5.far c6 (fun k e => by have e' : k = ob := e; omega), ?_, ?_, h.le⟩
  · simpa using b5.set 1 (.slice A5 (vs.length + 1) c5)
  · have q := o5.ch c6 (fun k hk e => by have e' : k = ob := e; have := (o5.ge k hk).1; omega)
    simpa using q
theorem tkR_mem {xs : List Int} {bad : Bool} {n : Nat} {x : Int} (h : x ∈ tkR xs bad n) : x ∈ xs := by
  unfold tkR at h
  split at h
  · exact h
  · exact List.mem_of_mem_drop h
theorem tkO1_lt {xs : List Int} (bad : Bool) (hb : ∀ x ∈ xs, isB x) : getN (tkO xs bad 1) < 256 := by
  have h1 := getN_lt (xs := tkO xs bad 1) (fun x hx => hb x (tkO_mem hx))
  have h2 := tkO_len xs bad 1
  have h3 : 256 ^ (tkO xs bad 1).length ≤ 256 ^ 1 := Nat.pow_le_pow_right (by decide) h2
  omega
/-- what reading hands back -/
def ReadP (w : World) (b : List Int) (e : Ending) (w' : World) : Prop :=
  ∃ A c, e = .returned (.tuple #[.agg #[.int .i64 (rCode b), .slice A (rNums b).length c], .int .i64 (rErr b)]) ∧ Cls w' A (ints .i64 (rNums b)) ∧ (rNums b).length ≤ c ∧ Ch No w w'

theorem two_reads {b : List Int} (hb : ∀ x ∈ b, isB x) {n1 : Nat} (h : getN (tkO (tkR b false 1) (tkB b false 1) 1) = n1) :
    RdAt b n1 0 (tkR (tkR b false 1) (tkB b false 1) 1) [] (tkB (tkR b false 1) (tkB b false 1) 1) ∧ (2 ≤ b.length → (b[1]?.getD 0 : Int) = n1) ∧ (b.length < 2 → n1 = 0) := by
  subst h
  match b, hb with
  | [], _ =>
    obtain ⟨e1, e2, e3⟩ := tkO_out (xs := []) (bad := false) (n := 1) (.inr (by simp))
    obtain ⟨d1, d2, d3⟩ := tkO_out (xs := []) (bad := true) (n := 1) (.inl rfl)
    rw [e2, e3, d1, d2, d3]
    exact ⟨⟨rfl, .inr ⟨rfl, by simp; omega⟩⟩, fun h => by simp at h, fun _ => rfl⟩
  | [x], _ =>
    obtain ⟨e1, e2, e3⟩ := tkO_in (xs := [x]) (n := 1) (by simp)
    obtain ⟨d1, d2, d3⟩ := tkO_out (xs := []) (bad := false) (n := 1) (.inr (by simp))
    rw [e2, e3, List.drop_one, List.tail_cons, d1, d2, d3]
    exact ⟨⟨rfl, .inr ⟨rfl, by simp; omega⟩⟩, fun h => by simp at h, fun _ => rfl⟩
  | x :: y :: b, hb =>
    have h0 := hb y (by simp)
    unfold isB at h0
    obtain ⟨e1, e2, e3⟩ := tkO_in (xs := x :: y :: b) (n := 1) (by simp)
    obtain ⟨d1, d2, d3⟩ := tkO_in (xs := y :: b) (n := 1) (by simp)
    rw [e2, e3, List.drop_one, List.tail_cons, d1, d2, d3]
    exact ⟨⟨rfl, .inl ⟨rfl, rfl, by simp, rfl⟩⟩, fun _ => by simp [getN]; omega, fun h => by simp at h; omega⟩
theorem RdAt.end {b cur vs : List Int} {n : Nat} {bd : Bool} {n0 : Int} (h : RdAt b n n cur vs bd) (h1 : 2 ≤ b.length → (b[1]?.getD 0 : Int) = n) (h2 : b.length < 2 → n = 0) (h3 : n ≤ 120) (h4 : ∀ x, b[0]? = some x → x = n0) :
    (bd = true → rErr b = 20) ∧ (bd = false → (0 < cur.length → rErr b = 22) ∧ (cur.length = 0 → rErr b = 0 ∧ rCode b = n0 ∧ rNums b = vs)) := by
  obtain ⟨hv, hc⟩ := h
  rcases hc with ⟨rfl, rfl, h5, rfl⟩ | ⟨rfl, h5⟩
  · refine ⟨(fun h => by cases h), fun _ => ⟨fun h => ?_, fun h => ?_⟩⟩
    · rw [List.length_drop] at h
      unfold rErr
      rw [h1 (by omega), if_neg (by omega), if_neg (by omega), if_neg (by omega), if_pos (by omega)]
    · rw [List.length_drop] at h
      have he : rErr b = 0 := by
        unfold rErr
        rw [h1 (by omega), if_neg (by omega), if_neg (by omega), if_neg (by omega), if_neg (by omega)]
      refine ⟨he, ?_, ?_⟩
      · unfold rCode
        rw [if_pos he]
        cases b with
        | nil => simp at h5
        | cons y b => exact h4 y rfl
      · unfold rNums
        rw [if_pos he, h1 (by omega), Int.toNat_natCast]
  · refine ⟨fun _ => ?_, (fun h => by cases h)⟩
    unfold rErr
    by_cases h6 : b.length < 2
    · rw [if_pos h6]
    · rw [h1 (by omega), if_neg h6, if_neg (by omega), if_pos (by omega)]
theorem ReadP.bad {w w' : World} {b : List Int} {er : Int} (he : rErr b = er) (h0 : er ≠ 0) (h : Ch No w w') : ReadP w b (.returned (.tuple #[.agg #[.int .i64 0, .slice none 0 0], .int .i64 er])) w' := by
  have h1 : rCode b = 0 := by unfold rCode; rw [if_neg (by rw [he]; exact h0)]
  have h2 : rNums b = [] := by unfold rNums; rw [if_neg (by rw [he]; exact h0)]
  refine ⟨none, 0, by rw [h1, h2, he]; rfl, by rw [h2]; exact Cls.nil _ _, by rw [h2]; simp, h⟩

set_option maxHeartbeats 8000000 in
set_option maxRecDepth 100000 in
theorem RepR_any (w : World) (A : Option Addr) (c : Nat) (b : List Int) (hx : Cls w A (ints .u8 b)) (hb : ∀ x ∈ b, isB x) (hl : b.length ≤ 1000000) :
    Calls Try.prog 10 #[.slice A b.length c] w (ReadP w b) := by
  have C1 := (Ch.refl No w).alloc (.cells #[.int .i64 0, .slice none 0 0] 24)
  have hop := Open_any (w.alloc (.cells #[.int .i64 0, .slice none 0 0] 24)) A c b (hx.ch C1 (fun _ _ h => h)) (by omega)
  have HO := Lib.hid hop
  have B1 := Blk.new w 24 [.int .i64 0, .slice none 0 0]
  have HB := Lib.hid (And.intro B1 (And.intro C1 hb))
  clear hx hop B1 C1 hb
  go_enter Try.func10, Try.ntmps10
  go_wp2_with fail
  refine HO.out.mono ?_
  rintro e w1 ⟨g, A1, c1, rfl, h1, h2, h3, h4⟩
  have hgs : w.heap.size + 1 ≤ g := by simpa using h2
  have HR1 : Hid (Blk w1 w.heap.size 24 [.int .i64 0, .slice none 0 0] ∧ RRd w w1 g w1.heap.size b false) := Lib.hid ⟨HB.out.1.ch h4 (fun h => h), ⟨⟨A1, c1, h1, fun a ha => (h3 a ha).2⟩, HB.out.2.1.trans h4, by omega, h1.lt⟩⟩
  clear h1 h2 h3 h4 HO
  go_wp2_with fail
  refine (RRdGet HR1.out.2 HB.out.2.2).mono ?_
  rintro e w2 ⟨rfl, h2, h3⟩
  have hn0 := tkO1_lt false HB.out.2.2
  have HR2 : Hid (Blk w2 w.heap.size 24 [.int .i64 0, .slice none 0 0] ∧ RRd w w2 g w1.heap.size (tkR b false 1) (tkB b false 1) ∧ w1.heap.size ≤ w2.heap.size) := Lib.hid ⟨HR1.out.1.ch h3 (fun he => by have h' : w.heap.size = g := he; omega), h2, h3.size⟩
  have HV : Hid (∀ k : Nat, getN (tkO b false 1) = k → ∀ x, b[0]? = some x → x = (k : Int)) := Lib.hid (by
    rintro k rfl x hx
    cases b with
    | nil => simp at hx
    | cons y b =>
      have h0 := HB.out.2.2 y (by simp)
      unfold isB at h0
      obtain ⟨e1, _, _⟩ := tkO_in (xs := y :: b) (n := 1) (by simp)
      rw [e1]
      have : y = x := by simpa using hx
      subst this
      simp [getN]
      omega)
  clear h2 h3 HR1
  obtain ⟨n0, hn⟩ : ∃ n, getN (tkO b false 1) = n := ⟨_, rfl⟩
  have HV0 := Lib.hid (HV.out n0 hn)
  rw [hn] at hn0 ⊢
  clear hn HV
  go_wp2_with fail
  have HL0 : Hid (RL w (w2.alloc (.cells #[.int .i64 n0, .slice none 0 0] 24)) w1.heap.size g w2.heap.size n0 (tkR b false 1) (tkB b false 1) none 0 []) := Lib.hid ⟨HR2.out.1.alloc _, HR2.out.2.1.no ((Ch.refl No w2).alloc _), Blk.new w2 _ [.int .i64 n0, .slice none 0 0], OwnS.nil _ _ _, HR2.out.2.2⟩
  clear HR2
  generalize w2.alloc (.cells #[.int .i64 n0, .slice none 0 0] 24) = w3 at *
  generalize w2.heap.size = ob at *
  refine (RRdGet HL0.out.rd (fun x hx => HB.out.2.2 x (tkR_mem hx))).mono ?_
  rintro e w4 ⟨rfl, h4, h5⟩
  have hn1 := tkO1_lt (xs := tkR b false 1) (tkB b false 1) (fun x hx => HB.out.2.2 x (tkR_mem hx))
  have HL1 := Lib.hid (HL0.out.int h4 h5)
  clear h4 h5 HL0
  obtain ⟨n1, hn⟩ : ∃ n, getN (tkO (tkR b false 1) (tkB b false 1) 1) = n := ⟨_, rfl⟩
  have HT := Lib.hid (two_reads HB.out.2.2 hn)
  rw [hn] at hn1 ⊢
  clear hn
  have HCB : Hid (∀ x ∈ tkR (tkR b false 1) (tkB b false 1) 1, isB x) := Lib.hid (fun x hx => HB.out.2.2 x (tkR_mem (tkR_mem hx)))
  generalize tkR (tkR b false 1) (tkB b false 1) 1 = cur1 at *
  generalize tkB (tkR b false 1) (tkB b false 1) 1 = bd1 at *
  by_cases h120 : 120 < n1
  · have he : rErr b = 3 := by
      have h2 : 2 ≤ b.length := by
        by_cases h : b.length < 2
        · have := HT.out.2.2 h; omega
        · omega
      unfold rErr
      rw [HT.out.2.1 h2, if_neg (by omega), if_pos (by omega)]
    have HE := Lib.hid he
    clear he
    have t0 := HL1.out.bt.cell 0
    have t1 := HL1.out.bt.cell 1
    have f0 := HL1.out.bt.frozen 0
    have f1 := HL1.out.bt.frozen 1
    simp only [List.getElem?_cons_zero, List.getElem?_cons_succ] at t0 t1
    have HC := Lib.hid (((HL1.out.rd.ch.setCell (p := ⟨w.heap.size, 0, none⟩) (fun h => by simp at h) (.int .i64 0)).setCell (p := ⟨w.heap.size, 1, none⟩) (fun h => by simp at h) (.slice none 0 0)))
    go_wp2_with fail
    exact bodyPost_ret (v := .tuple #[.agg #[.int .i64 0, .slice none 0 0], .int .i64 3]) (by simp [results, Try.results10, go_sem, *]) rfl (ReadP.bad HE.out (by decide) HC.out)
  go_wp2_with fail
  generalize decide (120 < (n1 : Int)) = bq at *
  go_loopw [19] (fun i wr => ∃ (j : Nat) (cur vs : List Int) (bd : Bool) (A2 : Option Addr) (c2 : Nat), j ≤ n1 ∧ i = .int .u64 j ∧ Hid (RL w wr w1.heap.size g ob n0 cur bd A2 c2 vs ∧ RdAt b n1 j cur vs bd ∧ ∀ x ∈ cur, isB x)) (fun i _ => n1 - (intOf i).toNat)
  case atStart => exact ⟨0, cur1, [], bd1, none, 0, by omega, rfl, Lib.hid ⟨HL1.out, HT.out.1, HCB.out⟩⟩
  case round =>
    clear HL1
    obtain ⟨j, cur, vs, bd, A2, c2, hj, rfl, hst⟩ := hrel
    have hvl := hst.out.2.1.1
    have HVL := Lib.hid hvl
    by_cases hjn : j < n1
    · have hnx := hst.out.2.1.next hjn
      have hri := RRdInt (hst.out.1.no (Ch.refl No wr).drew).rd hst.out.2.2
      have hcb : ∀ x ∈ tkR cur bd 8, isB x := fun x hx => hst.out.2.2 x (tkR_mem hx)
      have G2 := Lib.hid (hst.out.1.no (Ch.refl No wr).drew)
      have k2 := hst.out.1.bo.cell 1
      rw [hvl] at k2
      simp only [List.getElem?_cons_zero, List.getElem?_cons_succ] at k2
      have K2 : Hid (wr.drew.cell? ⟨ob, 1, none⟩ = some (.slice A2 j c2)) := Lib.hid k2
      generalize sgn (getN (tkO cur bd 8)) 64 = x at *
      generalize tkR cur bd 8 = cur' at *
      generalize tkB cur bd 8 = bd' at *
      have HN := Lib.hid (And.intro hnx hcb)
      have HRI := Lib.hid hri
      clear hnx hri hst hvl hcb
      go_wp2_with fail
      refine region_till (T := fun w' => w'.cell? ⟨ob, 1, none⟩ = some (.slice A2 j c2)) (s := 7) (by kernel_rfl) (fun hT => ?_) K2.out
      refine wpTill_take [7] (i := 0) (v := ?v0) rfl (by kernel_rfl) (by kernel_rfl) (by kernel_rfl) (fun _ _ _ h => by cases h.1) _ _ _ _ (by kernel_rfl) (by kernel_rfl) (by kernel_rfl) (Or.inl ⟨by rfl, ?y0⟩) hT ?r0
      case y0 =>
        intro w' hw'
        go_simp
        try with_reducible rfl
      case r0 =>
        simp only [Act.put]
        refine wpTill_take [7] (i := 1) (v := ?v1) rfl (by kernel_rfl) (by kernel_rfl) (by kernel_rfl) (fun _ _ _ h => by cases h.1) _ _ _ _ (by kernel_rfl) (by kernel_rfl) (by kernel_rfl) (Or.inl ⟨by rfl, ?y1⟩) hT ?r1
        case y1 =>
          intro w' hw'
          go_simp
          try with_reducible rfl
        case r1 =>
          simp only [Act.put]
          refine wpTill_take [7] (i := 2) (v := ?v2) rfl (by kernel_rfl) (by kernel_rfl) (by kernel_rfl) (fun _ _ _ h => by cases h.1) _ _ _ _ (by kernel_rfl) (by kernel_rfl) (by kernel_rfl) (Or.inl ⟨by rfl, ?y2⟩) hT ?r2
          case y2 =>
            intro w' hw'
            go_simp
            try with_reducible rfl
          case r2 =>
            simp only [Act.put]
            refine wpTill_1 (i := 3) rfl (by kernel_rfl) (fun K hK => ?_)
            go_simp
            go_at_call 26
            refine HRI.out.mono ?_
            rintro e w5 ⟨rfl, h5, h6⟩
            have G3 := Lib.hid (G2.out.int h5 h6)
            have K3 : Hid (w5.cell? ⟨ob, 1, none⟩ = some (.slice A2 j c2)) := Lib.hid (by have := G3.out.bo.cell 1; rw [HVL.out] at this; exact this)
            clear h5 h6
            go_simp
            refine hK.out _ _ (fun _ => K3.out) ?_
            clear hK K
            try simp only [Act.put]
            refine wpTill_1 (i := 4) rfl (by kernel_rfl) (fun K hK => ?_)
            go_simp
            refine hK.out _ _ (fun _ => cell_al _ K3.out) ?_
            clear hK K
            try simp only [Act.put]
            refine wpTill_1 (i := 5) rfl (by kernel_rfl) (fun K hK => ?_)
            refine step_appI (by rfl) (.tmp 22) (.tmp 25) 22 2 (by rfl) .i64 0 8 Try.underlying22 i64info (ob + 1) A2 c2 j vs HVL.out (by simp [Act.eval]) (by have := G3.out.ow.ch ((Ch.refl No w5).alloc (.cells #[.int .i64 x] 2)) (fun _ _ h => h); rw [HVL.out] at this; exact this) (some ⟨w5.heap.size, 0, none⟩) 1 1 [x] rfl (by simp [Act.eval]) (Cls.lit w5 2 [.int .i64 x]) (by simp [maxLen]; omega) (by omega) (by have := G3.out.bo.lt; simp; omega) ?_
            intro A7 c7 w7 o7 h7
            have H7 := Lib.hid (G3.out.app (x := x) HVL.out ((Ch.refl No w5).alloc (.cells #[.int .i64 x] 2)) o7 h7)
            have k7 := (G3.out.bo.ch ((Ch.refl No w5).alloc (.cells #[.int .i64 x] 2)) (fun h => h)).ch h7 (fun he => by have := (G3.out.ow.ge ob (by rw [HVL.out]; exact he)).1; omega)
            have f7 := k7.frozen 1
            have k7 := k7.cell 1
            rw [HVL.out] at k7
            simp only [List.getElem?_cons_zero, List.getElem?_cons_succ] at k7
            clear o7 h7
            refine hK.out _ _ (fun _ => k7) ?_
            clear hK K
            try simp only [Act.put]
            refine wpTill_1 (i := 6) rfl (by kernel_rfl) (fun K hK => ?_)
            go_simp
            refine hK.out _ _ (fun _ => k7) ?_
            clear hK K
            try simp only [Act.put]
            refine wpTill_1 (i := 7) rfl (by kernel_rfl) (fun K hK => ?_)
            go_simp
            refine hK.out _ _ (fun h => nomatch (show true = false from h)) ?_
            clear hK K
            try simp only [Act.put]
            refine wpTill_done (eq_of_beq (by kernel_rfl)) ⟨by first | rfl | trivial, ?_⟩ _
            clear k7 f7 G2 G3 K2 K3
            go_wp2_with fail
            go_roundw
            case rel => exact ⟨j + 1, cur', vs ++ [x], bd', A7, c7, by omega, by go_num, Lib.hid ⟨H7.out, HN.out.1, HN.out.2⟩⟩
            case measure => simp [intOf]; omega
    · obtain rfl : j = n1 := by omega
      have HE := Lib.hid (hst.out.2.1.end HT.out.2.1 HT.out.2.2 (by omega) HV0.out)
      have HR := Lib.hid hst.out.1
      have t0 := HR.out.bt.cell 0
      have t1 := HR.out.bt.cell 1
      have f0 := HR.out.bt.frozen 0
      have f1 := HR.out.bt.frozen 1
      have z0 := HR.out.bo.cell 0
      have z1 := HR.out.bo.cell 1
      simp only [List.getElem?_cons_zero, List.getElem?_cons_succ] at t0 t1 z0 z1
      have hne : w.heap.size ≠ ob := by have := HR.out.rd.lo; have := HR.out.rd.ge; have := HR.out.le; omega
      have HC := Lib.hid (fun a b : Value => ((HR.out.rd.ch.setCell (p := ⟨w.heap.size, 0, none⟩) (fun h => by simp at h) a).setCell (p := ⟨w.heap.size, 1, none⟩) (fun h => by simp at h) b))
      have HBQ := Lib.hid (And.intro (RRdBad HR.out.rd) (RRdLeft HR.out.rd))
      clear hst
      cases bd with
      | true =>
        go_wp2_with fail
        refine HBQ.out.1.mono ?_
        rintro e w5 ⟨rfl, rfl⟩
        go_wp2_with fail
        exact bodyPost_ret (v := .tuple #[.agg #[.int .i64 0, .slice none 0 0], .int .i64 20]) (by simp [results, Try.results10, go_sem, *]) rfl (ReadP.bad (HE.out.1 (by first | rfl | trivial)) (by decide) (HC.out _ _))
      | false =>
        obtain ⟨q, hq⟩ : ∃ q, cur.length = q := ⟨_, rfl⟩
        have hE2 := HE.out.2 rfl
        rw [hq] at HBQ hE2
        have HE2 := Lib.hid hE2
        clear hE2 hq
        by_cases hq0 : 0 < q
        · go_wp2_with fail
          refine HBQ.out.1.mono ?_
          rintro e w5 ⟨rfl, rfl⟩
          go_wp2_with fail
          refine HBQ.out.2.mono ?_
          rintro e w5 ⟨rfl, rfl⟩
          go_wp2_with fail
          exact bodyPost_ret (v := .tuple #[.agg #[.int .i64 0, .slice none 0 0], .int .i64 22]) (by simp [results, Try.results10, go_sem, *]) rfl (ReadP.bad (HE2.out.1 hq0) (by decide) (HC.out _ _))
        · obtain rfl : q = 0 := by omega
          obtain ⟨e1, e2, e3⟩ := HE2.out.2 rfl
          have HF : Hid (ReadP w b (.returned (.tuple #[.agg #[.int .i64 n0, .slice A2 vs.length c2], .int .i64 0])) ((wr.setCell ⟨w.heap.size, 0, none⟩ (.int .i64 n0)).setCell ⟨w.heap.size, 1, none⟩ (.slice A2 vs.length c2))) := Lib.hid (by
            have hcl := HR.out.ow.cls
            have hC : Ch (Only w.heap.size) wr ((wr.setCell ⟨w.heap.size, 0, none⟩ (.int .i64 n0)).setCell ⟨w.heap.size, 1, none⟩ (.slice A2 vs.length c2)) := ((Ch.refl (Only w.heap.size) wr).setCell (p := ⟨w.heap.size, 0, none⟩) (fun _ => rfl) _).setCell (p := ⟨w.heap.size, 1, none⟩) (fun _ => rfl) _
            have hlo := HR.out.rd.lo
            have hge := HR.out.rd.ge
            have hle := HR.out.le
            have hcl2 := (HR.out.ow.ch hC (fun k hk e => by have e' : k = w.heap.size := e; have := (HR.out.ow.ge k hk).1; omega)).cls
            refine ⟨A2, c2, by rw [e1, e2, e3], by rw [e3]; exact hcl2.1, by rw [e3]; simpa using hcl2.2.1, HC.out _ _⟩)
          clear e1 e2 e3
          rw [HVL.out] at HF
          go_wp2_with fail
          refine HBQ.out.1.mono ?_
          rintro e w5 ⟨rfl, rfl⟩
          go_wp2_with fail
          refine HBQ.out.2.mono ?_
          rintro e w5 ⟨rfl, rfl⟩
          go_wp2_with fail
          exact bodyPost_ret (v := .tuple #[.agg #[.int .i64 n0, .slice A2 j c2], .int .i64 0]) (by simp [results, Try.results10, go_sem, *]) rfl HF.out
end Go.Proofs.Ytpjcfelknkddfaa
