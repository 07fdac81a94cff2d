/- reply: Write, and the reference's Write: what each comes to. -/
import Derived.Test.YtpjcfelknkddfaaRepLaw
import Derived.Test.YtpjcfelknkddfaaRepSame
import Derived.Test.YtpjcfelknkddfaaFitTo8
import Derived.Test.YtpjcfelknkddfaaOctWInt
import Derived.Test.YtpjcfelknkddfaaOctClone
import Derived.Test.YtpjcfelknkddfaaRefPut
import Derived.Test.YtpjcfelknkddfaaRefJoin
import Derived.Test.YtpjcfelknkddfaaStep
namespace Go.Proofs.Ytpjcfelknkddfaa
open Go.RowKit

theorem i64info : (Try.prog.info? 2).map (fun i => (i.zero, i.size, i.bytes)) = some (some (.int .i64 0), 1, 8) := by kernel_rfl
theorem bsinfo : (Try.prog.info? 25).map (fun i => (i.zero, i.size, i.bytes)) = some (some (.slice none 0 0), 1, 24) := by kernel_rfl
theorem run_eqlsn64 (w : World) (A : Option Addr) (n c : Nat) : (binOp .eql 22 (.slice A n c) (.slice none 0 0)).run Try.prog w = .ok (.bool A.isNone) w := by
  simp only [binOp]
  simp [Op.equal, Op.maxDepth, Lib.run_equalIn_slice_nil w 9999 22 2 A n c 0 0 Try.underlying22]
set_option maxHeartbeats 1000000 in
theorem CloneL_any (w : World) (A : Option Addr) (c : Nat) (xs : List Int) (hx : Cls w A (ints .i64 xs)) (hl : xs.length ≤ 1000000000) :
    Calls Try.prog 43 #[.slice A xs.length c] w fun e w' => ∃ A1 c1, e = .returned (.slice A1 xs.length c1) ∧ OwnS w' w.heap.size 2 (.slice A1 xs.length c1) (ints .i64 xs) ∧ Ch No w w' := by
  have hen := fun (w : World) (A : Option Addr) (n c : Nat) => run_eqlsn64 w A n c
  cases A with
  | none =>
    have hnil : xs = [] := by
      cases xs with
      | nil => rfl
      | cons u us =>
        obtain ⟨b, off, h, _⟩ := hx [] (.int .i64 u) (ints .i64 us) rfl
        cases h
    subst hnil
    go_enter Try.func43, Try.ntmps43
    go_wp2_with fail
    go_ret
    exact ⟨none, 0, rfl, OwnS.nil _ _ _, Ch.refl _ _⟩
  | some ad =>
    have HX := Lib.hid hx
    clear hx
    go_enter Try.func43, Try.ntmps43
    go_wp2_with (at_builtin; refine appI rfl _ _ 22 2 rfl .i64 0 8 Try.underlying22 i64info w.heap.size (some ⟨w.heap.size, 0, none⟩) 0 [] rfl (OwnS.lit w w.heap.size 2 [] (Nat.le_refl _) (by simp)) (some ad) c xs rfl (HX.out.ch ((Ch.refl No w).alloc _) (fun _ _ h => h)) ?hn ?hb ?hB ?_)
    case hn => simp [maxLen]; omega
    case hb => simp; omega
    case hB => simp
    intro A1 c1 w1 hown1 hch hat
    have HO := Lib.hid hown1
    have HC : Hid (Ch No w w1) := Lib.hid (Ch.trans' ((Ch.refl No w).alloc _) hch (fun i hi he => by simp [Value.ownBlock] at he; omega))
    clear hown1 hch hat
    go_wp2_with fail
    go_ret
    exact ⟨A1, c1, by simp, by simpa using HO.out, HC.out⟩

/-- a writer under way; all that it turns lies at or beyond B -/
structure RWs (w0 : World) (B : Nat) (wr : World) (g : Nat) (bs : List Int) : Prop where
  ex : ∃ k, Wr wr B g k bs
  ch : Ch No w0 wr
  lo : w0.heap.size ≤ B
  hi : B ≤ wr.heap.size
  le : B ≤ g
theorem RWs.step {w0 wr w' : World} {B g : Nat} {bs bs' : List Int} {k : Option Nat} (h : RWs w0 B wr g bs) (hw : Wr wr B g k bs) (hp : WrPost wr B g k bs' w') : RWs w0 B w' g bs' ∧ Ch (fun i => B ≤ i) wr w' := by
  obtain ⟨k', h1, h2, _⟩ := hp
  have h3 := h.le
  refine ⟨⟨⟨k', h1⟩, h.ch.wr0 hw h.lo (Nat.le_trans h.lo h.le) h2, h.lo, Nat.le_trans h.hi h2.size, h.le⟩, h2.mono fun i _ hi => ?_⟩
  rcases hi with hi | hi
  · omega
  · exact (hw.klt hi).1
theorem RWs.no {w0 wr w' : World} {B g : Nat} {bs : List Int} (h : RWs w0 B wr g bs) (hc : Ch No wr w') : RWs w0 B w' g bs := by
  obtain ⟨k, hk⟩ := h.ex
  exact ⟨⟨k, hk.ch hc (fun h => h) (fun _ _ h => h)⟩, h.ch.trans hc, h.lo, Nat.le_trans h.hi hc.size, h.le⟩
theorem RWInt {w0 wr : World} {B g : Nat} {bs : List Int} (n : Int) (h : RWs w0 B wr g bs) (hl : bs.length + 8 ≤ 100000000000000) :
    Calls Try.prog 20 #[.pointer (some ⟨g, 0, none⟩), .int .i64 n, .int .i64 8] wr fun e w' => e = .returned (.tuple #[]) ∧ RWs w0 B w' g (bs ++ putB (toU n) 8) ∧ Ch (fun i => B ≤ i) wr w' := by
  obtain ⟨k, hk⟩ := h.ex
  refine (WInt_any n 8 wr B g k bs hk h.hi hl).mono ?_
  rintro e w' ⟨rfl, hp⟩
  exact ⟨rfl, h.step hk hp⟩
theorem RWRaw {w0 wr : World} {B g : Nat} {bs : List Int} (h : RWs w0 B wr g bs) (A : Option Addr) (c : Nat) (xs : List Int) (hx : Cls wr A (ints .u8 xs)) (hl : bs.length + xs.length ≤ 100000000000000) :
    Calls Try.prog 19 #[.pointer (some ⟨g, 0, none⟩), .slice A xs.length c] wr fun e w' => e = .returned (.tuple #[]) ∧ RWs w0 B w' g (bs ++ xs) ∧ Ch (fun i => B ≤ i) wr w' := by
  obtain ⟨k, hk⟩ := h.ex
  refine (WRaw_any wr B g k bs hk h.hi A c xs hx hl).mono ?_
  rintro e w' ⟨rfl, hp⟩
  exact ⟨rfl, h.step hk hp⟩
theorem RWDone {w0 wr : World} {B g : Nat} {bs : List Int} (h : RWs w0 B wr g bs) (hl : bs.length ≤ 100000000000000) :
    Calls Try.prog 21 #[.pointer (some ⟨g, 0, none⟩)] wr (MadeS wr bs) := by
  obtain ⟨k, hk⟩ := h.ex
  exact Done_any wr B g k bs hk hl

theorem RepW_bad (code : Int) (A : Option Addr) (n c : Nat) (w : World) (hn : n ≤ 100000000000000) (h : wErr code n ≠ 0) : Calls Try.prog 8 #[.agg #[.int .i64 code, .slice A n c]] w fun e w' => e = .returned (.tuple #[.slice none 0 0, .int .i64 (wErr code n)]) ∧ Ch No w w' := by
  have ht := fun w => To_u8 code w
  by_cases hc : 0 ≤ code ∧ code ≤ 255
  · have h3 : 120 < n := by
      unfold wErr at h
      rw [if_pos hc] at h
      split at h
      · assumption
      · exact absurd rfl h
    have he : wErr code n = 3 := by unfold wErr; rw [if_pos hc, if_pos h3]
    rw [he]
    simp only [if_pos hc, decide_eq_true hc] at ht
    clear h he hc
    go_enter Try.func8, Try.ntmps8
    go_wp2_with fail
    refine (ht _).mono ?_
    rintro e w1 ⟨rfl, rfl⟩
    go_wp2_with fail
    go_ret2
    exact ⟨rfl, (Ch.refl No w).alloc _⟩
  · have he : wErr code n = 23 := by unfold wErr; rw [if_neg hc]
    rw [he]
    simp only [if_neg hc, decide_eq_false hc] at ht
    clear h he hc
    go_enter Try.func8, Try.ntmps8
    go_wp2_with fail
    refine (ht _).mono ?_
    rintro e w1 ⟨rfl, rfl⟩
    go_wp2_with fail
    go_ret2
    exact ⟨rfl, (Ch.refl No w).alloc _⟩

set_option maxHeartbeats 4000000 in
set_option maxRecDepth 100000 in
theorem RepW_ok (code : Int) (A : Option Addr) (c : Nat) (ns : List Int) (w : World) (hx : Cls w A (ints .i64 ns)) (hc : 0 ≤ code ∧ code ≤ 255) (hn : ns.length ≤ 120) :
    Calls Try.prog 8 #[.agg #[.int .i64 code, .slice A ns.length c]] w fun e w' => ∃ A' c', e = .returned (.tuple #[.slice A' (repB code ns).length c', .int .i64 0]) ∧ OwnS w' w.heap.size 5 (.slice A' (repB code ns).length c') (ints .u8 (repB code ns)) ∧ Ch No w w' := by
  have ht := fun w => To_u8 code w
  simp only [if_pos hc, decide_eq_true hc] at ht
  obtain ⟨N, hN⟩ : ∃ N, ns.length = N := ⟨_, rfl⟩
  have HX := Lib.hid (And.intro hx (And.intro hN hc))
  rw [hN] at hn ⊢
  clear hx hN hc
  have hw8 : IntKind.u8.wrap (N : Int) = (N : Int) := by rw [wrp_u8]; omega
  go_enter Try.func8, Try.ntmps8
  go_wp2_with fail
  refine (ht _).mono ?_
  rintro e w1 ⟨rfl, rfl⟩
  clear ht
  go_wp2_with fail
  have HS : Hid (Blk (((w.alloc (.cells #[.int .i64 code, .slice A N c] 24)).alloc (.cells #[.slice none 0 0] 51)).alloc (.cells #[.int .u8 code, .int .u8 N] 5)) w.heap.size 24 [.int .i64 code, .slice A N c] ∧ RWs w (w.heap.size + 1) (((w.alloc (.cells #[.int .i64 code, .slice A N c] 24)).alloc (.cells #[.slice none 0 0] 51)).alloc (.cells #[.int .u8 code, .int .u8 N] 5)) (w.heap.size + 1) [] ∧ Cls (((w.alloc (.cells #[.int .i64 code, .slice A N c] 24)).alloc (.cells #[.slice none 0 0] 51)).alloc (.cells #[.int .u8 code, .int .u8 N] 5)) (some ⟨w.heap.size + 1 + 1, 0, none⟩) (ints .u8 [code, N])) := by
    refine Lib.hid ⟨((Blk.new w _ [.int .i64 code, .slice A N c]).alloc _).alloc _, ⟨⟨none, ?_⟩, (((Ch.refl No w).alloc _).alloc _).alloc _, by omega, by simp, by omega⟩, ?_⟩
    · have q := (Wr.new (w.alloc (.cells #[.int .i64 code, .slice A N c] 24)) (w.heap.size + 1)).ch (S := No) ((Ch.refl No _).alloc (.cells #[.int .u8 code, .int .u8 N] 5)) (fun h => h) (fun _ _ h => h)
      simpa using q
    · have q := Cls.lit ((w.alloc (.cells #[.int .i64 code, .slice A N c] 24)).alloc (.cells #[.slice none 0 0] 51)) 5 [.int .u8 code, .int .u8 N]
      simpa [ints] using q
  generalize (((w.alloc (.cells #[.int .i64 code, .slice A N c] 24)).alloc (.cells #[.slice none 0 0] 51)).alloc (.cells #[.int .u8 code, .int .u8 N] 5)) = w1 at *
  obtain ⟨b0, hb0⟩ : ∃ b, w.heap.size = b := ⟨_, rfl⟩
  have hlb : b0 ≠ b0 + 1 := by omega
  rw [hb0] at HS ⊢
  clear hb0
  refine (RWRaw HS.out.2.1 _ 2 [code, (N : Int)] HS.out.2.2 (by simp)).mono ?_
  rintro e w2 ⟨rfl, h2, hc2⟩
  have hbk : Blk w2 b0 24 [.int .i64 code, .slice A N c] := HS.out.1.ch hc2 (by omega)
  have HS2 := Lib.hid h2
  clear h2 HS hc2
  have k1 := hbk.cell 1
  simp only [List.getElem?_cons_zero, List.getElem?_cons_succ] at k1
  clear hbk
  go_wp2_with fail
  clear k1
  generalize decide (120 < (N : Int)) = bd at *
  go_loopw [8, 33] (fun _ i wr => ∃ (pre post : List Int), Hid (ns = pre ++ post) ∧ i = .int .i64 pre.length ∧ Hid (RWs w (b0 + 1) wr (b0 + 1) (code :: (N : Int) :: numB pre))) (fun _ i _ => N - (intOf i).toNat)
  case atStart => exact ⟨[], ns, Lib.hid rfl, rfl, HS2⟩
  case round =>
    clear HS2
    obtain ⟨pre, post, hp, rfl, hst⟩ := hrel
    have hln := congrArg List.length hp.out
    rw [HX.out.2.1, List.length_append] at hln
    cases post with
    | nil =>
      obtain rfl : pre = ns := by have := hp.out; simpa using this.symm
      simp at hln
      have HL : Hid ((repB code pre).length = 2 + 8 * N) := Lib.hid (by rw [repB_len, HX.out.2.1])
      have hst2 : Hid (RWs w (b0 + 1) wr (b0 + 1) (repB code pre)) := Lib.hid (by have := hst.out; unfold repB; rw [HX.out.2.1]; exact this)
      clear hst
      obtain ⟨p, hpp⟩ : ∃ p, pre.length = p := ⟨_, rfl⟩
      rw [hpp] at hln ⊢
      subst hln
      clear hpp
      go_wp2_with fail
      refine (RWDone hst2.out (by rw [HL.out]; omega)).mono ?_
      rintro e w3 ⟨A3, c3, rfl, o3, h3⟩
      have HO : Hid (OwnS w3 w.heap.size 5 (.slice A3 (repB code pre).length c3) (ints .u8 (repB code pre)) ∧ Ch No w w3) := Lib.hid ⟨o3.lower hst2.out.ch.size, hst2.out.ch.trans h3⟩
      clear o3 h3 hst2
      go_wp2_with fail
      go_ret2
      exact ⟨A3, c3, by simp, HO.out.1, HO.out.2⟩
    | cons x post =>
      rw [List.length_cons] at hln
      have hlt : pre.length < N := by omega
      obtain ⟨blk, off, rfl, hcx⟩ := (HX.out.1.ch hst.out.ch (fun _ _ h => h)).at hp.out
      have HL : Hid ((code :: (N : Int) :: numB pre).length + 8 ≤ 100000000000000) := Lib.hid (by simp; omega)
      clear hln
      go_wp2_with fail
      refine (RWInt x hst.out HL.out).mono ?_
      rintro e w3 ⟨rfl, h3, _⟩
      have H3 : Hid (RWs w (b0 + 1) w3 (b0 + 1) (code :: (N : Int) :: numB (pre ++ [x]))) := Lib.hid (by rw [numB_snoc]; exact h3)
      clear h3 hst
      go_wp2_with fail
      go_roundw
      case rel => exact ⟨pre ++ [x], post, Lib.hid (by rw [hp.out]; simp), by simp, H3⟩
      case measure => simp [intOf]; omega

/- the reference -/
theorem RRepW_bad (code : Int) (A : Option Addr) (n c : Nat) (w : World) (hn : n ≤ 100000000000000) (h : wErr code n ≠ 0) : Calls Try.prog 9 #[.agg #[.int .i64 code, .slice A n c]] w fun e w' => e = .returned (.tuple #[.slice none 0 0, .int .i64 (wErr code n)]) ∧ Ch No w w' := by
  by_cases h1 : code < 0
  · have he : wErr code n = 23 := by unfold wErr; rw [if_neg (by omega)]
    rw [he]
    clear h he
    go_enter Try.func9, Try.ntmps9
    go_wp2_with fail
    go_ret2
    exact ⟨rfl, (Ch.refl No w).alloc _⟩
  by_cases h2 : 255 < code
  · have he : wErr code n = 23 := by unfold wErr; rw [if_neg (by omega)]
    rw [he]
    clear h he
    go_enter Try.func9, Try.ntmps9
    go_wp2_with fail
    go_ret2
    exact ⟨rfl, (Ch.refl No w).alloc _⟩
  · have hc : 0 ≤ code ∧ code ≤ 255 := by omega
    have h3 : 120 < n := by
      unfold wErr at h
      rw [if_pos hc] at h
      split at h
      · assumption
      · exact absurd rfl h
    have he : wErr code n = 3 := by unfold wErr; rw [if_pos hc, if_pos h3]
    rw [he]
    clear h he hc
    go_enter Try.func9, Try.ntmps9
    go_wp2_with fail
    go_ret2
    exact ⟨rfl, (Ch.refl No w).alloc _⟩

/-- parts under way: a row of its own, the parts' bytes elsewhere -/
structure Prw (w0 wr : World) (v : Value) (bs : List (List Int)) : Prop where
  ex : ∃ ps : List Prt, ps.map (·.bs) = bs ∧ OwnS wr (w0.heap.size + 1) 25 v (ps.map Prt.enc) ∧ (∀ p ∈ ps, Cls wr p.A (ints .u8 p.bs)) ∧ ∀ p ∈ ps, ∀ a, p.A = some a → v.ownBlock ≠ some a.block ∧ a.block < wr.heap.size
  ch : Ch No w0 wr
theorem Prw.no {w0 wr w' : World} {v : Value} {bs : List (List Int)} (h : Prw w0 wr v bs) (hc : Ch No wr w') : Prw w0 w' v bs := by
  obtain ⟨ps, h1, h2, h3, h4⟩ := h.ex
  exact ⟨⟨ps, h1, h2.ch hc (fun _ _ h => h), fun p hp => (h3 p hp).ch hc (fun _ _ h => h), fun p hp a ha => ⟨(h4 p hp a ha).1, by have := (h4 p hp a ha).2; have := hc.size; omega⟩⟩, h.ch.trans hc⟩
/-- one part more -/
theorem Prw.app {w0 w w' : World} {v : Value} {A' : Option Addr} {n c' c'' g : Nat} {bs : List (List Int)} {x : List Int} {ps : List Prt} (h1 : ps.map (·.bs) = bs)
    (h3 : ∀ p ∈ ps, Cls w p.A (ints .u8 p.bs)) (h4 : ∀ p ∈ ps, ∀ a, p.A = some a → v.ownBlock ≠ some a.block ∧ a.block < w.heap.size)
    (hx : Cls w A' (ints .u8 x)) (hA : ∀ a, A' = some a → v.ownBlock ≠ some a.block ∧ a.block < w.heap.size)
    (h5 : OwnS w' (w0.heap.size + 1) 25 (.slice (some ⟨g, 0, none⟩) (n + 1) c') (ps.map Prt.enc ++ [.slice A' x.length c'']))
    (h0 : Ch No w0 w) (hv : ∀ k, v.ownBlock = some k → w0.heap.size + 1 ≤ k) (hc : Ch (fun k => v.ownBlock = some k) w w') (hg : v.ownBlock = some g ∨ w.heap.size ≤ g) :
    Prw w0 w' (.slice (some ⟨g, 0, none⟩) (n + 1) c') (bs ++ [x]) := by
  have hall : ∀ a : Addr, (a.block < w.heap.size ∧ v.ownBlock ≠ some a.block) → (Value.slice (some ⟨g, 0, none⟩) (n + 1) c').ownBlock ≠ some a.block ∧ a.block < w'.heap.size := by
    rintro a ⟨h6, h7⟩
    refine ⟨?_, by have := hc.size; omega⟩
    intro he
    have he' : g = a.block := by simpa [Value.ownBlock] using he
    rcases hg with hg | hg
    · exact h7 (by rw [hg, he'])
    · omega
  refine ⟨⟨ps ++ [⟨A', c'', x⟩], by simp [h1], by simpa [Prt.enc] using h5, ?_, ?_⟩, h0.trans' hc (fun i hi he => by have := hv i he; omega)⟩
  · intro p hp
    rcases List.mem_append.1 hp with hp | hp
    · exact (h3 p hp).ch hc (fun a ha he => (h4 p hp a ha).1 he)
    · obtain rfl := by simpa using hp
      exact hx.ch hc (fun a ha he => (hA a ha).1 he)
  · intro p hp a ha
    rcases List.mem_append.1 hp with hp | hp
    · exact hall a ⟨(h4 p hp a ha).2, (h4 p hp a ha).1⟩
    · obtain rfl := by simpa using hp
      exact hall a ⟨(hA a ha).2, (hA a ha).1⟩

set_option maxHeartbeats 4000000 in
set_option maxRecDepth 100000 in
theorem RRepW_ok (code : Int) (A : Option Addr) (c : Nat) (ns : List Int) (w : World) (hx : Cls w A (ints .i64 ns)) (hc : 0 ≤ code ∧ code ≤ 255) (hn : ns.length ≤ 120) :
    Calls Try.prog 9 #[.agg #[.int .i64 code, .slice A ns.length c]] w fun e w' => ∃ A' c', e = .returned (.tuple #[.slice A' (repB code ns).length c', .int .i64 0]) ∧ OwnS w' w.heap.size 5 (.slice A' (repB code ns).length c') (ints .u8 (repB code ns)) ∧ Ch No w w' := by
  obtain ⟨N, hN⟩ : ∃ N, ns.length = N := ⟨_, rfl⟩
  have HX := Lib.hid (And.intro hx (And.intro hN hc))
  rw [hN] at hn ⊢
  obtain ⟨hc0, hc1⟩ := hc
  clear hx hN
  have hw8 : IntKind.u8.wrap (N : Int) = (N : Int) := by rw [wrp_u8]; omega
  have hw9 : IntKind.u8.wrap code = code := by rw [wrp_u8]; omega
  go_enter Try.func9, Try.ntmps9
  go_wp2_with fail
  have HS : Hid (Blk (((w.alloc (.cells #[.int .i64 code, .slice A N c] 32)).alloc (.cells #[.int .u8 code, .int .u8 N] 5)).alloc (.cells #[.slice (some ⟨w.heap.size + 1, 0, none⟩) 2 2] 25)) w.heap.size 32 [.int .i64 code, .slice A N c] ∧ Prw w (((w.alloc (.cells #[.int .i64 code, .slice A N c] 32)).alloc (.cells #[.int .u8 code, .int .u8 N] 5)).alloc (.cells #[.slice (some ⟨w.heap.size + 1, 0, none⟩) 2 2] 25)) (.slice (some ⟨w.heap.size + 1 + 1, 0, none⟩) 1 1) [[code, (N : Int)]]) := by
    refine Lib.hid ⟨((Blk.new w _ [.int .i64 code, .slice A N c]).alloc _).alloc _, ⟨⟨[⟨some ⟨w.heap.size + 1, 0, none⟩, 2, [code, (N : Int)]⟩], rfl, ?_, ?_, ?_⟩, (((Ch.refl No w).alloc _).alloc _).alloc _⟩⟩
    · have q := OwnS.lit ((w.alloc (.cells #[.int .i64 code, .slice A N c] 32)).alloc (.cells #[.int .u8 code, .int .u8 N] 5)) (w.heap.size + 1) 25 [.slice (some ⟨w.heap.size + 1, 0, none⟩) 2 2] (by simp) (by simp [maxLen])
      simpa [Prt.enc] using q
    · intro p hp
      obtain rfl := by simpa using hp
      have q := (Cls.lit (w.alloc (.cells #[.int .i64 code, .slice A N c] 32)) 5 [.int .u8 code, .int .u8 N]).ch ((Ch.refl No _).alloc (.cells #[.slice (some ⟨w.heap.size + 1, 0, none⟩) 2 2] 25)) (fun _ _ h => h)
      simpa [ints] using q
    · intro p hp a ha
      obtain rfl := by simpa using hp
      obtain rfl : a = ⟨w.heap.size + 1, 0, none⟩ := by simpa using ha.symm
      exact ⟨by simp [Value.ownBlock], by simp⟩
  generalize (((w.alloc (.cells #[.int .i64 code, .slice A N c] 32)).alloc (.cells #[.int .u8 code, .int .u8 N] 5)).alloc (.cells #[.slice (some ⟨w.heap.size + 1, 0, none⟩) 2 2] 25)) = w1 at *
  obtain ⟨b0, hb0⟩ : ∃ b, w.heap.size = b := ⟨_, rfl⟩
  rw [hb0] at HS ⊢
  have HB0 := Lib.hid hb0
  clear hb0
  generalize decide (120 < (N : Int)) = bd at *
  generalize decide (code < 0) = bd2 at *
  generalize decide (255 < code) = bd3 at *
  go_loopw [4, 5] (fun out i wr => ∃ (pre post : List Int) (O : Option Addr) (co : Nat), Hid (ns = pre ++ post) ∧ i = .int .i64 pre.length ∧ out = .slice O (pre.length + 1) co ∧ Hid (Blk wr b0 32 [.int .i64 code, .slice A N c] ∧ Prw w wr (.slice O (pre.length + 1) co) ([code, (N : Int)] :: pre.map fun n => putB (toU n) 8))) (fun _ i _ => N - (intOf i).toNat)
  case atStart => exact ⟨[], ns, _, _, Lib.hid rfl, rfl, rfl, HS⟩
  case round =>
    clear HS
    obtain ⟨pre, post, O, co, hp, rfl, rfl, hst⟩ := hrel
    have hln := congrArg List.length hp.out
    rw [HX.out.2.1, List.length_append] at hln
    have k1 := hst.out.1.cell 1
    simp only [List.getElem?_cons_zero, List.getElem?_cons_succ] at k1
    cases post with
    | nil =>
      obtain rfl : pre = ns := by have := hp.out; simpa using this.symm
      simp at hln
      have hall : Hid (Calls Try.prog 23 #[.slice O (pre.length + 1) co] wr (MadeS wr (repB code pre))) := by
        obtain ⟨ps, h1, h2, h3, h4⟩ := hst.out.2.ex
        obtain ⟨O', co', ev, hcl, _⟩ := h2.slice
        have hl : ps.length = pre.length + 1 := by have := congrArg List.length h1; simpa using this
        rw [List.length_map, hl] at ev
        obtain ⟨rfl, rfl⟩ : O = O' ∧ co = co' := by simpa using ev
        have q := RJoin_any wr O co ps hcl h3 (by omega) (fun p hp => by
          have : p.bs ∈ ps.map (·.bs) := List.mem_map.2 ⟨p, hp, rfl⟩
          rw [h1] at this
          rcases List.mem_cons.1 this with h | h
          · rw [h]; simp
          · obtain ⟨n, _, h⟩ := List.mem_map.1 h
            rw [← h]; simp)
        have hf : ps.flatMap (·.bs) = repB code pre := by
          rw [List.flatMap_def, h1]
          unfold repB numB
          rw [HX.out.2.1, List.flatMap_def]
          rfl
        rw [hl, hf] at q
        exact Lib.hid q
      have HC := Lib.hid hst.out.2.ch
      clear hst
      obtain ⟨p, hpp⟩ : ∃ p, pre.length = p := ⟨_, rfl⟩
      rw [hpp] at hln hall ⊢
      subst hln
      clear hpp
      go_wp2_with fail
      refine hall.out.mono ?_
      rintro e w3 ⟨A3, c3, rfl, o3, h3⟩
      have HO : Hid (OwnS w3 w.heap.size 5 (.slice A3 (repB code pre).length c3) (ints .u8 (repB code pre)) ∧ Ch No w w3) := Lib.hid ⟨o3.lower HC.out.size, HC.out.trans h3⟩
      clear o3 h3 HC
      go_wp2_with fail
      go_ret2
      exact ⟨A3, c3, by simp, HO.out.1, HO.out.2⟩
    | cons x post =>
      rw [List.length_cons] at hln
      have hlt : pre.length < N := by omega
      obtain ⟨blk, off, hA, hcx⟩ := (HX.out.1.ch hst.out.2.ch (fun _ _ h => h)).at hp.out
      subst hA
      clear hln
      go_wp2_with fail
      refine (RInt2_any x 8 _).mono ?_
      rintro e w2 ⟨A2, c2, rfl, o2, h2⟩
      rw [show heldB 8 = 8 from by decide, putB_length] at o2
      obtain ⟨A2', c2', e2, s2, _⟩ := o2.slice_ints
      rw [putB_length] at e2
      obtain ⟨rfl, rfl⟩ : A2 = A2' ∧ c2 = c2' := by simpa using e2
      rw [show heldB 8 = 8 from by decide, putB_length]
      have hge := o2.ge
      have hst2 := hst.out.2.no h2
      have hown0 : ∀ k, (Value.slice O (pre.length + 1) co).ownBlock = some k → k < wr.heap.size ∧ w.heap.size + 1 ≤ k := fun k hk => by
        obtain ⟨ps0, _, ho0, _⟩ := hst.out.2.ex
        have := ho0.ge k hk
        omega
      obtain ⟨ps, g1, g2, g3, g4⟩ := hst2.ex
      have hpl : (ps.map Prt.enc).length = pre.length + 1 := by have := congrArg List.length g1; simpa using this
      have H2 := Lib.hid (And.intro g1 (And.intro g3 (And.intro g4 (And.intro s2 (And.intro hst2.ch (hst.out.1.ch h2 (fun h => h)))))))
      have hA2 : ∀ a, A2 = some a → (Value.slice O (pre.length + 1) co).ownBlock ≠ some a.block ∧ a.block < w2.heap.size := fun a ha => by
        subst ha
        exact ⟨fun he => by have := (hown0 _ he).1; have := (hge a.block rfl).1; omega, (hge a.block rfl).2⟩
      have HA2 := Lib.hid (And.intro hA2 hown0)
      clear g1 g3 g4 s2 hst2 h2 hst o2 e2 hge hA2 hown0
      go_wp2_with (at_builtin; refine app1n rfl _ _ 55 25 rfl (.slice none 0 0) 24 Try.underlying55 bsinfo rfl (w.heap.size + 1) (.slice O (pre.length + 1) co) (ps.map Prt.enc) (.slice A2 8 c2) rfl g2 1 rfl rfl ?hn ?hb ?hB ?_)
      case hn => rw [hpl]; simp [maxLen]; omega
      case hb => rw [hpl]; omega
      case hB => have := H2.out.2.2.2.2.2.lt; have := HB0.out; omega
      intro g5 c5 w5 o5 h5 hat
      have HF : Hid (Blk w5 b0 32 [.int .i64 code, .slice (some ⟨blk, off, none⟩) N c] ∧ Prw w w5 (.slice (some ⟨g5, 0, none⟩) (pre.length + 1 + 1) c5) ([code, (N : Int)] :: (pre ++ [x]).map fun n => putB (toU n) 8)) := by
        refine Lib.hid ⟨H2.out.2.2.2.2.2.ch h5 (fun he => by have := (HA2.out.2 _ he).2; have := HB0.out; omega), ?_⟩
        have q := Prw.app (x := putB (toU x) 8) H2.out.1 H2.out.2.1 H2.out.2.2.1 H2.out.2.2.2.1 HA2.out.1 (by simpa using o5) H2.out.2.2.2.2.1 (fun k hk => (HA2.out.2 k hk).2) h5 hat
        simpa using q
      clear o5 h5 hat H2 HA2
      go_wp2_with fail
      go_roundw
      case rel => exact ⟨pre ++ [x], post, some ⟨g5, 0, none⟩, c5, Lib.hid (by rw [hp.out]; simp), by simp, by simp, by simpa using HF⟩
      case measure => simp [intOf]; omega
end Go.Proofs.Ytpjcfelknkddfaa
