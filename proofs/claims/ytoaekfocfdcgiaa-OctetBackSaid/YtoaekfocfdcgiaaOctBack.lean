/- OctetBack: what is put is got, in order: the walk. -/
import Derived.Test.YtoaekfocfdcgiaaOctOps
import Derived.Test.YtoaekfocfdcgiaaOctInts
import Derived.Test.YtoaekfocfdcgiaaRefPut
import Derived.Deep.RegionHeld3
namespace Go.Proofs.Ytoaekfocfdcgiaa
open Go.RowKit

/-- a writer of the call's own -/
structure WB (W w : World) (B g : Nat) (k : Option Nat) (a : List Int) : Prop where
  wr : Wr w B g k a
  ch : Ch No W w
  gB : g < B
  le : B ≤ w.heap.size
  gW : W.heap.size ≤ g
theorem WB.put {W w w' : World} {B g : Nat} {k : Option Nat} {a a' : List Int} (h : WB W w B g k a) (hp : WrPost w B g k a' w') : ∃ k', WB W w' B g k' a' := by
  obtain ⟨k', h1, h2, h3⟩ := hp
  exact ⟨k', h1, h.ch.wr0 h.wr (Nat.le_trans h.gW (Nat.le_of_lt h.gB)) h.gW h2, h.gB, Nat.le_trans h.le h2.size, h.gW⟩
theorem WB.no {W w w' : World} {B g : Nat} {k : Option Nat} {a : List Int} (h : WB W w B g k a) (hc : Ch No w w') : WB W w' B g k a :=
  ⟨h.wr.ch hc (fun h => h) (fun _ _ h => h), h.ch.trans hc, h.gB, Nat.le_trans h.le hc.size, h.gW⟩

/-- a reader of the call's own, and bytes that lie beside it -/
structure RB (W w : World) (g : Nat) (A : Option Addr) (c : Nat) (left : List Int) (bad : Bool) (Ab : Option Addr) (all : List Int) : Prop where
  rdr : Rdr w g A c left bad
  ch : Ch No W w
  gW : W.heap.size ≤ g
  cls : Cls w Ab (ints .u8 all)
  ne : ∀ a, Ab = some a → a.block ≠ g
theorem RB.step {W w w' : World} {g : Nat} {A A2 : Option Addr} {c c2 : Nat} {left l2 : List Int} {bad b2 : Bool} {Ab : Option Addr} {all : List Int} (h : RB W w g A c left bad Ab all)
    (hr : Rdr w' g A2 c2 l2 b2) (hc : Ch (Only g) w w') : RB W w' g A2 c2 l2 b2 Ab all :=
  ⟨hr, h.ch.rd0 h.gW hc, h.gW, h.cls.ch hc (fun a ha => h.ne a ha), h.ne⟩
theorem RB.no {W w w' : World} {g : Nat} {A : Option Addr} {c : Nat} {left : List Int} {bad : Bool} {Ab : Option Addr} {all : List Int} (h : RB W w g A c left bad Ab all)
    (hc : Ch No w w') : RB W w' g A c left bad Ab all :=
  ⟨h.rdr.ch hc (fun h => h) (fun _ _ h => h), h.ch.trans hc, h.gW, h.cls.ch hc (fun _ _ h => h), h.ne⟩

/-- the bytes that a field is put as -/
def OpV.put (o : OpV) : List Int := if o.kind = 0 ∨ o.kind = 1 then putB (toU o.n) (heldB o.size) else if o.kind = 2 then putB (toU o.n) 8 else o.bs
theorem OpV.put_len (o : OpV) (h : o.bs.length ≤ 60) : o.put.length ≤ 60 := by
  unfold OpV.put
  have := (heldB_le o.size).2
  split
  · simp; omega
  · split
    · simp
    · exact h
theorem OpV.put_isB (o : OpV) (h : ∀ x ∈ o.bs, isB x) : ∀ x ∈ o.put, isB x := by
  unfold OpV.put
  split
  · exact putB_isB _ _
  · split
    · exact putB_isB _ _
    · exact h
theorem fewB_len' {ops : List OpV} (h : fewB ops = true) : ops.length ≤ 40 ∧ ∀ o ∈ ops, o.bs.length ≤ 60 := by
  unfold fewB at h
  simp only [Bool.and_eq_true, decide_eq_true_eq, List.all_eq_true] at h
  exact h
theorem puts_len {ops : List OpV} (h : ∀ o ∈ ops, o.bs.length ≤ 60) : (ops.flatMap OpV.put).length ≤ 60 * ops.length := by
  induction ops with
  | nil => simp
  | cons o ops ih =>
    have h1 := ih (fun o ho => h o (List.mem_cons_of_mem _ ho))
    have h2 := OpV.put_len o (h o (by simp))
    rw [List.flatMap_cons, List.length_append, List.length_cons]
    omega
theorem tk_app (xs ys : List Int) {n : Nat} (hn : xs.length = n) : tkO (xs ++ ys) false n = xs ∧ tkR (xs ++ ys) false n = ys ∧ tkB (xs ++ ys) false n = false := by
  subst hn
  have h : tkB (xs ++ ys) false xs.length = false := by simp [tkB]
  simp [tkO, tkR, h]
theorem sgn_back (n : Int) (hn : wfI n) : sgn (getN (putB (toU n) 8)) 64 = n := by
  rw [getN_putB]
  exact (ints_fact n hn 8 (by omega) (by omega)).got.2 (.inl rfl)

set_option maxHeartbeats 16000000 in
set_option maxRecDepth 100000 in
theorem octetBack_core (W : World) (A : Option Addr) (c : Nat) (ops : List OpV) (h : Ops W W A ops) (hl : ops.length ≤ 140737488351232) :
    Calls Try.prog 7 #[.slice A ops.length c] W fun e w' => e = .returned (.bool true) ∧ Ch No W w' := by
  have HO := Lib.hid h
  clear h
  go_enter Try.func7, Try.ntmps7
  go_wp2_with fail
  refine (octAlive_any _).mono ?_
  rintro e w0 ⟨rfl, C0⟩
  have HC0 := Lib.hid C0
  clear C0
  go_wp2_with fail
  refine (few_any W w0 A c ops (HO.out.to HC0.out) hl).mono ?_
  rintro e w1 ⟨rfl, C1⟩
  have HC1 := Lib.hid (HC0.out.trans C1)
  clear C1 HC0
  cases hfew : fewB ops with
  | false =>
    go_wp2_with fail
    go_ret
    exact ⟨rfl, HC1.out⟩
  | true =>
    obtain ⟨hl40, hb60⟩ := fewB_len' hfew
    have HB60 := Lib.hid hb60
    clear hfew hb60
    go_wp2_with fail
    have S0 : WB W (w1.alloc (.cells #[.slice none 0 0] 27)) (w1.heap.size + 1) w1.heap.size none [] :=
      ⟨Wr.new w1 _, HC1.out.alloc _, by omega, by simp, HC1.out.size⟩
    have HS0 := Lib.hid S0
    clear S0 HC1
    go_loopw [5, 19] (fun _ i wr => ∃ (pre post : List OpV) (k : Option Nat), Hid (ops = pre ++ post) ∧ i = .int .i64 pre.length ∧ Hid (WB W wr (w1.heap.size + 1) w1.heap.size k (pre.flatMap OpV.put))) (fun _ i _ => ops.length - (intOf i).toNat)
    case atStart => exact ⟨[], ops, none, rfl, rfl, HS0⟩
    case round =>
      clear HS0
      obtain ⟨pre, post, k, hx, rfl, hst⟩ := hrel
      have hacc := puts_len (ops := pre) (fun o ho => HB60.out o (by rw [hx.out]; simp [ho]))
      have hB : ∀ x ∈ pre.flatMap OpV.put, isB x := by
        intro x hm
        obtain ⟨o, ho, hxo⟩ := List.mem_flatMap.1 hm
        exact OpV.put_isB o (HO.out.ok o (by rw [hx.out]; simp [ho])).isB x hxo
      obtain ⟨acc, hac⟩ : ∃ acc, pre.flatMap OpV.put = acc := ⟨_, rfl⟩
      rw [hac] at hst hacc hB
      have HB := Lib.hid hB
      have HAC := Lib.hid hac
      clear hB hac
      cases post with
      | nil =>
        obtain rfl : pre = ops := by have := hx.out; simpa using this.symm
        clear hx
        go_wp2_with fail
        refine (Done_any wr _ _ k acc hst.out.wr (by omega)).mono ?_
        rintro e w2 ⟨Ab, cb, rfl, o2, h2⟩
        have C2 := hst.out.ch.trans h2
        obtain ⟨A', c', e2, L2, _⟩ := o2.slice_ints
        obtain ⟨rfl, rfl⟩ : Ab = A' ∧ cb = c' := by simpa using e2
        have hlt2 : ∀ a, Ab = some a → a.block < w2.heap.size := fun a ha => by subst ha; exact (o2.ge a.block rfl).2
        have HO2 := Lib.hid (And.intro C2 (And.intro L2 hlt2))
        clear hst o2 h2 C2 e2 L2 hlt2
        go_wp2_with fail
        refine (Open_any w2 Ab cb acc HO2.out.2.1 (by omega)).mono ?_
        rintro e w3 ⟨g, A3, c3, rfl, r3, hg3, _, h3⟩
        have S3 : RB W w3 g A3 c3 acc false Ab acc := ⟨r3, HO2.out.1.trans h3, Nat.le_trans HO2.out.1.size hg3, HO2.out.2.1.ch h3 (fun _ _ h => h), fun a ha => by have := HO2.out.2.2 a ha; omega⟩
        have HS3 := Lib.hid S3
        clear r3 hg3 h3 S3 HO2
        go_wp2_with fail
        go_loopw [9, 10, 48] (fun _ _ i wr => ∃ (done post : List OpV) (A4 : Option Addr) (c4 : Nat), Hid (pre = done ++ post) ∧ i = .int .i64 done.length ∧ Hid (RB W wr g A4 c4 (post.flatMap OpV.put) false Ab acc)) (fun _ _ i _ => pre.length - (intOf i).toNat)
        case atStart => exact ⟨[], pre, A3, c3, rfl, rfl, by rw [HAC.out]; exact HS3⟩
        case round =>
          clear HS3
          obtain ⟨done, post, A4, c4, hx, rfl, hst⟩ := hrel
          cases post with
          | nil =>
            obtain rfl : pre = done := by have := hx.out; simpa using this
            clear hx
            rw [show ([] : List OpV).flatMap OpV.put = [] from rfl] at hst
            go_wp2_with fail
            refine (Left_any _ _ _ _ _ _ hst.out.rdr).mono ?_
            rintro e w5 ⟨rfl, rfl⟩
            obtain ⟨t1, t2, t3⟩ := tk_all (xs := ([] : List Int)) rfl
            have q := Rest_any wr g A4 c4 [] false hst.out.rdr (by simp)
            unfold TakeP at q
            rw [t1, t2, t3] at q
            have HQ := Lib.hid q
            clear t1 t2 t3 q
            go_wp2_with fail
            refine HQ.out.mono ?_
            rintro e w5 ⟨A5, c5, A6, c6, rfl, L5, b5, r6, hA6, h5⟩
            have HS5 := Lib.hid (hst.out.step r6 h5)
            clear HQ L5 b5 r6 hA6 h5 hst
            go_wp2_with fail
            refine (Bad_any _ _ _ _ _ _ HS5.out.rdr).mono ?_
            rintro e w6 ⟨rfl, rfl⟩
            cases acc with
            | nil =>
              go_wp2_with fail
              refine (Left_any _ _ _ _ _ _ HS5.out.rdr).mono ?_
              rintro e w6 ⟨rfl, rfl⟩
              go_wp2_with fail
              refine (Bad_any _ _ _ _ _ _ HS5.out.rdr).mono ?_
              rintro e w6 ⟨rfl, rfl⟩
              go_wp2_with fail
              go_ret
              exact ⟨rfl, HS5.out.ch⟩
            | cons b0 acc =>
              have q := (HS5.out.cls.dropI 1)
              rw [← ints_drop] at q
              simp only [List.drop_succ_cons, List.drop_zero] at q
              obtain ⟨bb, ob, rfl, _⟩ := HS5.out.cls.at (pre := []) (x := b0) (post := acc) rfl
              have HB2 := Lib.hid (fun x hx => HB.out x (List.mem_cons_of_mem _ hx) : ∀ x ∈ acc, isB x)
              simp only [List.length_cons] at *
              have hcb : acc.length + 1 ≤ cb := by assumption
              have HQ6 : ∀ (A7 : Option Addr) (c7 : Nat), Cls w5 A7 (ints .u8 acc) → Calls Try.prog 23 #[.slice A7 acc.length c7] w5 (MadeR w5 acc) := fun A7 c7 h7 => Open_any w5 A7 c7 acc h7 (by omega)
              have HQ7 := Lib.hid (And.intro q HQ6)
              clear q HQ6
              by_cases hc1 : cb = 1
              · subst hc1
                obtain rfl : acc = [] := List.eq_nil_of_length_eq_zero (by omega)
                go_wp2_with fail
                have q8 := HQ7.out.2 (some ⟨bb, ob, none⟩) 0 (fun pre v post e => by simp [ints] at e)
                refine q8.mono ?_
                rintro e w6 ⟨g6, A6, c6, rfl, r6, hg6, _, h6⟩
                have S6 : RB W w6 g6 A6 c6 [] false none [] := ⟨r6, HS5.out.ch.trans h6, Nat.le_trans HS5.out.ch.size hg6, fun pre v post e => by simp [ints] at e, fun a ha => by cases ha⟩
                have q9 := RRaw_any w6 g6 A6 c6 [] false r6 1 (by omega)
                have t1 : tkB [] false (1 : Int).toNat = true := by simp [tkB]
                have t2 : tkO [] false (1 : Int).toNat = [] := by unfold tkO; rw [if_pos t1]
                have t3 : tkR [] false (1 : Int).toNat = [] := by unfold tkR; rw [if_pos t1]
                unfold TakeP at q9
                rw [t1, t2, t3] at q9
                have HS6 := Lib.hid S6
                have HQ9 := Lib.hid q9
                clear r6 hg6 h6 S6 q8 q9 t1 t2 t3 HQ7
                go_wp2_with fail
                refine HQ9.out.mono ?_
                rintro e w7 ⟨A7, c7, A8, c8, rfl, L7, b7, r8, hA8, h7⟩
                have HS7 := Lib.hid (HS6.out.step r8 h7)
                clear HQ9 L7 b7 r8 hA8 h7 HS6
                go_wp2_with fail
                refine (Bad_any _ _ _ _ _ _ HS7.out.rdr).mono ?_
                rintro e w8 ⟨rfl, rfl⟩
                go_wp2_with fail
                refine (Left_any _ _ _ _ _ _ HS7.out.rdr).mono ?_
                rintro e w8 ⟨rfl, rfl⟩
                have q9 := Rest_any w7 g6 A8 c8 [] true HS7.out.rdr (by simp)
                have t1 : tkB [] true ([] : List Int).length = true := by simp [tkB]
                have t2 : tkO [] true ([] : List Int).length = [] := by unfold tkO; rw [if_pos t1]
                unfold TakeP at q9
                rw [t1, t2] at q9
                have HQ9 := Lib.hid q9
                clear q9 t1 t2
                go_wp2_with fail
                refine HQ9.out.mono ?_
                rintro e w8 ⟨A9, c9, A10, c10, rfl, L9, b9, r10, hA10, h9⟩
                have HS9 := Lib.hid (HS7.out.step r10 h9)
                clear HQ9 L9 b9 r10 hA10 h9 HS7
                go_wp2_with fail
                go_ret
                exact ⟨rfl, HS9.out.ch⟩
              · have hc2 : 1 < cb := by omega
                clear hc1
                go_wp2_with fail
                have q8 := HQ7.out.2 (some ⟨bb, ob + 1, none⟩) (cb - 1) HQ7.out.1
                refine q8.mono ?_
                rintro e w6 ⟨g6, A6, c6, rfl, r6, hg6, _, h6⟩
                have S6 : RB W w6 g6 A6 c6 acc false none [] := ⟨r6, HS5.out.ch.trans h6, Nat.le_trans HS5.out.ch.size hg6, fun pre v post e => by simp [ints] at e, fun a ha => by cases ha⟩
                have q9 := RRaw_any w6 g6 A6 c6 acc false r6 ((acc.length : Int) + 1) (by omega)
                have t1 : tkB acc false ((acc.length : Int) + 1).toNat = true := by simp [tkB]
                have t2 : tkO acc false ((acc.length : Int) + 1).toNat = [] := by unfold tkO; rw [if_pos t1]
                have t3 : tkR acc false ((acc.length : Int) + 1).toNat = acc := by unfold tkR; rw [if_pos t1]
                unfold TakeP at q9
                rw [t1, t2, t3] at q9
                have HS6 := Lib.hid S6
                have HQ9 := Lib.hid q9
                clear r6 hg6 h6 S6 q8 q9 t1 t2 t3 HQ7
                go_wp2_with fail
                refine HQ9.out.mono ?_
                rintro e w7 ⟨A7, c7, A8, c8, rfl, L7, b7, r8, hA8, h7⟩
                have HS7 := Lib.hid (HS6.out.step r8 h7)
                clear HQ9 L7 b7 r8 hA8 h7 HS6
                go_wp2_with fail
                refine (Bad_any _ _ _ _ _ _ HS7.out.rdr).mono ?_
                rintro e w8 ⟨rfl, rfl⟩
                go_wp2_with fail
                refine (Left_any _ _ _ _ _ _ HS7.out.rdr).mono ?_
                rintro e w8 ⟨rfl, rfl⟩
                have q9 := Rest_any w7 g6 A8 c8 acc true HS7.out.rdr (by omega)
                have t1 : tkB acc true acc.length = true := by simp [tkB]
                have t2 : tkO acc true acc.length = [] := by unfold tkO; rw [if_pos t1]
                unfold TakeP at q9
                rw [t1, t2] at q9
                have HQ9 := Lib.hid q9
                clear q9 t1 t2
                go_wp2_with fail
                refine HQ9.out.mono ?_
                rintro e w8 ⟨A9, c9, A10, c10, rfl, L9, b9, r10, hA10, h9⟩
                have HS9 := Lib.hid (HS7.out.step r10 h9)
                clear HQ9 L9 b9 r10 hA10 h9 HS7
                go_wp2_with fail
                go_ret
                exact ⟨rfl, HS9.out.ch⟩
          | cons o post =>
            have hlen : done.length < pre.length := by rw [hx.out]; simp
            obtain ⟨b, off, rfl, d0, d1, d2, d3, hok⟩ := (HO.out.to hst.out.ch).at hx.out
            have ho60 := HB60.out o (by rw [hx.out]; simp)
            have hwn := toU_eq o.n
            have hwf := hok.n
            obtain ⟨ys, hys0⟩ : ∃ ys, o.put = ys := ⟨_, rfl⟩
            obtain ⟨rest, hrest⟩ : ∃ rest, post.flatMap OpV.put = rest := ⟨_, rfl⟩
            rw [List.flatMap_cons, hys0, hrest] at hst
            have hyc : ((o.kind = 0 ∨ o.kind = 1) ∧ putB (toU o.n) (heldB o.size) = ys) ∨ (o.kind = 2 ∧ putB (toU o.n) 8 = ys) ∨ (¬ o.kind = 0 ∧ ¬ o.kind = 1 ∧ ¬ o.kind = 2 ∧ o.bs = ys) := by
              rw [← hys0]
              unfold OpV.put
              by_cases h0 : o.kind = 0 ∨ o.kind = 1
              · exact .inl ⟨h0, by rw [if_pos h0]⟩
              · by_cases h2 : o.kind = 2
                · exact .inr (.inl ⟨h2, by rw [if_neg h0, if_pos h2]⟩)
                · exact .inr (.inr ⟨by omega, by omega, h2, by rw [if_neg h0, if_neg h2]⟩)
            have hok' := Lib.hid hok
            have HR := Lib.hid hrest
            have HWF := Lib.hid hwf
            have HYY := Lib.hid hys0
            have hyl := o.put_len ho60
            rw [hys0] at hyl
            have HYL := Lib.hid hyl
            clear hok hys0 hrest hwf hyl
            have hst1 := Lib.hid (hst.out.no ((Ch.refl No wr).alloc (.cells #[.int .i64 o.kind, .int .i64 o.size, .int .i64 o.n, .slice o.A o.bs.length o.c] 29)))
            have hbx := Lib.hid (Blk.new wr 29 [.int .i64 o.kind, .int .i64 o.size, .int .i64 o.n, .slice o.A o.bs.length o.c])
            have hbg : wr.heap.size ≠ g := by have := hst.out.rdr.lt; omega
            have hBL : ∀ x ∈ ys ++ rest, isB x := by
              intro x hx'
              refine HB.out x ?_
              rw [← HAC.out, hx.out, List.flatMap_append, List.flatMap_cons, HR.out, HYY.out]
              simp only [List.mem_append] at hx' ⊢
              exact .inr hx'
            have HBL := Lib.hid hBL
            clear hBL
            have gget : ∀ w', RB W w' g A4 c4 (ys ++ rest) false Ab acc → ∀ sz : Int, heldB sz = ys.length → Calls Try.prog 24 #[.pointer (some ⟨g, 0, none⟩), .int .i64 sz] w' (fun e w'' => ∃ A5 c5, e = .returned (.int .u64 (getN ys : Nat)) ∧ RB W w'' g A5 c5 rest false Ab acc ∧ Ch (Only g) w' w'') := by
              intro w' hr sz hsz
              obtain ⟨t1, t2, t3⟩ := tk_app ys rest hsz.symm
              have q := Get_any w' g A4 c4 _ false hr.rdr HBL.out sz
              unfold GetP at q
              rw [t1, t2, t3] at q
              exact q.mono fun e w'' ⟨A5, c5, h1, h2, _, h4⟩ => ⟨A5, c5, h1, hr.step h2 h4, h4⟩
            have gint : ∀ w', RB W w' g A4 c4 (ys ++ rest) false Ab acc → ys.length = 8 → Calls Try.prog 25 #[.pointer (some ⟨g, 0, none⟩), .int .i64 8] w' (fun e w'' => ∃ A5 c5, e = .returned (.int .i64 (sgn (getN ys) 64)) ∧ RB W w'' g A5 c5 rest false Ab acc ∧ Ch (Only g) w' w'') := by
              intro w' hr h8
              obtain ⟨t1, t2, t3⟩ := tk_app ys rest h8
              have q := RInt_any w' g A4 c4 _ false hr.rdr HBL.out 8
              unfold GetP at q
              rw [show heldB 8 = 8 from rfl, t1, t2, t3] at q
              exact q.mono fun e w'' ⟨A5, c5, h1, h2, _, h4⟩ => ⟨A5, c5, h1, hr.step h2 h4, h4⟩
            have graw : ∀ w', RB W w' g A4 c4 (ys ++ rest) false Ab acc → Calls Try.prog 33 #[.pointer (some ⟨g, 0, none⟩), .int .i64 (ys.length : Nat)] w' (fun e w'' => ∃ A5 c5 A6 c6, e = .returned (.slice A6 ys.length c6) ∧ Cls w'' A6 (ints .u8 ys) ∧ RB W w'' g A5 c5 rest false Ab acc ∧ Ch (Only g) w' w'') := by
              intro w' hr
              obtain ⟨t1, t2, t3⟩ := tk_app ys rest (n := (ys.length : Int).toNat) (by omega)
              have q := RRaw_any w' g A4 c4 _ false hr.rdr (ys.length : Nat) (by have := HYL.out; omega)
              unfold TakeP at q
              rw [t1, t2, t3] at q
              exact q.mono fun e w'' ⟨A5, c5, A6, c6, h1, h2, _, h4, _, h6⟩ => ⟨A6, c6, A5, c5, h1, h2, hr.step h4 h6, h6⟩
            have HG := Lib.hid (And.intro gget (And.intro gint graw))
            clear gget gint graw hst
            rcases hyc with ⟨hk, hys⟩ | ⟨hk, hys⟩ | ⟨hk0, hk1, hk2, hys⟩
            · rcases hk with hk | hk
              · have hlo : 0 ≤ o.kind := by omega
                have hhi : o.kind ≤ 0 := by omega
                clear hk
                have hys1 : heldB o.size = ys.length := by rw [← hys]; simp
                have hlo1 : lowB (toU o.n) (8 * (ys.length : Int)) = getN ys := by
                  rw [← hys1, ← hys, getN_putB]
                  unfold lowB
                  rw [hld_8 _ (heldB_le _).2, show (2 : Nat) ^ (8 * heldB o.size) = 256 ^ heldB o.size from by rw [Nat.pow_mul]]
                have hheld := fun w' => RHeld_18 o.size w'
                rw [hys1] at hheld
                have hlow := fun w' => RLow_any (toU o.n) (8 * (ys.length : Int)) w' (toU_lt _)
                rw [hlo1] at hlow
                have hgg := fun w' hr => HG.out.1 w' hr o.size hys1
                have hx1 : IntKind.i64.wrap (8 * (ys.length : Int)) = 8 * (ys.length : Int) := by rw [IntKind.wrap_i64]; have := HYL.out; omega
                have HH := Lib.hid (And.intro hheld (And.intro hlow hgg))
                clear hheld hlow hgg hlo1 hys1 hys
                go_wp2_with fail
                obtain ⟨f0, f1, f2, f3⟩ := hbx.out.four
                generalize wr.alloc (.cells #[.int .i64 o.kind, .int .i64 o.size, .int .i64 o.n, .slice o.A o.bs.length o.c] 29) = w4 at *
                generalize wr.heap.size = b9 at *
                clear d0 d1 d2 d3 hbx
                go_region_held3 (fun w' => w'.cell? ⟨b9, 0, none⟩ = some (.int .i64 o.kind) ∧ w'.cell? ⟨b9, 1, none⟩ = some (.int .i64 o.size) ∧ w'.cell? ⟨b9, 2, none⟩ = some (.int .i64 o.n) ∧ w'.cell? ⟨b9, 3, none⟩ = some (.slice o.A o.bs.length o.c)) (first | (refine ⟨?_, ?_, ?_, ?_⟩ <;> first | assumption | (simp [*]; done)) | (refine ⟨h5.cell ?_ hbg, h5.cell ?_ hbg, h5.cell ?_ hbg, h5.cell ?_ hbg⟩ <;> first | assumption | (simp [*]; done))) (first | (go_at_call 24; refine (HH.out.2.2 _ (hst1.out.no (Ch.refl No w4).drew)).mono ?_; rintro e w5 ⟨A5, c5, rfl, S5, h5⟩; have HS5 := Lib.hid S5; clear S5) | (go_at_call 35; refine (HH.out.1 _).mono ?_; rintro e w6 ⟨rfl, rfl⟩) | (go_at_call 28; refine (HH.out.2.1 _).mono ?_; rintro e w6 ⟨rfl, rfl⟩))
                clear f0 f1 f2 f3 hst1 h5
                clear HG
                go_wp2_with fail
                refine (Bad_any _ _ _ _ _ _ HS5.out.rdr).mono ?_
                rintro e w6 ⟨rfl, rfl⟩
                go_wp2_with fail
                go_roundw
                case rel => exact ⟨done ++ [o], post, A5, c5, by rw [hx.out]; simp [Hid], by simp, by rw [HR.out]; exact HS5⟩
                case measure => simp [intOf]; omega
              · have hlo : 1 ≤ o.kind := by omega
                have hhi : o.kind ≤ 1 := by omega
                clear hk
                have hys1 : heldB o.size = ys.length := by rw [← hys]; simp
                have hlo1 : lowB (toU o.n) (8 * (ys.length : Int)) = getN ys := by
                  rw [← hys1, ← hys, getN_putB]
                  unfold lowB
                  rw [hld_8 _ (heldB_le _).2, show (2 : Nat) ^ (8 * heldB o.size) = 256 ^ heldB o.size from by rw [Nat.pow_mul]]
                have hheld := fun w' => RHeld_18 o.size w'
                rw [hys1] at hheld
                have hlow := fun w' => RLow_any (toU o.n) (8 * (ys.length : Int)) w' (toU_lt _)
                rw [hlo1] at hlow
                have hgg := fun w' hr => HG.out.1 w' hr o.size hys1
                have hx1 : IntKind.i64.wrap (8 * (ys.length : Int)) = 8 * (ys.length : Int) := by rw [IntKind.wrap_i64]; have := HYL.out; omega
                have HH := Lib.hid (And.intro hheld (And.intro hlow hgg))
                clear hheld hlow hgg hlo1 hys1 hys
                go_wp2_with fail
                obtain ⟨f0, f1, f2, f3⟩ := hbx.out.four
                generalize wr.alloc (.cells #[.int .i64 o.kind, .int .i64 o.size, .int .i64 o.n, .slice o.A o.bs.length o.c] 29) = w4 at *
                generalize wr.heap.size = b9 at *
                clear d0 d1 d2 d3 hbx
                go_region_held3 (fun w' => w'.cell? ⟨b9, 0, none⟩ = some (.int .i64 o.kind) ∧ w'.cell? ⟨b9, 1, none⟩ = some (.int .i64 o.size) ∧ w'.cell? ⟨b9, 2, none⟩ = some (.int .i64 o.n) ∧ w'.cell? ⟨b9, 3, none⟩ = some (.slice o.A o.bs.length o.c)) (first | (refine ⟨?_, ?_, ?_, ?_⟩ <;> first | assumption | (simp [*]; done)) | (refine ⟨h5.cell ?_ hbg, h5.cell ?_ hbg, h5.cell ?_ hbg, h5.cell ?_ hbg⟩ <;> first | assumption | (simp [*]; done))) (first | (go_at_call 24; refine (HH.out.2.2 _ (hst1.out.no (Ch.refl No w4).drew)).mono ?_; rintro e w5 ⟨A5, c5, rfl, S5, h5⟩; have HS5 := Lib.hid S5; clear S5) | (go_at_call 35; refine (HH.out.1 _).mono ?_; rintro e w6 ⟨rfl, rfl⟩) | (go_at_call 28; refine (HH.out.2.1 _).mono ?_; rintro e w6 ⟨rfl, rfl⟩))
                clear f0 f1 f2 f3 hst1 h5
                clear HG
                go_wp2_with fail
                refine (Bad_any _ _ _ _ _ _ HS5.out.rdr).mono ?_
                rintro e w6 ⟨rfl, rfl⟩
                go_wp2_with fail
                go_roundw
                case rel => exact ⟨done ++ [o], post, A5, c5, by rw [hx.out]; simp [Hid], by simp, by rw [HR.out]; exact HS5⟩
                case measure => simp [intOf]; omega
            · have hlo : 2 ≤ o.kind := by omega
              have hhi : o.kind ≤ 2 := by omega
              clear hk
              have q1 : sgn (getN ys) 64 = o.n := by rw [← hys]; exact sgn_back o.n HWF.out
              have hgint := HG.out.2.1
              rw [q1] at hgint
              have HGI := Lib.hid (fun w' hr => hgint w' hr (by rw [← hys]; simp))
              clear q1 hgint hys
              go_wp2_with fail
              obtain ⟨f0, f1, f2, f3⟩ := hbx.out.four
              generalize wr.alloc (.cells #[.int .i64 o.kind, .int .i64 o.size, .int .i64 o.n, .slice o.A o.bs.length o.c] 29) = w4 at *
              generalize wr.heap.size = b9 at *
              clear d0 d1 d2 d3 hbx
              go_region_held3 (fun w' => w'.cell? ⟨b9, 0, none⟩ = some (.int .i64 o.kind) ∧ w'.cell? ⟨b9, 1, none⟩ = some (.int .i64 o.size) ∧ w'.cell? ⟨b9, 2, none⟩ = some (.int .i64 o.n) ∧ w'.cell? ⟨b9, 3, none⟩ = some (.slice o.A o.bs.length o.c)) (first | (refine ⟨?_, ?_, ?_, ?_⟩ <;> first | assumption | (simp [*]; done)) | (refine ⟨h5.cell ?_ hbg, h5.cell ?_ hbg, h5.cell ?_ hbg, h5.cell ?_ hbg⟩ <;> first | assumption | (simp [*]; done))) (first | (go_at_call 25; refine (HGI.out _ (hst1.out.no (Ch.refl No w4).drew)).mono ?_; rintro e w5 ⟨A5, c5, rfl, S5, h5⟩; have HS5 := Lib.hid S5; clear S5))
              clear f0 f1 f2 f3 hst1 h5
              clear HG
              go_wp2_with fail
              refine (Bad_any _ _ _ _ _ _ HS5.out.rdr).mono ?_
              rintro e w6 ⟨rfl, rfl⟩
              go_wp2_with fail
              go_roundw
              case rel => exact ⟨done ++ [o], post, A5, c5, by rw [hx.out]; simp [Hid], by simp, by rw [HR.out]; exact HS5⟩
              case measure => simp [intOf]; omega
            · subst hys
              have hsm : ∀ w5 A6 c6, Cls w5 A6 (ints .u8 o.bs) → Ch No W w5 → Calls Try.prog 21 #[.slice A6 o.bs.length c6, .slice o.A o.bs.length o.c] w5 (fun e w' => e = .returned (.bool true) ∧ w5 = w') := by
                intro w5 A6 c6 h1 h2
                have q := Same_any w5 A6 c6 o.bs o.A o.c o.bs h1 (hok'.out.cls.ch h2 (fun _ _ h => h)) hok'.out.isB hok'.out.isB
                simp only [decide_true] at q
                exact q
              have HSM := Lib.hid hsm
              clear hsm
              go_wp2_with fail
              obtain ⟨f0, f1, f2, f3⟩ := hbx.out.four
              generalize wr.alloc (.cells #[.int .i64 o.kind, .int .i64 o.size, .int .i64 o.n, .slice o.A o.bs.length o.c] 29) = w4 at *
              generalize wr.heap.size = b9 at *
              clear d0 d1 d2 d3 hbx
              go_region_held3 (fun w' => w'.cell? ⟨b9, 0, none⟩ = some (.int .i64 o.kind) ∧ w'.cell? ⟨b9, 1, none⟩ = some (.int .i64 o.size) ∧ w'.cell? ⟨b9, 2, none⟩ = some (.int .i64 o.n) ∧ w'.cell? ⟨b9, 3, none⟩ = some (.slice o.A o.bs.length o.c)) (first | (refine ⟨?_, ?_, ?_, ?_⟩ <;> first | assumption | (simp [*]; done)) | (refine ⟨h5.cell ?_ hbg, h5.cell ?_ hbg, h5.cell ?_ hbg, h5.cell ?_ hbg⟩ <;> first | assumption | (simp [*]; done))) (first | (go_at_call 33; refine (HG.out.2.2 _ (hst1.out.no (Ch.refl No w4).drew)).mono ?_; rintro e w5 ⟨A5, c5, A6, c6, rfl, L6, S5, h5⟩; have HS5 := Lib.hid S5; have HL6 := Lib.hid L6; clear S5 L6) | (go_at_call 21; refine (HSM.out _ _ _ HL6.out HS5.out.ch).mono ?_; rintro e w6 ⟨rfl, rfl⟩))
              clear f0 f1 f2 f3 hst1 h5
              clear HG
              go_wp2_with fail
              refine (Bad_any _ _ _ _ _ _ HS5.out.rdr).mono ?_
              rintro e w6 ⟨rfl, rfl⟩
              go_wp2_with fail
              go_roundw
              case rel => exact ⟨done ++ [o], post, A5, c5, by rw [hx.out]; simp [Hid], by simp, by rw [HR.out]; exact HS5⟩
              case measure => simp [intOf]; omega
      | cons o post =>
        have hlen : pre.length < ops.length := by rw [hx.out]; simp
        obtain ⟨b, off, rfl, c0, c1, c2, c3, hok⟩ := (HO.out.to hst.out.ch).at hx.out
        have ho60 := HB60.out o (by rw [hx.out]; simp)
        have hwn := toU_eq o.n
        have hst1 := Lib.hid (hst.out.no ((Ch.refl No wr).alloc (.cells #[.int .i64 o.kind, .int .i64 o.size, .int .i64 o.n, .slice o.A o.bs.length o.c] 29)))
        obtain ⟨ys, hys0⟩ : ∃ ys, o.put = ys := ⟨_, rfl⟩
        have hfm : (pre ++ [o]).flatMap OpV.put = acc ++ ys := by rw [List.flatMap_append, HAC.out]; simp [hys0]
        have HF := Lib.hid hfm
        have hyc : ((o.kind = 0 ∨ o.kind = 1) ∧ putB (toU o.n) (heldB o.size) = ys) ∨ (o.kind = 2 ∧ putB (toU o.n) 8 = ys) ∨ (¬ o.kind = 0 ∧ ¬ o.kind = 1 ∧ ¬ o.kind = 2 ∧ o.bs = ys) := by
          rw [← hys0]
          unfold OpV.put
          by_cases h0 : o.kind = 0 ∨ o.kind = 1
          · exact .inl ⟨h0, by rw [if_pos h0]⟩
          · by_cases h2 : o.kind = 2
            · exact .inr (.inl ⟨h2, by rw [if_neg h0, if_pos h2]⟩)
            · exact .inr (.inr ⟨by omega, by omega, h2, by rw [if_neg h0, if_neg h2]⟩)
        have hok' := Lib.hid hok
        clear hok hfm hys0 hst
        rcases hyc with ⟨hk, hys⟩ | ⟨hk, hys⟩ | ⟨hk0, hk1, hk2, hys⟩
        · rcases hk with hk | hk
          · have HYS := Lib.hid hys
            clear hys
            have hlo : 0 ≤ o.kind := by omega
            have hhi : o.kind ≤ 0 := by omega
            clear hk
            go_wp2_with fail
            refine (Put_any (toU o.n) o.size _ (w1.heap.size + 1) w1.heap.size k acc hst1.out.wr hst1.out.le (by omega)).mono ?_
            rintro e w3 ⟨rfl, hp3⟩
            rw [HYS.out] at hp3
            obtain ⟨k3, S3⟩ := hst1.out.put hp3
            have HS3 := Lib.hid S3
            clear S3 hp3
            go_wp2_with fail
            go_roundw
            case rel => exact ⟨pre ++ [o], post, k3, by rw [hx.out]; simp [Hid], by simp, by rw [HF.out]; exact HS3⟩
            case measure => simp [intOf]; omega
          · have HYS := Lib.hid hys
            clear hys
            have hlo : 1 ≤ o.kind := by omega
            have hhi : o.kind ≤ 1 := by omega
            clear hk
            go_wp2_with fail
            refine (Put_any (toU o.n) o.size _ (w1.heap.size + 1) w1.heap.size k acc hst1.out.wr hst1.out.le (by omega)).mono ?_
            rintro e w3 ⟨rfl, hp3⟩
            rw [HYS.out] at hp3
            obtain ⟨k3, S3⟩ := hst1.out.put hp3
            have HS3 := Lib.hid S3
            clear S3 hp3
            go_wp2_with fail
            go_roundw
            case rel => exact ⟨pre ++ [o], post, k3, by rw [hx.out]; simp [Hid], by simp, by rw [HF.out]; exact HS3⟩
            case measure => simp [intOf]; omega
        · have HYS := Lib.hid hys
          clear hys
          have hlo : 2 ≤ o.kind := by omega
          have hhi : o.kind ≤ 2 := by omega
          clear hk
          go_wp2_with fail
          refine (WInt_any o.n 8 _ (w1.heap.size + 1) w1.heap.size k acc hst1.out.wr hst1.out.le (by omega)).mono ?_
          rintro e w3 ⟨rfl, hp3⟩
          rw [show heldB 8 = 8 from rfl, HYS.out] at hp3
          obtain ⟨k3, S3⟩ := hst1.out.put hp3
          have HS3 := Lib.hid S3
          clear S3 hp3
          go_wp2_with fail
          go_roundw
          case rel => exact ⟨pre ++ [o], post, k3, by rw [hx.out]; simp [Hid], by simp, by rw [HF.out]; exact HS3⟩
          case measure => simp [intOf]; omega
        · have HYS := Lib.hid hys
          clear hys
          go_wp2_with fail
          refine (WRaw_any _ (w1.heap.size + 1) w1.heap.size k acc hst1.out.wr hst1.out.le o.A o.c o.bs (hok'.out.cls.ch hst1.out.ch (fun _ _ h => h)) (by omega)).mono ?_
          rintro e w3 ⟨rfl, hp3⟩
          obtain ⟨k3, S3⟩ := hst1.out.put hp3
          have HS3 := Lib.hid S3
          clear S3 hp3
          go_wp2_with fail
          go_roundw
          case rel => exact ⟨pre ++ [o], post, k3, by rw [hx.out]; simp [Hid], by simp, by rw [HF.out, ← HYS.out]; exact HS3⟩
          case measure => simp [intOf]; omega

theorem octetBack_walk (W : World) (a0 : Option Addr) (len0 cap0 : Nat) (rd0 : Rd Try.prog W 8 22 [.slice a0 len0 cap0]) :
    Calls Try.prog 7 #[.slice a0 len0 cap0] W fun e w' => e = .returned (.bool true) ∧ Below W.heap.size W w' := by
  obtain ⟨A, c, xs, hv, hr, hp, _, hb⟩ := slice_dec OpV.enc (OpV.Ok W) rd0 Try.underlying22 (by kernel_rfl : Try.prog.cellsOf 29 = 4) (by kernel_rfl : Try.prog.bytesOf 29 = 48) (by omega) (fun r hr => op_dec hr)
  rw [hv]
  exact (octetBack_core W A c xs ⟨hr, hp, Ch.refl No W⟩ (by omega)).mono fun e w' ⟨h1, h2⟩ => ⟨h1, h2.same⟩
end Go.Proofs.Ytoaekfocfdcgiaa
