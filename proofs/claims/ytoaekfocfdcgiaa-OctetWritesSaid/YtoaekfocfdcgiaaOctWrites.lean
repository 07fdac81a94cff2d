/- OctetWrites: of each row of fields the bytes are as the reference says: the walk. -/
import Derived.Test.YtoaekfocfdcgiaaOctOps
import Derived.Test.YtoaekfocfdcgiaaRefPut
namespace Go.Proofs.Ytoaekfocfdcgiaa
open Go.RowKit

/-- a writer, and a slice of the call's own beside it -/
structure WSt (W w : World) (B g : Nat) (k : Option Nat) (a1 : List Int) (x : Value) (a2 : List Int) : Prop where
  wr : Wr w B g k a1
  own : OwnS w B 5 x (ints .u8 a2)
  ch : Ch No W w
  gB : g < B
  le : B ≤ w.heap.size
  gW : W.heap.size ≤ g
  dj : ∀ i, k = some i → x.ownBlock ≠ some i
theorem WSt.put {W w w' : World} {B g : Nat} {k : Option Nat} {a1 a1' a2 : List Int} {x : Value} (h : WSt W w B g k a1 x a2) (hp : WrPost w B g k a1' w') : ∃ k', WSt W w' B g k' a1' x a2 := by
  obtain ⟨k', h1, h2, h3⟩ := hp
  refine ⟨k', h1, h.own.ch h2 (fun i hi he => ?_), h.ch.wr0 h.wr (Nat.le_trans h.gW (Nat.le_of_lt h.gB)) h.gW h2, h.gB, Nat.le_trans h.le h2.size, h.gW, fun i hi he => ?_⟩
  · have := (h.own.ge i hi).1
    rcases he with he | he
    · have := h.gB; omega
    · exact h.dj i he hi
  · rcases h3 i hi with h4 | h4
    · exact h.dj i h4 he
    · have := (h.own.ge i he).2; omega
theorem WSt.no {W w w' : World} {B g : Nat} {k : Option Nat} {a1 a2 : List Int} {x : Value} (h : WSt W w B g k a1 x a2) (hc : Ch No w w') : WSt W w' B g k a1 x a2 :=
  ⟨h.wr.ch hc (fun h => h) (fun _ _ h => h), h.own.ch hc (fun _ _ h => h), h.ch.trans hc, h.gB, Nat.le_trans h.le hc.size, h.gW, h.dj⟩
theorem WSt.app {W w w' : World} {B g : Nat} {k : Option Nat} {a1 a2 a2' : List Int} {x x' : Value} (h : WSt W w B g k a1 x a2) (ho : OwnS w' B 5 x' (ints .u8 a2')) (hc : Ch (fun i => x.ownBlock = some i) w w')
    (hat : ∀ i, x'.ownBlock = some i → x.ownBlock = some i ∨ w.heap.size ≤ i) : WSt W w' B g k a1 x' a2' := by
  have hB : W.heap.size ≤ B := Nat.le_trans h.gW (Nat.le_of_lt h.gB)
  refine ⟨h.wr.ch hc (fun he => ?_) (fun i hi he => h.dj i hi he), ho, h.ch.trans' hc (fun i hi he => ?_), h.gB, Nat.le_trans h.le hc.size, h.gW, fun i hi he => ?_⟩
  · have := (h.own.ge g he).1; have := h.gB; omega
  · have := (h.own.ge i he).1; omega
  · rcases hat i he with h1 | h1
    · exact h.dj i hi h1
    · have := (h.wr.klt hi).2; omega

/-- a field's bytes -/
def OpV.out (o : OpV) : List Int := if o.kind = 0 ∨ o.kind = 1 ∨ o.kind = 2 then putB (toU o.n) (heldB o.size) else if o.kind = 3 then o.bs else []
theorem OpV.out_len (o : OpV) (h : o.bs.length ≤ 60) : o.out.length ≤ 60 := by
  unfold OpV.out
  have := (heldB_le o.size).2
  split
  · simp; omega
  · split
    · exact h
    · simp
theorem OpV.out_isB (o : OpV) (h : ∀ x ∈ o.bs, isB x) : ∀ x ∈ o.out, isB x := by
  unfold OpV.out
  split
  · exact putB_isB _ _
  · split
    · exact h
    · simp
theorem fewB_len {ops : List OpV} (h : fewB ops = true) : ops.length ≤ 40 ∧ ∀ o ∈ ops, o.bs.length ≤ 60 := by
  unfold fewB at h
  simp only [Bool.and_eq_true, decide_eq_true_eq, List.all_eq_true] at h
  exact h

set_option maxHeartbeats 8000000 in
set_option maxRecDepth 100000 in
theorem octetWrites_core (W : World) (A : Option Addr) (c : Nat) (ops : List OpV) (h : Ops W W A ops) (hl : ops.length ≤ 140737488351232) :
    Calls Try.prog 3 #[.slice A ops.length c] W fun e w' => e = .returned (.bool true) ∧ Ch No W w' := by
  have HO := Lib.hid h
  clear h
  go_enter Try.func3, Try.ntmps3
  go_wp2_with fail
  refine (octAlive_any _).mono ?_
  rintro e w0 ⟨rfl, C0⟩
  have HC0 := Lib.hid C0
  clear C0
  go_wp2_with fail
  refine (few_any W w0 A c ops (HO.out.to HC0.out) hl).mono ?_
  rintro e w1 ⟨rfl, C1⟩
  have HC1 := Lib.hid (HC0.out.trans C1)
  clear C1 HC0
  cases hfew : fewB ops with
  | false =>
    go_wp2_with fail
    go_ret
    exact ⟨rfl, HC1.out⟩
  | true =>
    obtain ⟨hl40, hb60⟩ := fewB_len hfew
    have HB60 := Lib.hid hb60
    clear hfew hb60
    go_wp2_with fail
    have S0 : WSt W ((w1.alloc (.cells #[.slice none 0 0] 27)).alloc (.cells #[] 5)) (w1.heap.size + 1) w1.heap.size none [] (.slice (some ⟨w1.heap.size + 1, 0, none⟩) 0 0) [] :=
      ⟨(Wr.new w1 _).ch ((Ch.refl No _).alloc _) (fun h => h) (fun _ _ h => h), by simpa [ints] using OwnS.lit (w1.alloc (.cells #[.slice none 0 0] 27)) (w1.heap.size + 1) 5 [] (by simp) (by simp), (HC1.out.alloc _).alloc _, by omega, by simp, HC1.out.size, fun i hi => by cases hi⟩
    have HS0 := Lib.hid S0
    clear S0 HC1
    go_loopw [4, 6, 15] (fun x _ i wr => ∃ (pre post : List OpV) (k : Option Nat), Hid (ops = pre ++ post) ∧ i = .int .i64 pre.length ∧ Hid (WSt W wr (w1.heap.size + 1) w1.heap.size k (pre.flatMap OpV.out) x (pre.flatMap OpV.out))) (fun _ _ i _ => ops.length - (intOf i).toNat)
    case atStart => exact ⟨[], ops, none, rfl, rfl, HS0⟩
    case round =>
      clear HS0
      obtain ⟨pre, post, k, hx, rfl, hst⟩ := hrel
      have hacc : (pre.flatMap OpV.out).length ≤ 60 * pre.length := by
        have : ∀ o ∈ pre, o.bs.length ≤ 60 := fun o ho => HB60.out o (by rw [hx.out]; simp [ho])
        clear hst hx
        induction pre with
        | nil => simp
        | cons o pre ih =>
          have h1 := ih (fun o ho => this o (List.mem_cons_of_mem _ ho))
          have h2 := OpV.out_len o (this o (by simp))
          rw [List.flatMap_cons, List.length_append, List.length_cons]
          omega
      have hB : ∀ x ∈ pre.flatMap OpV.out, isB x := by
        intro x hm
        obtain ⟨o, ho, hxo⟩ := List.mem_flatMap.1 hm
        exact OpV.out_isB o (HO.out.ok o (by rw [hx.out]; simp [ho])).isB x hxo
      obtain ⟨acc, hac⟩ : ∃ acc, pre.flatMap OpV.out = acc := ⟨_, rfl⟩
      rw [hac] at hst hacc hB
      have HB := Lib.hid hB
      have HAC := Lib.hid hac
      clear hB hac
      obtain ⟨Ax, cx, rfl, _⟩ := hst.out.own.slice_ints
      cases post with
      | nil =>
        obtain rfl : pre = ops := by have := hx.out; simpa using this.symm
        go_wp2_with fail
        refine (Done_any wr _ _ k acc hst.out.wr (by omega)).mono ?_
        rintro e w2 ⟨A2, c2, rfl, o2, h2⟩
        have S2 := hst.out.no h2
        obtain ⟨A3, c3, e3, L3, _⟩ := o2.slice_ints
        obtain ⟨rfl, rfl⟩ : A2 = A3 ∧ c2 = c3 := by simpa using e3
        obtain ⟨A4, c4, e4, L4, _⟩ := S2.own.slice_ints
        obtain ⟨rfl, rfl⟩ : Ax = A4 ∧ cx = c4 := by simpa using e4
        have q := Same_any w2 A2 c2 acc Ax cx acc L3 L4 HB.out HB.out
        simp only [decide_true] at q
        have HQ := Lib.hid q
        have HC := Lib.hid S2.ch
        clear o2 h2 S2 e3 L3 e4 L4 q hst
        go_wp2_with fail
        refine HQ.out.mono ?_
        rintro e w3 ⟨rfl, rfl⟩
        go_wp2_with fail
        go_ret
        exact ⟨rfl, HC.out⟩
      | cons o post =>
        have hlen : pre.length < ops.length := by rw [hx.out]; simp
        obtain ⟨b, off, rfl, c0, c1, c2, c3, hok⟩ := (HO.out.to hst.out.ch).at hx.out
        have ho60 := HB60.out o (by rw [hx.out]; simp)
        have hwn := toU_eq o.n
        obtain ⟨ys, hys0⟩ : ∃ ys, o.out = ys := ⟨_, rfl⟩
        have hyl : ys.length ≤ 60 := by rw [← hys0]; exact o.out_len ho60
        have hfm : (pre ++ [o]).flatMap OpV.out = acc ++ ys := by rw [List.flatMap_append, HAC.out]; simp [hys0]
        have hst1 := Lib.hid (hst.out.no ((Ch.refl No wr).alloc (.cells #[.int .i64 o.kind, .int .i64 o.size, .int .i64 o.n, .slice o.A o.bs.length o.c] 29)))
        have hbx := Lib.hid (Blk.new wr 29 [.int .i64 o.kind, .int .i64 o.size, .int .i64 o.n, .slice o.A o.bs.length o.c])
        have hbg : wr.heap.size ≠ w1.heap.size := by have := hst.out.wr.lt; omega
        have hbk : k ≠ some wr.heap.size := fun e => by have := (hst.out.wr.klt e).2; omega
        have HFM := Lib.hid hfm
        clear hfm
        have hfm := HFM.out
        clear HFM
        have hok' := Lib.hid hok
        clear hok
        have hin : ¬ (o.kind = 0 ∨ o.kind = 1 ∨ o.kind = 2) ∨ putB (toU o.n) (heldB o.size) = ys := by
          by_cases hq : o.kind = 0 ∨ o.kind = 1 ∨ o.kind = 2
          · right; rw [← hys0]; unfold OpV.out; rw [if_pos hq]
          · exact .inl hq
        have hin3 : o.kind = 3 → ys = o.bs := fun hq => by rw [← hys0]; unfold OpV.out; rw [if_neg (by omega), if_pos hq]
        have hine : ¬ (o.kind = 0 ∨ o.kind = 1 ∨ o.kind = 2) → ¬ o.kind = 3 → ys = [] := fun h1 h2 => by rw [← hys0]; unfold OpV.out; rw [if_neg h1, if_neg h2]
        have HI := Lib.hid (And.intro hin (And.intro hin3 hine))
        have HF := Lib.hid hfm
        clear hfm hin hin3 hine hys0
        by_cases hk0 : o.kind = 0
        · have hys : putB (toU o.n) (heldB o.size) = ys := by rcases HI.out.1 with h | h; exact absurd (by omega) h; exact h
          have HYS := Lib.hid hys
          clear hys
          have hlo : 0 ≤ o.kind := by omega
          have hhi : o.kind ≤ 0 := by omega
          clear hk0  
          go_wp2_with fail
          refine (Put_any (toU o.n) o.size _ (w1.heap.size + 1) w1.heap.size k acc hst1.out.wr hst1.out.le (by omega)).mono ?_
          rintro e w3 ⟨rfl, hp3⟩
          rw [HYS.out] at hp3
          obtain ⟨k3, S3⟩ := hst1.out.put hp3
          obtain ⟨d0, d1, d2, d3⟩ := (hp3.blk hbx.out hbg hbk).four
          have HS3 := Lib.hid S3
          clear S3 hp3
          go_wp2_with fail
          have q4 := RPut_any (toU o.n) o.size w3 (toU_lt _)
          rw [HYS.out] at q4
          refine q4.mono ?_
          rintro e w4 ⟨A4, c4, rfl, o4, h4⟩
          have S4 := HS3.out.no h4
          obtain ⟨A', c', e4, L4, _⟩ := o4.slice_ints
          obtain ⟨rfl, rfl⟩ : A4 = A' ∧ c4 = c' := by simpa using e4
          have HS4 := Lib.hid S4
          have HL4 := Lib.hid L4
          clear q4 o4 h4 S4 e4 L4 HS3 d0 d1 d2 d3
          go_wp2_with (at_builtin; refine appI rfl _ _ 25 5 rfl .u8 0 1 Try.underlying25 u8info (w1.heap.size + 1) Ax cx acc rfl HS4.out.own A4 c4 ys rfl HL4.out ?hn ?hb ?hB ?_)
          case hn => simp [maxLen]; omega
          case hb => omega
          case hB => exact HS4.out.le
          intro A5 c5 w5 o5 h5 hat5
          have HS5 := Lib.hid (HS4.out.app (x' := .slice A5 (acc.length + ys.length) c5) (a2' := acc ++ ys) (by simpa using o5) h5 (by simpa using hat5))
          clear o5 h5 hat5 HS4 HL4
          go_wp2_with fail
          go_roundw
          case rel => exact ⟨pre ++ [o], post, k3, by rw [hx.out]; simp [Hid], by simp, by rw [HF.out]; exact HS5⟩
          case measure => simp [intOf]; omega
        · by_cases hk1 : o.kind = 1
          · have hys : putB (toU o.n) (heldB o.size) = ys := by rcases HI.out.1 with h | h; exact absurd (by omega) h; exact h
            have HYS := Lib.hid hys
            clear hys
            have hlo : 1 ≤ o.kind := by omega
            have hhi : o.kind ≤ 1 := by omega
            clear hk0 hk1 
            go_wp2_with fail
            refine (Put_any (toU o.n) o.size _ (w1.heap.size + 1) w1.heap.size k acc hst1.out.wr hst1.out.le (by omega)).mono ?_
            rintro e w3 ⟨rfl, hp3⟩
            rw [HYS.out] at hp3
            obtain ⟨k3, S3⟩ := hst1.out.put hp3
            obtain ⟨d0, d1, d2, d3⟩ := (hp3.blk hbx.out hbg hbk).four
            have HS3 := Lib.hid S3
            clear S3 hp3
            go_wp2_with fail
            have q4 := RPut_any (toU o.n) o.size w3 (toU_lt _)
            rw [HYS.out] at q4
            refine q4.mono ?_
            rintro e w4 ⟨A4, c4, rfl, o4, h4⟩
            have S4 := HS3.out.no h4
            obtain ⟨A', c', e4, L4, _⟩ := o4.slice_ints
            obtain ⟨rfl, rfl⟩ : A4 = A' ∧ c4 = c' := by simpa using e4
            have HS4 := Lib.hid S4
            have HL4 := Lib.hid L4
            clear q4 o4 h4 S4 e4 L4 HS3 d0 d1 d2 d3
            go_wp2_with (at_builtin; refine appI rfl _ _ 25 5 rfl .u8 0 1 Try.underlying25 u8info (w1.heap.size + 1) Ax cx acc rfl HS4.out.own A4 c4 ys rfl HL4.out ?hn ?hb ?hB ?_)
            case hn => simp [maxLen]; omega
            case hb => omega
            case hB => exact HS4.out.le
            intro A5 c5 w5 o5 h5 hat5
            have HS5 := Lib.hid (HS4.out.app (x' := .slice A5 (acc.length + ys.length) c5) (a2' := acc ++ ys) (by simpa using o5) h5 (by simpa using hat5))
            clear o5 h5 hat5 HS4 HL4
            go_wp2_with fail
            go_roundw
            case rel => exact ⟨pre ++ [o], post, k3, by rw [hx.out]; simp [Hid], by simp, by rw [HF.out]; exact HS5⟩
            case measure => simp [intOf]; omega
          · by_cases hk2 : o.kind = 2
            · have hys : putB (toU o.n) (heldB o.size) = ys := by rcases HI.out.1 with h | h; exact absurd (by omega) h; exact h
              have HYS := Lib.hid hys
              clear hys
              have hlo : 2 ≤ o.kind := by omega
              have hhi : o.kind ≤ 2 := by omega
              clear hk0 hk1 hk2
              go_wp2_with fail
              refine (WInt_any o.n o.size _ (w1.heap.size + 1) w1.heap.size k acc hst1.out.wr hst1.out.le (by omega)).mono ?_
              rintro e w3 ⟨rfl, hp3⟩
              rw [HYS.out] at hp3
              obtain ⟨k3, S3⟩ := hst1.out.put hp3
              obtain ⟨d0, d1, d2, d3⟩ := (hp3.blk hbx.out hbg hbk).four
              have HS3 := Lib.hid S3
              clear S3 hp3
              go_wp2_with fail
              have q4 := RInt2_any o.n o.size w3
              rw [HYS.out] at q4
              refine q4.mono ?_
              rintro e w4 ⟨A4, c4, rfl, o4, h4⟩
              have S4 := HS3.out.no h4
              obtain ⟨A', c', e4, L4, _⟩ := o4.slice_ints
              obtain ⟨rfl, rfl⟩ : A4 = A' ∧ c4 = c' := by simpa using e4
              have HS4 := Lib.hid S4
              have HL4 := Lib.hid L4
              clear q4 o4 h4 S4 e4 L4 HS3 d0 d1 d2 d3
              go_wp2_with (at_builtin; refine appI rfl _ _ 25 5 rfl .u8 0 1 Try.underlying25 u8info (w1.heap.size + 1) Ax cx acc rfl HS4.out.own A4 c4 ys rfl HL4.out ?hn ?hb ?hB ?_)
              case hn => simp [maxLen]; omega
              case hb => omega
              case hB => exact HS4.out.le
              intro A5 c5 w5 o5 h5 hat5
              have HS5 := Lib.hid (HS4.out.app (x' := .slice A5 (acc.length + ys.length) c5) (a2' := acc ++ ys) (by simpa using o5) h5 (by simpa using hat5))
              clear o5 h5 hat5 HS4 HL4
              go_wp2_with fail
              go_roundw
              case rel => exact ⟨pre ++ [o], post, k3, by rw [hx.out]; simp [Hid], by simp, by rw [HF.out]; exact HS5⟩
              case measure => simp [intOf]; omega
            · by_cases hk3 : o.kind = 3
              · have hys : ys = o.bs := HI.out.2.1 hk3
                have HYS := Lib.hid hys
                clear hys
                have hlo : 3 ≤ o.kind := by omega
                have hhi : o.kind ≤ 3 := by omega
                clear hk0 hk1 hk2 hk3
                go_wp2_with fail
                refine (WRaw_any _ (w1.heap.size + 1) w1.heap.size k acc hst1.out.wr hst1.out.le o.A o.c o.bs (hok'.out.cls.ch hst1.out.ch (fun _ _ h => h)) (by omega)).mono ?_
                rintro e w3 ⟨rfl, hp3⟩
                obtain ⟨k3, S3⟩ := hst1.out.put hp3
                obtain ⟨d0, d1, d2, d3⟩ := (hp3.blk hbx.out hbg hbk).four
                have HS3 := Lib.hid S3
                clear S3 hp3
                go_wp2_with (at_builtin; refine appI rfl _ _ 25 5 rfl .u8 0 1 Try.underlying25 u8info (w1.heap.size + 1) Ax cx acc rfl HS3.out.own o.A o.c o.bs rfl (hok'.out.cls.ch HS3.out.ch (fun _ _ h => h)) ?hn ?hb ?hB ?_)
                case hn => simp [maxLen]; omega
                case hb => omega
                case hB => exact HS3.out.le
                intro A5 c5 w5 o5 h5 hat5
                have HS5 := Lib.hid (HS3.out.app (x' := .slice A5 (acc.length + o.bs.length) c5) (a2' := acc ++ o.bs) (by simpa using o5) h5 (by simpa using hat5))
                clear o5 h5 hat5 HS3 d0 d1 d2 d3
                go_wp2_with fail
                go_roundw
                case rel => exact ⟨pre ++ [o], post, k3, by rw [hx.out]; simp [Hid], by simp, by rw [HF.out, HYS.out]; exact HS5⟩
                case measure => simp [intOf]; omega
              · have hys : ys = [] := HI.out.2.2 (by omega) hk3
                have HYS := Lib.hid hys
                clear hys
                go_wp2_with fail
                go_roundw
                case rel => exact ⟨pre ++ [o], post, k, by rw [hx.out]; simp [Hid], by simp, by rw [HF.out, HYS.out, List.append_nil]; exact hst1⟩
                case measure => simp [intOf]; omega
theorem octetWrites_walk (W : World) (a0 : Option Addr) (len0 cap0 : Nat) (rd0 : Rd Try.prog W 8 22 [.slice a0 len0 cap0]) :
    Calls Try.prog 3 #[.slice a0 len0 cap0] W fun e w' => e = .returned (.bool true) ∧ Below W.heap.size W w' := by
  obtain ⟨A, c, xs, hv, hr, hp, _, hb⟩ := slice_dec OpV.enc (OpV.Ok W) rd0 Try.underlying22 (by kernel_rfl : Try.prog.cellsOf 29 = 4) (by kernel_rfl : Try.prog.bytesOf 29 = 48) (by omega) (fun r hr => op_dec hr)
  rw [hv]
  exact (octetWrites_core W A c xs ⟨hr, hp, Ch.refl No W⟩ (by omega)).mono fun e w' ⟨h1, h2⟩ => ⟨h1, h2.same⟩
end Go.Proofs.Ytoaekfocfdcgiaa
