/- How the rows of fields read (a kind, a size, a number, bytes); few of them; that they are few: the walk. -/
import Derived.Test.YtoaekfocfdcgiaaOctAlive
import Derived.Test.YtoaekfocfdcgiaaRead
namespace Go.Proofs.Ytoaekfocfdcgiaa
open Go.RowKit

/-- a field -/
structure OpV where
  kind : Int
  size : Int
  n : Int
  A : Option Addr
  c : Nat
  bs : List Int
def OpV.enc (o : OpV) : List Value := [.int .i64 o.kind, .int .i64 o.size, .int .i64 o.n, .slice o.A o.bs.length o.c]
structure OpV.Ok (W : World) (o : OpV) : Prop where
  kind : wfI o.kind
  size : wfI o.size
  n : wfI o.n
  cls : Cls W o.A (ints .u8 o.bs)
  isB : ∀ x ∈ o.bs, isB x
  len : o.bs.length ≤ 140737488351232

theorem bytes_dec {W : World} {n : Nat} {v : Value} (h : Rd Try.prog W (n + 2) 25 [v]) : ∃ A c, ∃ bs : List Int, v = .slice A bs.length c ∧ Cls W A (ints .u8 bs) ∧ (∀ x ∈ bs, isB x) ∧ bs.length ≤ 140737488351232 := by
  obtain ⟨A, c, xs, hv, hr, hp, _, hb⟩ := slice_dec (fun x : Int => [Value.int .u8 x]) isB h Try.underlying25 (by kernel_rfl : Try.prog.cellsOf 5 = 1) (by kernel_rfl : Try.prog.bytesOf 5 = 1) (by omega)
    (fun r hr => by
      have hr' := hr
      unfold Rd at hr'
      rw [Try.underlying5] at hr'
      obtain ⟨m, rfl, hw⟩ := hr'
      have := bounds_u8 hw
      exact ⟨m, rfl, by unfold isB; omega⟩)
  refine ⟨A, c, xs, hv, ?_, hp, by omega⟩
  intro pre v post e
  have e2 : xs.map (fun x : Int => [Value.int .u8 x]) = pre.map (fun x => [x]) ++ [v] :: post.map (fun x => [x]) := by
    have := congrArg (List.map (fun x => [x])) e
    unfold ints at this
    rw [List.map_map, List.map_append, List.map_cons] at this
    exact this
  obtain ⟨_, b, off, hA, hc⟩ := hr _ _ _ e2
  refine ⟨b, off, hA, ?_⟩
  have := hc 0 v rfl
  simpa using this

theorem op_dec {W : World} {r : List Value} (h : Rd Try.prog W 7 29 r) : ∃ o : OpV, r = o.enc ∧ o.Ok W := by
  obtain ⟨hl, hf⟩ := rd_struct h Try.underlying29
  rw [show Try.prog.cellsOf 29 = 4 from by kernel_rfl] at hl
  match r, hl with
  | [c0, c1, c2, c3], _ =>
    simp only [List.mem_cons, List.not_mem_nil, or_false, forall_eq_or_imp, forall_eq] at hf
    rw [show Try.prog.cellsOf 3 = 1 from by kernel_rfl, show Try.prog.cellsOf 2 = 1 from by kernel_rfl, show Try.prog.cellsOf 25 = 1 from by kernel_rfl] at hf
    obtain ⟨m0, rfl, w0⟩ := rd_int (c := c0) hf.1 Try.underlying3
    obtain ⟨m1, rfl, w1⟩ := rd_int (c := c1) hf.2.1 Try.underlying3
    obtain ⟨m2, rfl, w2⟩ := rd_int (c := c2) hf.2.2.1 Try.underlying2
    obtain ⟨A, c, bs, rfl, hcls, hB, hlen⟩ := bytes_dec (v := c3) hf.2.2.2
    have b0 := bounds_i64 w0
    have b1 := bounds_i64 w1
    have b2 := bounds_i64 w2
    exact ⟨⟨m0, m1, m2, A, c, bs⟩, rfl, by unfold wfI; simp only; omega, by unfold wfI; simp only; omega, by unfold wfI; simp only; omega, hcls, hB, hlen⟩

/-- rows of fields, as the walk reads them -/
structure Ops (W w : World) (A : Option Addr) (ops : List OpV) : Prop where
  rows : Rws W A 4 (ops.map OpV.enc)
  ok : ∀ o ∈ ops, o.Ok W
  ch : Ch No W w
theorem Ops.at {W w : World} {A : Option Addr} {ops pre post : List OpV} {o : OpV} (h : Ops W w A ops) (e : ops = pre ++ o :: post) :
    ∃ b off, A = some ⟨b, off, none⟩ ∧ w.cell? ⟨b, off + pre.length * 4, none⟩ = some (.int .i64 o.kind) ∧ w.cell? ⟨b, off + pre.length * 4 + 1, none⟩ = some (.int .i64 o.size) ∧
      w.cell? ⟨b, off + pre.length * 4 + 2, none⟩ = some (.int .i64 o.n) ∧ w.cell? ⟨b, off + pre.length * 4 + 3, none⟩ = some (.slice o.A o.bs.length o.c) ∧ o.Ok W := by
  obtain ⟨_, b, off, hA, hc⟩ := h.rows (pre.map OpV.enc) o.enc (post.map OpV.enc) (by rw [e]; simp)
  rw [List.length_map] at hc
  refine ⟨b, off, hA, ?_, ?_, ?_, ?_, h.ok o (by rw [e]; simp)⟩
  · have := hc 0 _ rfl
    exact h.ch.cell (by simpa using this) (fun h => h)
  · exact h.ch.cell (hc 1 _ rfl) (fun h => h)
  · exact h.ch.cell (hc 2 _ rfl) (fun h => h)
  · exact h.ch.cell (hc 3 _ rfl) (fun h => h)
theorem Ops.ch' {W w w' : World} {A : Option Addr} {ops : List OpV} (h : Ops W w A ops) (hc : Ch No w w') : Ops W w' A ops := ⟨h.rows, h.ok, h.ch.trans hc⟩
theorem Ops.to {W w w' : World} {A : Option Addr} {ops : List OpV} (h : Ops W w A ops) (hc : Ch No W w') : Ops W w' A ops := ⟨h.rows, h.ok, hc⟩

def fewB (ops : List OpV) : Bool := decide (ops.length ≤ 40) && ops.all (fun o => decide (o.bs.length ≤ 60))

set_option maxHeartbeats 2000000 in
theorem few_any (W w : World) (A : Option Addr) (c : Nat) (ops : List OpV) (h : Ops W w A ops) (hl : ops.length ≤ 140737488351232) :
    Calls Try.prog 15 #[.slice A ops.length c] w fun e w' => e = .returned (.bool (fewB ops)) ∧ Ch No w w' := by
  have HH := Lib.hid h
  clear h
  go_enter Try.func15, Try.ntmps15
  go_wp2_with fail
  go_loopw [4, 7] (fun _ i wr => ∃ pre post : List OpV, Hid (ops = pre ++ post) ∧ i = .int .i64 pre.length ∧ Hid (pre.all (fun o => decide (o.bs.length ≤ 60)) = true) ∧ Hid (Ch No w wr)) (fun _ i _ => ops.length - (intOf i).toNat)
  case atStart => exact ⟨[], ops, rfl, rfl, rfl, Lib.hid (Ch.refl _ _)⟩
  case round =>
    obtain ⟨pre, post, hx, rfl, hall, hc⟩ := hrel
    cases post with
    | nil =>
      obtain rfl : pre = ops := by have := hx.out; simpa using this.symm
      go_wp2_with fail
      go_ret
      refine ⟨ret_bool ?_, hc.out⟩
      unfold fewB
      rw [hall.out]
      simp
      omega
    | cons o post =>
      have hlen : pre.length < ops.length := by rw [hx.out]; simp
      obtain ⟨b, off, rfl, c0, c1, c2, c3, hok⟩ := (HH.out.ch' hc.out).at hx.out
      have hol := hok.len
      by_cases h60 : 60 < o.bs.length
      · go_wp2_with fail
        go_ret
        refine ⟨ret_bool ?_, by repeat (first | exact hc.out | apply Ch.alloc | apply Ch.drew)⟩
        unfold fewB
        rw [hx.out]
        symm
        rw [Bool.and_eq_false_iff]
        right
        rw [List.all_append, List.all_cons]
        simp
        omega
      · go_wp2_with fail
        go_roundw
        case rel => exact ⟨pre ++ [o], post, by rw [hx.out]; simp [Hid], by simp, by have := hall.out; simp [Hid] at this ⊢; exact ⟨this, by omega⟩, Lib.hid (by repeat (first | exact hc.out | apply Ch.alloc | apply Ch.drew))⟩
        case measure => simp [intOf]; omega
end Go.Proofs.Ytoaekfocfdcgiaa
