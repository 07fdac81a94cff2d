/- A map of labels to numbers: what a look-up answers, what a new entry makes of it. -/
import Derived.MapKept
import Derived.WideKeyRuns
import Derived.RangeFuncRecord
import Derived.Test.YtpjcfelknkddfaaDoorLabEq
namespace Go.Proofs.YtpjcfelknkddfaaDoor
open Go.RowKit

/-- a label as the program has it -/
def labV (x : Nat × Nat) : Value := .agg #[.int .u8 x.1, .int .u16 x.2]
/-- the entries of a map that holds labels by their numbers -/
def entsFrom : List (Nat × Nat) → Nat → List MapEntry
  | [], _ => []
  | x :: xs, k => { key := labV x, val := .int .i64 k, born := k } :: entsFrom xs (k + 1)
/-- where a label stands first -/
def whr (x : Nat × Nat) : List (Nat × Nat) → Nat → Option Nat
  | [], _ => none
  | y :: ys, k => if x = y then some k else whr x ys (k + 1)
theorem entsFrom_snoc (x : Nat × Nat) : ∀ (xs : List (Nat × Nat)) (k : Nat), entsFrom (xs ++ [x]) k = entsFrom xs k ++ [{ key := labV x, val := .int .i64 ((k + xs.length : Nat) : Int), born := k + xs.length }]
  | [], k => rfl
  | y :: ys, k => by
    show _ :: entsFrom (ys ++ [x]) (k + 1) = _ :: (entsFrom ys (k + 1) ++ _)
    rw [entsFrom_snoc x ys (k + 1), List.length_cons, show k + 1 + ys.length = k + (ys.length + 1) from by omega]
theorem eqL (x y : Nat × Nat) (w : World) : (Op.equal 25 (labV x) (labV y)).run Tryd.prog w = .ok (decide (x = y)) w := by
  simp only [Op.equal, Op.maxDepth, labV]
  rw [run_equalIn_struct w 9999 _ _ _ (by kernel_rfl) (by kernel_rfl)]
  obtain ⟨a, b⟩ := x
  obtain ⟨c, d⟩ := y
  simp [go_sem]
  by_cases h1 : a = c
  · by_cases h2 : b = d
    · simp [h1, h2]
    · simp [h1, h2]
      omega
  · simp [h1]
    omega
theorem run_ask (x : Nat × Nat) (w : World) : ∀ (xs : List (Nat × Nat)) (k : Nat), (Instr.findAsking 25 (labV x) (entsFrom xs k) k).run Tryd.prog w = .ok ((whr x xs k).map fun i => (i, .int .i64 i)) w
  | [], k => by simp [entsFrom, Instr.findAsking, whr]
  | y :: ys, k => by
    unfold entsFrom Instr.findAsking whr
    simp only [Sem.run_bind, eqL, Result.andThen_ok]
    by_cases h : x = y
    · simp [h]
    · simp only [h, decide_false, if_false]
      exact run_ask x w ys (k + 1)
theorem run_checkLab' (em : Bool) (n : Nat) (x : Nat × Nat) (w : World) : (Instr.checkKey em (n + 2) 25 (labV x)).run Tryd.prog w = .ok () w := by
  unfold labV Instr.checkKey
  simp only [Sem.run_bind, run_underlying Tryd.underlying25, Result.andThen_ok]
  simp [Instr.checkKey, go_sem, run_underlying Tryd.underlying5, run_underlying Tryd.underlying23]
theorem run_checkLab (em : Bool) (x : Nat × Nat) (w : World) : (Instr.checkKey em 10000 25 (labV x)).run Tryd.prog w = .ok () w := run_checkLab' em 9998 x w
theorem run_getMap {w : World} {b n : Nat} {es : Array MapEntry} (hb : w.heap[b]? = some (.map es n)) : (getObj b).run Tryd.prog w = .ok (.map es n) w := by simp [getObj, Sem.run, hb]
theorem run_look {x : Nat × Nat} {xs : List (Nat × Nat)} {w : World} {b n : Nat} (hb : w.heap[b]? = some (.map (entsFrom xs 0).toArray n)) :
    (Instr.lookup 53 (.map (some b)) (labV x) true).run Tryd.prog w = .ok (.tuple #[.int .i64 (((whr x xs 0).getD 0 : Nat) : Int), .bool (whr x xs 0).isSome]) w := by
  unfold Instr.lookup
  have hk := run_findKey_eq (P := Tryd.prog) w (k := 25) (by kernel_rfl) (labV x) (entsFrom xs 0)
  have ha := run_ask x w xs 0
  simp only [Sem.run_bind, run_underlying Tryd.underlying53, Result.andThen_ok, run_getMap hb, run_checkLab]
  cases hw : whr x xs 0 with
  | none =>
    rw [hw] at ha
    simp [go_sem, hk, ha]
  | some i =>
    rw [hw] at ha
    simp [hk, ha]
theorem run_upd {x : Nat × Nat} {xs : List (Nat × Nat)} {w : World} {b : Nat} (hb : w.heap[b]? = some (.map (entsFrom xs 0).toArray xs.length)) (hn : whr x xs 0 = none) :
    (Instr.mapUpdate 53 (.map (some b)) (labV x) (.int .i64 (xs.length : Int))).run Tryd.prog w = .ok () (w.putObj b (.map (entsFrom (xs ++ [x]) 0).toArray (xs ++ [x]).length)) := by
  unfold Instr.mapUpdate
  have hk := run_findKey_eq (P := Tryd.prog) w (k := 25) (by kernel_rfl) (labV x) (entsFrom xs 0)
  have ha := run_ask x w xs 0
  rw [hn] at ha
  simp only [Sem.run_bind, run_underlying Tryd.underlying53, Result.andThen_ok, run_getMap hb, run_checkLab, hk, ha, Option.map_none]
  rw [entsFrom_snoc]
  simp [setObj, Sem.run, hb, World.putObj]
end Go.Proofs.YtpjcfelknkddfaaDoor
