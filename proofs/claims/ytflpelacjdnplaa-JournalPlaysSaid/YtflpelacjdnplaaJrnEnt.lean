/- journal: what the law collects of the iterator. -/
import Derived.Test.YtflpelacjdnplaaJrnPage
import Derived.Test.YtflpelacjdnplaaOrd
namespace Go.Proofs.Ytflpelacjdnplaa
open Go.RowKit Go.Shelf

attribute [local go_sem] Oper.semAt_some

theorem step_appO {P : Program} {ops : Array Oper} {Q : Exit → Act → World → Prop} {a : Act} {w : World} {K : Act → World → Prop} {E : Prop} {o : Oper} (hgd : o.guard = none) (s x : Operand) (t e : TypeId)
    (ho : o.op = .call { callee := .builtin .append, args := #[s, x], argTypes := #[t, t] }) (z : Value) (sz bytes : Nat)
    (ht : P.underlying t = some (.slice e)) (hinfo : (P.info? e).map (fun i => (i.zero, i.size, i.bytes)) = some (some z, sz, bytes)) (hz : z.cells.size = sz) (hsz : 0 < sz)
    (B : Nat) (v : Value) (n : Nat) (vs : List Value) (hs : a.eval s = v) (hown : w.ownsRow B e sz v n vs) (g c : Nat) (us : List Value) (hx : a.eval x = .slice (some ⟨g, 0, none⟩) 1 c) (hul : us.length = sz) (hsrc : Blk w g e us) (h1 : ∀ u ∈ us, u.oneCell' = true)
    (hn : n + 1 ≤ maxLen) (hb : (n + 1) * bytes ≤ 140737488355328) (hB : B ≤ w.heap.size)
    (h : ∀ A' c' w', w'.ownsRow B e sz (.slice A' (n + 1) c') (n + 1) (vs ++ us) → w.grownBy w' v.ownBlock → K (a.put o.dst (.slice A' (n + 1) c')) w') :
    if Region.wanted o (yielded ops a.tmps) = true then Oper.wp P o a w K Q else E := by
  rw [if_pos (by simp [Region.wanted, hgd])]
  obtain ⟨i0, hi, h0, hs0, h2⟩ := info_parts hinfo
  obtain ⟨v', w', hr, r1, r2, _⟩ := run_append_own (P := P) (w := w) B t o.type e i0 z sz bytes ht hi h0 hs0 h2 hz hsz v n vs hown ⟨g, 0, none⟩ 1 c us (by omega) (blk_src hsrc) h1 hn hb hB
  obtain ⟨A', c', rfl⟩ := row_shape r1
  unfold Oper.wp execOp
  simp only [ho, resolve, invoke, builtin, Sem.run_bind, Sem.run_pure, Result.andThen_ok, List.map_toArray, List.map_cons, List.map_nil, hs, hx, hr]
  exact h A' c' w' r1 r2
theorem rows_ne {w : World} {B1 B2 s1 s2 n m : Nat} {e1 e2 : TypeId} {v u : Value} {xs ys : List Value} (h1 : w.ownsRow B1 e1 s1 v n xs) (h2 : w.ownsRow B2 e2 s2 u m ys) (he : e1 ≠ e2) : ∀ k, v.ownBlock = some k → u.ownBlock = some k → False := by
  intro k hv hu
  rcases h1.2 with ⟨rfl, _⟩ | ⟨g, cap, cur, rfl, _, hg, _⟩
  · cases hv
  rcases h2.2 with ⟨rfl, _⟩ | ⟨g2, cap2, cur2, rfl, _, hg2, _⟩
  · cases hu
  cases hv
  cases hu
  rw [hg] at hg2
  cases hg2
  exact he rfl
/-- what the body of the law's loop has, midway -/
structure Md (h : Nat) (most : Int) (jb : Nat) (W w : World) (X : Value) (n : Nat) (xs : List Value) (vx : Value) (Y : Value) (m : Nat) (ys : List Value) (vy : Value) : Prop where
  rx : w.ownsRow (h + 3) 3 1 X n xs
  ry : w.ownsRow (h + 4) 32 6 Y m ys
  b0 : Boxed w h 3 (.int .i64 most)
  b1 : Boxed w (h + 1) 44 (.slice none 0 0)
  b2 : Boxed w (h + 1 + 1) 45 (.slice none 0 0)
  b5 : Boxed w (h + 1 + 1 + 1 + 1 + 1) 44 vx
  b6 : Boxed w (h + 1 + 1 + 1 + 1 + 1 + 1) 45 vy
  b7 : Boxed w (h + 1 + 1 + 1 + 1 + 1 + 1 + 1) 24 (.pointer (some ⟨jb, 0, none⟩))
  ko : KeepsOthers W w
  bl : Below (h + 3) W w
  sz : h + 8 ≤ w.heap.size
section
variable {h jb n m n' : Nat} {most : Int} {W w w' : World} {X X' Y Y' vx vy : Value} {xs ys xs' : List Value}
theorem Md.alloc (k : Md h most jb W w X n xs vx Y m ys vy) (o : Obj) : Md h most jb W (w.alloc o) X n xs vx Y m ys vy :=
  ⟨k.rx.alloc o, k.ry.alloc o, k.b0.alloc o, k.b1.alloc o, k.b2.alloc o, k.b5.alloc o, k.b6.alloc o, k.b7.alloc o, k.ko.trans (KeepsOthers.alloc _ _), k.bl.alloc (by have := k.sz; have := k.bl.size; omega) o, by have := k.sz; simp; omega⟩
theorem Md.drew (k : Md h most jb W w X n xs vx Y m ys vy) : Md h most jb W w.drew X n xs vx Y m ys vy :=
  ⟨k.rx, k.ry, k.b0, k.b1, k.b2, k.b5, k.b6, k.b7, k.ko.trans (KeepsOthers.drew _), below_drewN k.bl 1, k.sz⟩
theorem rowKO {B sz : Nat} {e : TypeId} {v : Value} (hr : w.ownsRow B e sz v n xs) (hg : w.grownBy w' v.ownBlock) : KeepsOthers w w' :=
  KeepsOthers.of_grownBy hg fun j o ej hj => by
    rcases hr.2 with ⟨rfl, _⟩ | ⟨g, cap, cur, rfl, _, hgb, _⟩
    · cases ej
    · cases ej
      rw [hgb] at hj
      cases hj
      rfl
theorem rows_apart {B1 B2 s1 s2 : Nat} {e1 e2 : TypeId} {v u : Value} (h1 : w.ownsRow B1 e1 s1 v n xs) (h2 : w.ownsRow B2 e2 s2 u m ys) (he : e1 ≠ e2) : u.ownBlock = none ∨ u.ownBlock ≠ v.ownBlock := by
  cases hu : u.ownBlock with
  | none => exact .inl rfl
  | some g => exact .inr (fun e => rows_ne h1 h2 he g e.symm hu)
theorem Md.growX (k : Md h most jb W w X n xs vx Y m ys vy) (hr : w'.ownsRow (h + 3) 3 1 X' n' xs') (hg : w.grownBy w' X.ownBlock) : Md h most jb W w' X' n' xs' vx Y m ys vy :=
  ⟨hr, k.ry.kept hg (rows_apart k.rx k.ry (by decide)),
    k.b0.kept hg (fun e => by have := (k.rx.lt _ e.symm).1; omega), k.b1.kept hg (k.b1.not_row (by decide) k.rx), k.b2.kept hg (k.b2.not_row (by decide) k.rx), k.b5.kept hg (k.b5.not_row (by decide) k.rx), k.b6.kept hg (k.b6.not_row (by decide) k.rx), k.b7.kept hg (k.b7.not_row (by decide) k.rx),
    k.ko.trans (rowKO k.rx hg), k.bl.grown hg (by have := k.sz; have := k.bl.size; omega) (fun j ej => (k.rx.lt _ ej).1), Nat.le_trans k.sz hg.size⟩
theorem Md.growY (k : Md h most jb W w X n xs vx Y m ys vy) (hr : w'.ownsRow (h + 4) 32 6 Y' n' xs') (hg : w.grownBy w' Y.ownBlock) : Md h most jb W w' X n xs vx Y' n' xs' vy :=
  ⟨k.rx.kept hg (rows_apart k.ry k.rx (by decide)), hr,
    k.b0.kept hg (k.b0.not_row (by decide) k.ry), k.b1.kept hg (k.b1.not_row (by decide) k.ry), k.b2.kept hg (k.b2.not_row (by decide) k.ry), k.b5.kept hg (k.b5.not_row (by decide) k.ry), k.b6.kept hg (k.b6.not_row (by decide) k.ry), k.b7.kept hg (k.b7.not_row (by decide) k.ry),
    k.ko.trans (rowKO k.ry hg), k.bl.grown hg (by have := k.sz; have := k.bl.size; omega) (fun j ej => by have := (k.ry.lt _ ej).1; omega), Nat.le_trans k.sz hg.size⟩
theorem Md.fin (k : Md h most jb W w X n xs vx Y m ys vy) : Md h most jb W ((w.setCell ⟨h + 1 + 1 + 1 + 1 + 1, 0, none⟩ X).setCell ⟨h + 1 + 1 + 1 + 1 + 1 + 1, 0, none⟩ Y) X n xs X Y m ys Y :=
  ⟨(k.rx.kept (grownBy_setCell' _ _ _) (.inr (k.b5.not_row (by decide) k.rx).symm)).kept (grownBy_setCell' _ _ _) (.inr (k.b6.not_row (by decide) k.rx).symm), (k.ry.kept (grownBy_setCell' _ _ _) (.inr (k.b5.not_row (by decide) k.ry).symm)).kept (grownBy_setCell' _ _ _) (.inr (k.b6.not_row (by decide) k.ry).symm),
    (k.b0.other (by omega) _).other (by omega) _, (k.b1.other (by omega) _).other (by omega) _, (k.b2.other (by omega) _).other (by omega) _, (k.b5.set _).other (by omega) _, (k.b6.other (by omega) _).set _, (k.b7.other (by omega) _).other (by omega) _,
    (k.ko.trans (KeepsOthers.setCell _ _ _)).trans (KeepsOthers.setCell _ _ _), (k.bl.setCell (p := ⟨h + 1 + 1 + 1 + 1 + 1, 0, none⟩) (by show h + 3 ≤ h + 1 + 1 + 1 + 1 + 1; omega) _).setCell (p := ⟨h + 1 + 1 + 1 + 1 + 1 + 1, 0, none⟩) (by show h + 3 ≤ h + 1 + 1 + 1 + 1 + 1 + 1; omega) _, by have := k.sz; simpa [World.setCell] using this⟩
theorem Md.ret (k : Md h most jb W w X n xs vx Y m ys vy) :
    Boxed ((w.setCell ⟨h + 1, 0, none⟩ X).setCell ⟨h + 1 + 1, 0, none⟩ Y).drew (h + 1) 44 X ∧ Boxed ((w.setCell ⟨h + 1, 0, none⟩ X).setCell ⟨h + 1 + 1, 0, none⟩ Y).drew (h + 1 + 1) 45 Y ∧ ((w.setCell ⟨h + 1, 0, none⟩ X).setCell ⟨h + 1 + 1, 0, none⟩ Y).drew.ownsRow (h + 3) 3 1 X n xs ∧
      ((w.setCell ⟨h + 1, 0, none⟩ X).setCell ⟨h + 1 + 1, 0, none⟩ Y).drew.ownsRow (h + 4) 32 6 Y m ys ∧ KeepsOthers W ((w.setCell ⟨h + 1, 0, none⟩ X).setCell ⟨h + 1 + 1, 0, none⟩ Y).drew ∧ Below h W ((w.setCell ⟨h + 1, 0, none⟩ X).setCell ⟨h + 1 + 1, 0, none⟩ Y).drew :=
  by
    have rx' := (k.rx.kept (grownBy_setCell' w (h + 1) X) (.inr (k.b1.not_row (by decide) k.rx).symm)).kept (grownBy_setCell' _ (h + 1 + 1) Y) (.inr (k.b2.not_row (by decide) k.rx).symm)
    have ry' := (k.ry.kept (grownBy_setCell' w (h + 1) X) (.inr (k.b1.not_row (by decide) k.ry).symm)).kept (grownBy_setCell' _ (h + 1 + 1) Y) (.inr (k.b2.not_row (by decide) k.ry).symm)
    exact ⟨(k.b1.set X).other (by omega) Y, (k.b2.other (by omega) X).set Y, rx', ry',
      ((k.ko.trans (KeepsOthers.setCell _ _ _)).trans (KeepsOthers.setCell _ _ _)).trans (KeepsOthers.drew _), below_drewN (((k.bl.mono (by omega)).setCell (p := ⟨h + 1, 0, none⟩) (by show h ≤ h + 1; omega) _).setCell (p := ⟨h + 1 + 1, 0, none⟩) (by show h ≤ h + 1 + 1; omega) _) 1⟩
theorem row_drew {B s : Nat} {e : TypeId} {v : Value} (hr : w.ownsRow B e s v n xs) : w.drew.ownsRow B e s v n xs := hr
theorem blk_drew {t : TypeId} {g : Nat} (hb : Blk w g t ys) : Blk w.drew g t ys := hb
theorem blk_apart {B s : Nat} {e t : TypeId} {v : Value} {g : Nat} (hb : Blk w g t ys) (hr : w.ownsRow B e s v n xs) (he : t ≠ e) : some g ≠ v.ownBlock := by
  intro hv
  rcases hr.2 with ⟨rfl, _⟩ | ⟨g2, cap, cur, rfl, _, hg, _⟩
  · cases hv
  cases hv
  rw [show w.heap[g2]? = some (.cells ys.toArray t (0, 0)) from hb] at hg
  cases hg
  exact he rfl
end

set_option maxRecDepth 100000 in
set_option maxHeartbeats 8000000 in
theorem entries_any (w : World) (jb m c gone cap : Nat) (A : Option Addr) (L : List Ent) (h : Jr w jb A m c gone cap L) (hg : gone ≤ 1000000000000) (hm : m ≤ 1000000) (most : Int) :
    Calls Try.prog 22 #[.pointer (some ⟨jb, 0, none⟩), .int .i64 most] w fun e w' => ∃ v u, e = .returned (.tuple #[v, u]) ∧ w'.ownsRow w.heap.size 3 1 v (L.take most.toNat).length (ints .i64 (((numJ gone L L.length).take most.toNat).map Prod.fst)) ∧ w'.ownsRow w.heap.size 32 6 u (L.take most.toNat).length (flatE (L.take most.toNat)) ∧ Ch No w w' := by
  refine callsIn_wide (n := 3) |>.1 ?_
  refine callsIn_of_wp_marks Try.func22 rfl trivial ?_ rfl
  simp only [Try.ntmps22, List.size_toArray, List.length_cons, List.length_nil, Nat.reduceAdd, Nat.reduceSub, Array.replicate_succ, Array.replicate_zero, List.push_toArray, List.append_toArray, List.nil_append, List.cons_append]
  have hlt := h.lt
  have hjA := fun a ha => (h.row.blk a ha).2
  have HJ := Lib.hid h
  clear h
  by_cases hm0 : most ≤ 0
  · gi_wp2
    gi_region
    all_goals gi_wp2
    all_goals (
      have qx := (World.ownsRow_lit (base := w.heap.size) (e := 3) (size := 1) (((w.alloc (.cells #[.int .i64 most] 3)).alloc (.cells #[.slice (some ⟨w.heap.size + 1 + 1 + 1, 0, none⟩) 0 0] 44)).alloc (.cells #[.slice (some ⟨w.heap.size + 1 + 1 + 1 + 1, 0, none⟩) 0 0] 45)) #[] 0 (by simp; omega) (by simp) rfl)
      have qx2 := ((qx.alloc (.cells #[] 32)).alloc (.cells #[.slice (some ⟨w.heap.size + 1 + 1 + 1, 0, none⟩) 0 0] 44)).alloc (.cells #[.slice (some ⟨w.heap.size + 1 + 1 + 1 + 1, 0, none⟩) 0 0] 45)
      have qy := (World.ownsRow_lit (base := w.heap.size) (e := 32) (size := 6) ((((w.alloc (.cells #[.int .i64 most] 3)).alloc (.cells #[.slice (some ⟨w.heap.size + 1 + 1 + 1, 0, none⟩) 0 0] 44)).alloc (.cells #[.slice (some ⟨w.heap.size + 1 + 1 + 1 + 1, 0, none⟩) 0 0] 45)).alloc (.cells #[] 3)) #[] 0 (by simp; omega) (by simp) rfl)
      have qy2 := (qy.alloc (.cells #[.slice (some ⟨w.heap.size + 1 + 1 + 1, 0, none⟩) 0 0] 44)).alloc (.cells #[.slice (some ⟨w.heap.size + 1 + 1 + 1 + 1, 0, none⟩) 0 0] 45)
      refine ⟨.tuple #[.slice (some ⟨w.heap.size + 1 + 1 + 1, 0, none⟩) 0 0, .slice (some ⟨w.heap.size + 1 + 1 + 1 + 1, 0, none⟩) 0 0], by simp [results, Try.f22, go_sem], _, _, rfl, ?_, ?_, ((((((((Ch.refl No w).alloc _).alloc _).alloc _).alloc _).alloc _).alloc _).alloc _).drew⟩
      · rw [show most.toNat = 0 from by omega]
        exact row_drew (by simpa [ints] using qx2)
      · rw [show most.toNat = 0 from by omega]
        exact row_drew (by simpa [flatE] using qy2))
  · gi_wp2
    refine ⟨trivial, ?_⟩
    refine (callsIn_wide.2 (JAll_any _ _)).mono ?_
    rintro e w1 ⟨rfl, rfl⟩
    gi_wp2
    have bM : Boxed ((((((((w.alloc (.cells #[.int .i64 most] 3)).alloc (.cells #[.slice none 0 0] 44)).alloc (.cells #[.slice none 0 0] 45)).alloc (.cells #[] 3)).alloc (.cells #[] 32)).alloc (.cells #[.slice (some ⟨w.heap.size + 1 + 1 + 1, 0, none⟩) 0 0] 44)).alloc (.cells #[.slice (some ⟨w.heap.size + 1 + 1 + 1 + 1, 0, none⟩) 0 0] 45)).alloc (.cells #[.pointer (some ⟨jb, 0, none⟩)] 24)) (w.heap.size) 3 (.int .i64 most) := by
      have := (((((((Boxed.new w 3 (.int .i64 most)).alloc (.cells #[.slice none 0 0] 44)).alloc (.cells #[.slice none 0 0] 45)).alloc (.cells #[] 3)).alloc (.cells #[] 32)).alloc (.cells #[.slice (some ⟨w.heap.size + 1 + 1 + 1, 0, none⟩) 0 0] 44)).alloc (.cells #[.slice (some ⟨w.heap.size + 1 + 1 + 1 + 1, 0, none⟩) 0 0] 45)).alloc (.cells #[.pointer (some ⟨jb, 0, none⟩)] 24)
      simpa using this
    have bR : Boxed ((((((((w.alloc (.cells #[.int .i64 most] 3)).alloc (.cells #[.slice none 0 0] 44)).alloc (.cells #[.slice none 0 0] 45)).alloc (.cells #[] 3)).alloc (.cells #[] 32)).alloc (.cells #[.slice (some ⟨w.heap.size + 1 + 1 + 1, 0, none⟩) 0 0] 44)).alloc (.cells #[.slice (some ⟨w.heap.size + 1 + 1 + 1 + 1, 0, none⟩) 0 0] 45)).alloc (.cells #[.pointer (some ⟨jb, 0, none⟩)] 24)) (w.heap.size + 1) 44 (.slice none 0 0) := by
      have := ((((((Boxed.new (w.alloc (.cells #[.int .i64 most] 3)) 44 (.slice none 0 0)).alloc (.cells #[.slice none 0 0] 45)).alloc (.cells #[] 3)).alloc (.cells #[] 32)).alloc (.cells #[.slice (some ⟨w.heap.size + 1 + 1 + 1, 0, none⟩) 0 0] 44)).alloc (.cells #[.slice (some ⟨w.heap.size + 1 + 1 + 1 + 1, 0, none⟩) 0 0] 45)).alloc (.cells #[.pointer (some ⟨jb, 0, none⟩)] 24)
      simpa using this
    have bS : Boxed ((((((((w.alloc (.cells #[.int .i64 most] 3)).alloc (.cells #[.slice none 0 0] 44)).alloc (.cells #[.slice none 0 0] 45)).alloc (.cells #[] 3)).alloc (.cells #[] 32)).alloc (.cells #[.slice (some ⟨w.heap.size + 1 + 1 + 1, 0, none⟩) 0 0] 44)).alloc (.cells #[.slice (some ⟨w.heap.size + 1 + 1 + 1 + 1, 0, none⟩) 0 0] 45)).alloc (.cells #[.pointer (some ⟨jb, 0, none⟩)] 24)) (w.heap.size + 1 + 1) 45 (.slice none 0 0) := by
      have := (((((Boxed.new ((w.alloc (.cells #[.int .i64 most] 3)).alloc (.cells #[.slice none 0 0] 44)) 45 (.slice none 0 0)).alloc (.cells #[] 3)).alloc (.cells #[] 32)).alloc (.cells #[.slice (some ⟨w.heap.size + 1 + 1 + 1, 0, none⟩) 0 0] 44)).alloc (.cells #[.slice (some ⟨w.heap.size + 1 + 1 + 1 + 1, 0, none⟩) 0 0] 45)).alloc (.cells #[.pointer (some ⟨jb, 0, none⟩)] 24)
      simpa using this
    have bP : Boxed ((((((((w.alloc (.cells #[.int .i64 most] 3)).alloc (.cells #[.slice none 0 0] 44)).alloc (.cells #[.slice none 0 0] 45)).alloc (.cells #[] 3)).alloc (.cells #[] 32)).alloc (.cells #[.slice (some ⟨w.heap.size + 1 + 1 + 1, 0, none⟩) 0 0] 44)).alloc (.cells #[.slice (some ⟨w.heap.size + 1 + 1 + 1 + 1, 0, none⟩) 0 0] 45)).alloc (.cells #[.pointer (some ⟨jb, 0, none⟩)] 24)) (w.heap.size + 1 + 1 + 1 + 1 + 1) 44 (.slice (some ⟨w.heap.size + 1 + 1 + 1, 0, none⟩) 0 0) := by
      have := ((Boxed.new (((((w.alloc (.cells #[.int .i64 most] 3)).alloc (.cells #[.slice none 0 0] 44)).alloc (.cells #[.slice none 0 0] 45)).alloc (.cells #[] 3)).alloc (.cells #[] 32)) 44 (.slice (some ⟨w.heap.size + 1 + 1 + 1, 0, none⟩) 0 0)).alloc (.cells #[.slice (some ⟨w.heap.size + 1 + 1 + 1 + 1, 0, none⟩) 0 0] 45)).alloc (.cells #[.pointer (some ⟨jb, 0, none⟩)] 24)
      simpa using this
    have bQ : Boxed ((((((((w.alloc (.cells #[.int .i64 most] 3)).alloc (.cells #[.slice none 0 0] 44)).alloc (.cells #[.slice none 0 0] 45)).alloc (.cells #[] 3)).alloc (.cells #[] 32)).alloc (.cells #[.slice (some ⟨w.heap.size + 1 + 1 + 1, 0, none⟩) 0 0] 44)).alloc (.cells #[.slice (some ⟨w.heap.size + 1 + 1 + 1 + 1, 0, none⟩) 0 0] 45)).alloc (.cells #[.pointer (some ⟨jb, 0, none⟩)] 24)) (w.heap.size + 1 + 1 + 1 + 1 + 1 + 1) 45 (.slice (some ⟨w.heap.size + 1 + 1 + 1 + 1, 0, none⟩) 0 0) := by
      have := (Boxed.new ((((((w.alloc (.cells #[.int .i64 most] 3)).alloc (.cells #[.slice none 0 0] 44)).alloc (.cells #[.slice none 0 0] 45)).alloc (.cells #[] 3)).alloc (.cells #[] 32)).alloc (.cells #[.slice (some ⟨w.heap.size + 1 + 1 + 1, 0, none⟩) 0 0] 44)) 45 (.slice (some ⟨w.heap.size + 1 + 1 + 1 + 1, 0, none⟩) 0 0)).alloc (.cells #[.pointer (some ⟨jb, 0, none⟩)] 24)
      simpa using this
    have bX : Boxed ((((((((w.alloc (.cells #[.int .i64 most] 3)).alloc (.cells #[.slice none 0 0] 44)).alloc (.cells #[.slice none 0 0] 45)).alloc (.cells #[] 3)).alloc (.cells #[] 32)).alloc (.cells #[.slice (some ⟨w.heap.size + 1 + 1 + 1, 0, none⟩) 0 0] 44)).alloc (.cells #[.slice (some ⟨w.heap.size + 1 + 1 + 1 + 1, 0, none⟩) 0 0] 45)).alloc (.cells #[.pointer (some ⟨jb, 0, none⟩)] 24)) (w.heap.size + 1 + 1 + 1 + 1 + 1 + 1 + 1) 24 (.pointer (some ⟨jb, 0, none⟩)) := by
      have := Boxed.new (((((((w.alloc (.cells #[.int .i64 most] 3)).alloc (.cells #[.slice none 0 0] 44)).alloc (.cells #[.slice none 0 0] 45)).alloc (.cells #[] 3)).alloc (.cells #[] 32)).alloc (.cells #[.slice (some ⟨w.heap.size + 1 + 1 + 1, 0, none⟩) 0 0] 44)).alloc (.cells #[.slice (some ⟨w.heap.size + 1 + 1 + 1 + 1, 0, none⟩) 0 0] 45)) 24 (.pointer (some ⟨jb, 0, none⟩))
      simpa using this
    have rP : ((((((((w.alloc (.cells #[.int .i64 most] 3)).alloc (.cells #[.slice none 0 0] 44)).alloc (.cells #[.slice none 0 0] 45)).alloc (.cells #[] 3)).alloc (.cells #[] 32)).alloc (.cells #[.slice (some ⟨w.heap.size + 1 + 1 + 1, 0, none⟩) 0 0] 44)).alloc (.cells #[.slice (some ⟨w.heap.size + 1 + 1 + 1 + 1, 0, none⟩) 0 0] 45)).alloc (.cells #[.pointer (some ⟨jb, 0, none⟩)] 24)).ownsRow (w.heap.size + 3) 3 1 (.slice (some ⟨w.heap.size + 1 + 1 + 1, 0, none⟩) 0 0) 0 [] := by
      have := ((((World.ownsRow_lit (base := w.heap.size + 3) (e := 3) (size := 1) (((w.alloc (.cells #[.int .i64 most] 3)).alloc (.cells #[.slice none 0 0] 44)).alloc (.cells #[.slice none 0 0] 45)) #[] 0 (by simp) (by simp) rfl).alloc (.cells #[] 32)).alloc (.cells #[.slice (some ⟨w.heap.size + 1 + 1 + 1, 0, none⟩) 0 0] 44)).alloc (.cells #[.slice (some ⟨w.heap.size + 1 + 1 + 1 + 1, 0, none⟩) 0 0] 45)).alloc (.cells #[.pointer (some ⟨jb, 0, none⟩)] 24)
      simpa using this
    have rQ : ((((((((w.alloc (.cells #[.int .i64 most] 3)).alloc (.cells #[.slice none 0 0] 44)).alloc (.cells #[.slice none 0 0] 45)).alloc (.cells #[] 3)).alloc (.cells #[] 32)).alloc (.cells #[.slice (some ⟨w.heap.size + 1 + 1 + 1, 0, none⟩) 0 0] 44)).alloc (.cells #[.slice (some ⟨w.heap.size + 1 + 1 + 1 + 1, 0, none⟩) 0 0] 45)).alloc (.cells #[.pointer (some ⟨jb, 0, none⟩)] 24)).ownsRow (w.heap.size + 4) 32 6 (.slice (some ⟨w.heap.size + 1 + 1 + 1 + 1, 0, none⟩) 0 0) 0 [] := by
      have := (((World.ownsRow_lit (base := w.heap.size + 4) (e := 32) (size := 6) ((((w.alloc (.cells #[.int .i64 most] 3)).alloc (.cells #[.slice none 0 0] 44)).alloc (.cells #[.slice none 0 0] 45)).alloc (.cells #[] 3)) #[] 0 (by simp) (by simp) rfl).alloc (.cells #[.slice (some ⟨w.heap.size + 1 + 1 + 1, 0, none⟩) 0 0] 44)).alloc (.cells #[.slice (some ⟨w.heap.size + 1 + 1 + 1 + 1, 0, none⟩) 0 0] 45)).alloc (.cells #[.pointer (some ⟨jb, 0, none⟩)] 24)
      simpa using this
    have C8 : Ch No w ((((((((w.alloc (.cells #[.int .i64 most] 3)).alloc (.cells #[.slice none 0 0] 44)).alloc (.cells #[.slice none 0 0] 45)).alloc (.cells #[] 3)).alloc (.cells #[] 32)).alloc (.cells #[.slice (some ⟨w.heap.size + 1 + 1 + 1, 0, none⟩) 0 0] 44)).alloc (.cells #[.slice (some ⟨w.heap.size + 1 + 1 + 1 + 1, 0, none⟩) 0 0] 45)).alloc (.cells #[.pointer (some ⟨jb, 0, none⟩)] 24)) := (((((((((Ch.refl No w).alloc _).alloc _).alloc _).alloc _).alloc _).alloc _).alloc _).alloc _)
    have z8 : ((((((((w.alloc (.cells #[.int .i64 most] 3)).alloc (.cells #[.slice none 0 0] 44)).alloc (.cells #[.slice none 0 0] 45)).alloc (.cells #[] 3)).alloc (.cells #[] 32)).alloc (.cells #[.slice (some ⟨w.heap.size + 1 + 1 + 1, 0, none⟩) 0 0] 44)).alloc (.cells #[.slice (some ⟨w.heap.size + 1 + 1 + 1 + 1, 0, none⟩) 0 0] 45)).alloc (.cells #[.pointer (some ⟨jb, 0, none⟩)] 24)).heap.size = w.heap.size + 8 := by simp
    generalize ((((((((w.alloc (.cells #[.int .i64 most] 3)).alloc (.cells #[.slice none 0 0] 44)).alloc (.cells #[.slice none 0 0] 45)).alloc (.cells #[] 3)).alloc (.cells #[] 32)).alloc (.cells #[.slice (some ⟨w.heap.size + 1 + 1 + 1, 0, none⟩) 0 0] 44)).alloc (.cells #[.slice (some ⟨w.heap.size + 1 + 1 + 1 + 1, 0, none⟩) 0 0] 45)).alloc (.cells #[.pointer (some ⟨jb, 0, none⟩)] 24)) = w8 at *
    refine wpIn_rangeFunc_ownH (w0 := w8) rfl (by omega) (gf := 58) (lb := #[.pointer (some ⟨w.heap.size + 1 + 1 + 1 + 1 + 1 + 1 + 1, 0, none⟩)]) rfl trivial (enters_of Try.func58 (by kernel_rfl) rfl)
      (JAll_stops 2 (by omega) (w.heap.size + 1 + 1 + 1 + 1 + 1 + 1 + 1) w.heap.size jb m c gone cap A L hlt hjA hg hm w8 (by omega) bX.cell (HJ.out.no C8)) KpA.trans (KpA.bk (by omega) (by omega)) (Below.refl _ _) (fun _ => rfl)
      (fun (pre : List (Int × Ent)) W => (∃ v, Boxed W (w.heap.size + 1 + 1 + 1 + 1 + 1) 44 v ∧ W.ownsRow (w.heap.size + 3) 3 1 v pre.length (ints .i64 (pre.map Prod.fst)) ∧ True) ∧ (∃ v, Boxed W (w.heap.size + 1 + 1 + 1 + 1 + 1 + 1) 45 v ∧ W.ownsRow (w.heap.size + 4) 32 6 v pre.length (flatE (pre.map Prod.snd)) ∧ True) ∧ (Boxed W w.heap.size 3 (.int .i64 most) ∧ Boxed W (w.heap.size + 1) 44 (.slice none 0 0) ∧ Boxed W (w.heap.size + 1 + 1) 45 (.slice none 0 0) ∧ Boxed W (w.heap.size + 1 + 1 + 1 + 1 + 1 + 1 + 1) 24 (.pointer (some ⟨jb, 0, none⟩))) ∧ (pre.length : Int) < most ∧ Below w.heap.size w W)
      (fun cd (pre : List (Int × Ent)) W => cd = .ret ∧ (∃ v, Boxed W (w.heap.size + 1) 44 v ∧ W.ownsRow (w.heap.size + 3) 3 1 v pre.length (ints .i64 (pre.map Prod.fst)) ∧ True) ∧ (∃ v, Boxed W (w.heap.size + 1 + 1) 45 v ∧ W.ownsRow (w.heap.size + 4) 32 6 v pre.length (flatE (pre.map Prod.snd)) ∧ True) ∧ (pre.length : Int) = most ∧ Below w.heap.size w W)
      (OwnFrom.and (Own.from (holdsRow_own _ _ _ _ 1 (fun pre : List (Int × Ent) => pre.length) (fun pre : List (Int × Ent) => ints .i64 (pre.map Prod.fst)) (fun (_ : List (Int × Ent)) _ => True)) _) (OwnFrom.and (Own.from (holdsRow_own _ _ _ _ 6 (fun pre : List (Int × Ent) => pre.length) (fun pre : List (Int × Ent) => flatE (pre.map Prod.snd)) (fun (_ : List (Int × Ent)) _ => True)) _) (OwnFrom.and (OwnFrom.and (Own.from (boxed_own _ _ (fun _ : List (Int × Ent) => _)) _) (OwnFrom.and (Own.from (boxed_own _ _ (fun _ : List (Int × Ent) => _)) _) (OwnFrom.and (Own.from (boxed_own _ _ (fun _ : List (Int × Ent) => _)) _) (Own.from (boxed_own _ _ (fun _ : List (Int × Ent) => _)) _)))) (OwnFrom.and (ownFrom_pure _ (fun pre : List (Int × Ent) => ((pre.length : Nat) : Int) < most)) (ownFrom_below (Nat.le_refl _) (by omega))))))
      (fun cd => fun s X Y row hs hg hr => ⟨hs.1, (OwnFrom.and (Own.from (holdsRow_own _ _ _ _ 1 (fun pre : List (Int × Ent) => pre.length) (fun pre : List (Int × Ent) => ints .i64 (pre.map Prod.fst)) (fun (_ : List (Int × Ent)) _ => True)) _) (OwnFrom.and (Own.from (holdsRow_own _ _ _ _ 6 (fun pre : List (Int × Ent) => pre.length) (fun pre : List (Int × Ent) => flatE (pre.map Prod.snd)) (fun (_ : List (Int × Ent)) _ => True)) _) (OwnFrom.and (ownFrom_pure _ (fun pre : List (Int × Ent) => ((pre.length : Nat) : Int) = most)) (ownFrom_below (Nat.le_refl _) (by omega))))) s X Y row hs.2 hg hr⟩)
      ⟨⟨_, bP, rP, trivial⟩, ⟨_, bQ, rQ, trivial⟩, ⟨bM, bR, bS, bX⟩, by simp; omega, C8.same⟩
      (fun x a' W => ∃ Lx, Blk W Lx 32 x.2.enc ∧ a' = { tmps := #[.pointer (some ⟨jb, 0, none⟩), .int .i64 most, undef, .pointer (some ⟨w.heap.size, 0, none⟩), .pointer (some ⟨w.heap.size + 1, 0, none⟩), .pointer (some ⟨w.heap.size + 1 + 1, 0, none⟩), .pointer (some ⟨w.heap.size + 1 + 1 + 1 + 1 + 1, 0, none⟩), .pointer (some ⟨w.heap.size + 1 + 1 + 1 + 1 + 1 + 1, 0, none⟩), .int .i64 x.1, .pointer (some ⟨Lx, 0, none⟩), .slice (some ⟨w.heap.size + 1 + 1 + 1, 0, none⟩) 0 0, .slice (some ⟨w.heap.size + 1 + 1 + 1 + 1, 0, none⟩) 0 0, .int .i64 most, .bool false, undef, undef, .pointer (some ⟨jb, 0, none⟩), .func (.func 58) #[] #[.pointer (some ⟨w.heap.size + 1 + 1 + 1 + 1 + 1 + 1 + 1, 0, none⟩)], .int .i64 x.1, x.2.val, undef, undef, undef, undef, undef, undef, undef, undef, undef, undef, undef, undef, undef, undef, undef, undef], defers := [] })
      (fun x a' _ X Y row hs hg hr => by obtain ⟨Lx, h1, h2⟩ := hs; exact ⟨Lx, blk_own h1 hg (fun r e => (hr r e).2), h2⟩)
      ?assign ?body ?done ?stop
    case assign =>
      rintro l pre x W K ⟨⟨v, hv, hrow, _⟩, ⟨u, hu, hrou, _⟩, ⟨h3, h4, h5, hx⟩, hlen, hB⟩ hK
      have hI : (∃ v, Boxed (W.alloc (.cells x.2.enc.toArray 32)) (w.heap.size + 1 + 1 + 1 + 1 + 1) 44 v ∧ (W.alloc (.cells x.2.enc.toArray 32)).ownsRow (w.heap.size + 3) 3 1 v pre.length (ints .i64 (pre.map Prod.fst)) ∧ True) ∧ (∃ v, Boxed (W.alloc (.cells x.2.enc.toArray 32)) (w.heap.size + 1 + 1 + 1 + 1 + 1 + 1) 45 v ∧ (W.alloc (.cells x.2.enc.toArray 32)).ownsRow (w.heap.size + 4) 32 6 v pre.length (flatE (pre.map Prod.snd)) ∧ True) ∧ (Boxed (W.alloc (.cells x.2.enc.toArray 32)) w.heap.size 3 (.int .i64 most) ∧ Boxed (W.alloc (.cells x.2.enc.toArray 32)) (w.heap.size + 1) 44 (.slice none 0 0) ∧ Boxed (W.alloc (.cells x.2.enc.toArray 32)) (w.heap.size + 1 + 1) 45 (.slice none 0 0) ∧ Boxed (W.alloc (.cells x.2.enc.toArray 32)) (w.heap.size + 1 + 1 + 1 + 1 + 1 + 1 + 1) 24 (.pointer (some ⟨jb, 0, none⟩))) ∧ (pre.length : Int) < most ∧ Below w.heap.size w (W.alloc (.cells x.2.enc.toArray 32)) := ⟨⟨v, hv.alloc _, hrow.alloc _, trivial⟩, ⟨u, hu.alloc _, hrou.alloc _, trivial⟩, ⟨h3.alloc _, h4.alloc _, h5.alloc _, hx.alloc _⟩, hlen, hB.alloc hB.size _⟩
      have hKp : KpA w.heap.size (w.heap.size + 1 + 1 + 1 + 1 + 1 + 1 + 1) W (W.alloc (.cells x.2.enc.toArray 32)) := KpA.of_no ((Ch.refl No W).alloc _) hB.size hx.lt
      simp only [enV, Ent.val]
      gi_wp2
      exact hK _ _ ((KeepsOthers.alloc _ _).from _) hKp hI ⟨W.heap.size, Blk.new W _ _, rfl⟩
    case body =>
      rintro l pre ⟨x1, x2⟩ a' W hl' ⟨r, hr⟩ ⟨⟨v, hv, hrow, _⟩, ⟨u, hu, hrou, _⟩, ⟨h3, h4, h5, hx⟩, hlen, hB⟩ ⟨Lx, hLx, rfl⟩ hlt'
      simp only at hLx ⊢
      obtain ⟨Av, cv, rfl⟩ := row_shape hrow
      obtain ⟨Au, cu, rfl⟩ := row_shape hrou
      obtain ⟨p, hp⟩ : ∃ p, pre.length = p := ⟨_, rfl⟩
      have HP := Lib.hid hp
      rw [hp] at hv hu hrow hrou hlen
      clear hp
      have hsz : w.heap.size + 8 ≤ W.heap.size := by have := hx.lt; omega
      have M0 : Md w.heap.size most jb W W (.slice Av p cv) p (ints .i64 (pre.map Prod.fst)) (.slice Av p cv) (.slice Au p cu) p (flatE (pre.map Prod.snd)) (.slice Au p cu) := ⟨hrow, hrou, h3, h4, h5, hv, hu, hx, KeepsOthers.refl _, Below.refl _ _, hsz⟩
      have HM0 := Lib.hid M0
      have HLx := Lib.hid hLx
      have HXB := Lib.hid (And.intro hx hB)
      have hpl : p < 1000000 := by have := HP.out; have := HJ.out.nn; omega
      obtain ⟨m, hmm⟩ : ∃ m : Nat, most = m := ⟨most.toNat, by omega⟩
      subst hmm
      clear M0 hLx hx hB hrow hrou h3 h4 h5 hv hu
      have hT0 : Hid ((fun w' => w'.cell? ⟨w.heap.size + 1 + 1 + 1 + 1 + 1, 0, none⟩ = some (.slice Av p cv) ∧ w'.cell? ⟨w.heap.size + 1 + 1 + 1 + 1 + 1 + 1, 0, none⟩ = some (.slice Au p cu) ∧ EBox w' Lx x2) W.drew) := Lib.hid ⟨HM0.out.b5.cell, HM0.out.b6.cell, HLx.out.ebox⟩
      gi_wp2
      refine region_inRound (T := (fun w' => w'.cell? ⟨w.heap.size + 1 + 1 + 1 + 1 + 1, 0, none⟩ = some (.slice Av p cv) ∧ w'.cell? ⟨w.heap.size + 1 + 1 + 1 + 1 + 1 + 1, 0, none⟩ = some (.slice Au p cu) ∧ EBox w' Lx x2)) (s := 7) (by kernel_rfl) (by kernel_rfl) (fun _ _ h => h) (fun hT => ?_) hT0.out
      refine wpTill_take [3, 7] (i := 0) (v := ?v0) rfl (by kernel_rfl) (by kernel_rfl) (by kernel_rfl) (fun _ _ _ h => by cases h.1) _ _ _ _ (by kernel_rfl) (by kernel_rfl) (by kernel_rfl) (Or.inl ⟨by rfl, ?y0⟩) hT ?r0
      case y0 =>
        intro w' hw'
        obtain ⟨t0, t1, t2, t3, t4, t5, t6, t7⟩ := hw'
        go_simp
        try with_reducible rfl
      case r0 =>
        simp only [Act.put]
        refine wpTill_take [2, 3, 7] (i := 1) (v := ?v1) rfl (by kernel_rfl) (by kernel_rfl) (by kernel_rfl) (fun _ _ _ h => by cases h.1) _ _ _ _ (by kernel_rfl) (by kernel_rfl) (by kernel_rfl) (Or.inl ⟨by rfl, ?y1⟩) hT ?r1
        case y1 =>
          intro w' hw'
          obtain ⟨t0, t1, t2, t3, t4, t5, t6, t7⟩ := hw'
          go_simp
          try with_reducible rfl
        case r1 =>
          simp only [Act.put]
          refine wpTill_take [7] (i := 4) (v := ?v4) rfl (by kernel_rfl) (by kernel_rfl) (by kernel_rfl) (fun _ _ _ h => by cases h.1) _ _ _ _ (by kernel_rfl) (by kernel_rfl) (by kernel_rfl) (Or.inl ⟨by rfl, ?y4⟩) hT ?r4
          case y4 =>
            intro w' hw'
            obtain ⟨t0, t1, t2, t3, t4, t5, t6, t7⟩ := hw'
            go_simp
            try with_reducible rfl
          case r4 =>
            simp only [Act.put]
            refine wpTill_take [6, 7] (i := 5) (v := ?v5) rfl (by kernel_rfl) (by kernel_rfl) (by kernel_rfl) (fun _ _ _ h => by cases h.1) _ _ _ _ (by kernel_rfl) (by kernel_rfl) (by kernel_rfl) (Or.inl ⟨by rfl, ?y5⟩) hT ?r5
            case y5 =>
              intro w' hw'
              obtain ⟨t0, t1, t2, t3, t4, t5, t6, t7⟩ := hw'
              go_simp
              try with_reducible rfl
            case r5 =>
              simp only [Act.put]
              refine wpTill_one (rs := [2, 6]) (by kernel_rfl) (by simp) ?_
              intro i hi
              rcases (by simpa using hi : i = 2 ∨ i = 6) with rfl | rfl
              · refine wpTill_step rfl (fun K hK => ?_)
                go_simp
                have M1 := Lib.hid (HM0.out.alloc (.cells #[.int .i64 x1] 3))
                have BI1 : Hid (Blk (W.alloc (.cells #[.int .i64 x1] 3)) (W.heap.size) 3 [.int .i64 x1]) := Lib.hid (Blk.new W 3 [.int .i64 x1])
                have L1 : Hid (Blk (W.alloc (.cells #[.int .i64 x1] 3)) Lx 32 x2.enc) := Lib.hid (HLx.out.alloc _)
                refine hK.out _ _ (fun _ => ⟨M1.out.b5.cell, M1.out.b6.cell, L1.out.ebox⟩) ?_
                clear hK K
                try simp only [Act.put]
                refine wpTill_one (rs := [3, 6]) (by kernel_rfl) (by simp) ?_
                intro i hi
                rcases (by simpa using hi : i = 3 ∨ i = 6) with rfl | rfl
                · refine wpTill_step rfl (fun K hK => ?_)
                  refine step_appO (by rfl) (.tmp 20) (.tmp 22) 44 3 (by rfl) (.int .i64 0) 1 8 Try.underlying44 intInfo (by rfl) (by decide) (w.heap.size + 3) (.slice Av p cv) p (ints .i64 (pre.map Prod.fst)) (by rfl) (M1.out.drew.rx) (W.heap.size) 1 [.int .i64 x1] (by simp [Act.eval]) rfl (BI1.out) (by simp [Value.oneCell']) (by simp [maxLen]; omega) (by omega) (by have := M1.out.sz; first | omega | (simp at this ⊢; omega)) ?_
                  intro A2 cc2 w2 o2 g2
                  have M2 := Lib.hid (M1.out.drew.growX o2 g2)
                  have L2 := Lib.hid ((blk_drew L1.out).grown g2 (blk_apart (blk_drew L1.out) M1.out.drew.rx (by decide)))
                  clear o2 g2
                  refine hK.out _ _ (fun _ => ⟨M2.out.b5.cell, M2.out.b6.cell, L2.out.ebox⟩) ?_
                  clear hK K
                  try simp only [Act.put]
                  refine wpTill_one (rs := [6]) (by kernel_rfl) (by simp) ?_
                  intro i hi
                  obtain rfl : i = 6 := by simpa using hi
                  refine wpTill_step rfl (fun K hK => ?_)
                  go_simp
                  have M3 := Lib.hid (M2.out.alloc (.cells x2.enc.toArray 32))
                  have BE3 : Hid (Blk (w2.alloc (.cells x2.enc.toArray 32)) (w2.heap.size) 32 x2.enc) := Lib.hid (Blk.new w2 32 x2.enc)
                  have L3 : Hid (Blk (w2.alloc (.cells x2.enc.toArray 32)) Lx 32 x2.enc) := Lib.hid (L2.out.alloc _)
                  refine hK.out _ _ (fun _ => ⟨M3.out.b5.cell, M3.out.b6.cell, L3.out.ebox⟩) ?_
                  clear hK K
                  try simp only [Act.put]
                  refine wpTill_one (rs := [7]) (by kernel_rfl) (by simp) ?_
                  intro i hi
                  obtain rfl : i = 7 := by simpa using hi
                  refine wpTill_step rfl (fun K hK => ?_)
                  refine step_appO (by rfl) (.tmp 24) (.tmp 26) 45 32 (by rfl) Ent.zero.val 6 48 Try.underlying45 infoEn (by rfl) (by decide) (w.heap.size + 4) (.slice Au p cu) p (flatE (pre.map Prod.snd)) (by rfl) (M3.out.ry) (w2.heap.size) 1 x2.enc (by simp [Act.eval]) rfl (BE3.out) (enc_one x2) (by simp [maxLen]; omega) (by omega) (by have := M3.out.sz; first | omega | (simp at this ⊢; omega)) ?_
                  intro A4 cc4 w4 o4 g4
                  have M4 := Lib.hid (M3.out.growY o4 g4)
                  clear o4 g4
                  refine hK.out _ _ (fun h => nomatch (show true = false from h)) ?_
                  clear hK K
                  try simp only [Act.put]
                  have cx4 := M4.out.b5.cell
                  have cy4 := M4.out.b6.cell
                  have fx4 := M4.out.b5.frozen
                  have fy4 := M4.out.b6.frozen
                  refine wpTill_one (rs := [8]) (by kernel_rfl) (by simp) ?_
                  intro i hi
                  obtain rfl : i = 8 := by simpa using hi
                  refine wpTill_step rfl (fun K hK => ?_)
                  go_simp
                  refine hK.out _ _ (fun h => nomatch (show true = false from h)) ?_
                  clear hK K
                  try simp only [Act.put]
                  refine wpTill_one (rs := [9]) (by kernel_rfl) (by simp) ?_
                  intro i hi
                  obtain rfl : i = 9 := by simpa using hi
                  refine wpTill_step rfl (fun K hK => ?_)
                  go_simp
                  refine hK.out _ _ (fun h => nomatch (show true = false from h)) ?_
                  clear hK K
                  try simp only [Act.put]
                  refine wpTill_done (by kernel_rfl) ⟨rfl, ?_⟩ _
                  have MF := Lib.hid M4.out.fin
                  clear cx4 cy4 fx4 fy4
                  have HF : Hid (Md w.heap.size m jb W ((w4.setCell ⟨w.heap.size + 1 + 1 + 1 + 1 + 1, 0, none⟩ (.slice A2 (p + 1) cc2)).setCell ⟨w.heap.size + 1 + 1 + 1 + 1 + 1 + 1, 0, none⟩ (.slice A4 (p + 1) cc4)) (.slice A2 (p + 1) cc2) (pre ++ [(x1, x2)]).length (ints .i64 ((pre ++ [(x1, x2)]).map Prod.fst)) (.slice A2 (p + 1) cc2) (.slice A4 (p + 1) cc4) (pre ++ [(x1, x2)]).length (flatE ((pre ++ [(x1, x2)]).map Prod.snd)) (.slice A4 (p + 1) cc4)) := Lib.hid (by rw [flatEP_snoc, List.length_append, HP.out]; simpa [ints] using MF.out)
                  clear MF M4
                  generalize (w4.setCell ⟨w.heap.size + 1 + 1 + 1 + 1 + 1, 0, none⟩ (.slice A2 (p + 1) cc2)).setCell ⟨w.heap.size + 1 + 1 + 1 + 1 + 1 + 1, 0, none⟩ (.slice A4 (p + 1) cc4) = wf at *
                  have cx := HF.out.b5.cell
                  have cy := HF.out.b6.cell
                  have c0 := HF.out.b0.cell
                  by_cases he : p + 1 = m
                  · have he2 : ((p : Int) + 1 == (m : Int)) = true := by simp; omega
                    have HE := Lib.hid he
                    have c1 := HF.out.b1.cell
                    have f1 := HF.out.b1.frozen
                    have c2 := HF.out.b2.cell
                    have f2 := HF.out.b2.frozen
                    clear he
                    gi_wp2
                    gi_region
                    all_goals gi_wp2
                    all_goals (
                      obtain ⟨r1, r2, r3, r4, r5, r6⟩ := HF.out.ret
                      exact ⟨r5.from _, rfl, ⟨_, r1, r3, trivial⟩, ⟨_, r2, r4, trivial⟩, by rw [List.length_append, HP.out]; have := HE.out; simp; omega, HXB.out.2.trans r6⟩)
                  · have he2 : ((p : Int) + 1 == (m : Int)) = false := by simpa using (by omega : ¬ (p : Int) + 1 = (m : Int))
                    have hlt2 : p + 1 < m := by omega
                    have HE := Lib.hid hlt2
                    clear he hlt2
                    gi_wp2
                    exact ⟨HF.out.ko.from _, ⟨HF.out.bl.mono (by omega), Eq.trans HF.out.b7 (Eq.symm HXB.out.1)⟩, ⟨_, HF.out.b5, HF.out.rx, trivial⟩, ⟨_, HF.out.b6, HF.out.ry, trivial⟩, ⟨HF.out.b0, HF.out.b1, HF.out.b2, HF.out.b7⟩, by rw [List.length_append, HP.out]; have := HE.out; simp; omega, HXB.out.2.trans (HF.out.bl.mono (by omega))⟩
                · refine wpTill_step rfl (fun K hK => ?_)
                  go_simp
                  have M5 := Lib.hid (M1.out.alloc (.cells x2.enc.toArray 32))
                  have BE5 : Hid (Blk ((W.alloc (.cells #[.int .i64 x1] 3)).alloc (.cells x2.enc.toArray 32)) ((W.alloc (.cells #[.int .i64 x1] 3)).heap.size) 32 x2.enc) := Lib.hid (Blk.new (W.alloc (.cells #[.int .i64 x1] 3)) 32 x2.enc)
                  have L5 : Hid (Blk ((W.alloc (.cells #[.int .i64 x1] 3)).alloc (.cells x2.enc.toArray 32)) Lx 32 x2.enc) := Lib.hid (L1.out.alloc _)
                  have BI5 : Hid (Blk ((W.alloc (.cells #[.int .i64 x1] 3)).alloc (.cells x2.enc.toArray 32)) (W.heap.size) 3 [.int .i64 x1]) := Lib.hid (BI1.out.alloc _)
                  refine hK.out _ _ (fun _ => ⟨M5.out.b5.cell, M5.out.b6.cell, L5.out.ebox⟩) ?_
                  clear hK K
                  try simp only [Act.put]
                  refine wpTill_one (rs := [3]) (by kernel_rfl) (by simp) ?_
                  intro i hi
                  obtain rfl : i = 3 := by simpa using hi
                  refine wpTill_step rfl (fun K hK => ?_)
                  refine step_appO (by rfl) (.tmp 20) (.tmp 22) 44 3 (by rfl) (.int .i64 0) 1 8 Try.underlying44 intInfo (by rfl) (by decide) (w.heap.size + 3) (.slice Av p cv) p (ints .i64 (pre.map Prod.fst)) (by rfl) (M5.out.drew.rx) (W.heap.size) 1 [.int .i64 x1] (by simp [Act.eval]) rfl (BI5.out) (by simp [Value.oneCell']) (by simp [maxLen]; omega) (by omega) (by have := M5.out.sz; first | omega | (simp at this ⊢; omega)) ?_
                  intro A6 cc6 w6 o6 g6
                  have M6 := Lib.hid (M5.out.drew.growX o6 g6)
                  have L6 := Lib.hid ((blk_drew L5.out).grown g6 (blk_apart (blk_drew L5.out) M5.out.drew.rx (by decide)))
                  have BE6 := Lib.hid ((blk_drew BE5.out).grown g6 (blk_apart (blk_drew BE5.out) M5.out.drew.rx (by decide)))
                  clear o6 g6
                  refine hK.out _ _ (fun _ => ⟨M6.out.b5.cell, M6.out.b6.cell, L6.out.ebox⟩) ?_
                  clear hK K
                  try simp only [Act.put]
                  refine wpTill_one (rs := [7]) (by kernel_rfl) (by simp) ?_
                  intro i hi
                  obtain rfl : i = 7 := by simpa using hi
                  refine wpTill_step rfl (fun K hK => ?_)
                  refine step_appO (by rfl) (.tmp 24) (.tmp 26) 45 32 (by rfl) Ent.zero.val 6 48 Try.underlying45 infoEn (by rfl) (by decide) (w.heap.size + 4) (.slice Au p cu) p (flatE (pre.map Prod.snd)) (by rfl) (M6.out.ry) ((W.alloc (.cells #[.int .i64 x1] 3)).heap.size) 1 x2.enc (by simp [Act.eval]) rfl (BE6.out) (enc_one x2) (by simp [maxLen]; omega) (by omega) (by have := M6.out.sz; first | omega | (simp at this ⊢; omega)) ?_
                  intro A7 cc7 w7 o7 g7
                  have M7 := Lib.hid (M6.out.growY o7 g7)
                  clear o7 g7
                  refine hK.out _ _ (fun h => nomatch (show true = false from h)) ?_
                  clear hK K
                  try simp only [Act.put]
                  have cx7 := M7.out.b5.cell
                  have cy7 := M7.out.b6.cell
                  have fx7 := M7.out.b5.frozen
                  have fy7 := M7.out.b6.frozen
                  refine wpTill_one (rs := [8]) (by kernel_rfl) (by simp) ?_
                  intro i hi
                  obtain rfl : i = 8 := by simpa using hi
                  refine wpTill_step rfl (fun K hK => ?_)
                  go_simp
                  refine hK.out _ _ (fun h => nomatch (show true = false from h)) ?_
                  clear hK K
                  try simp only [Act.put]
                  refine wpTill_one (rs := [9]) (by kernel_rfl) (by simp) ?_
                  intro i hi
                  obtain rfl : i = 9 := by simpa using hi
                  refine wpTill_step rfl (fun K hK => ?_)
                  go_simp
                  refine hK.out _ _ (fun h => nomatch (show true = false from h)) ?_
                  clear hK K
                  try simp only [Act.put]
                  refine wpTill_done (by kernel_rfl) ⟨rfl, ?_⟩ _
                  have MF := Lib.hid M7.out.fin
                  clear cx7 cy7 fx7 fy7
                  have HF : Hid (Md w.heap.size m jb W ((w7.setCell ⟨w.heap.size + 1 + 1 + 1 + 1 + 1, 0, none⟩ (.slice A6 (p + 1) cc6)).setCell ⟨w.heap.size + 1 + 1 + 1 + 1 + 1 + 1, 0, none⟩ (.slice A7 (p + 1) cc7)) (.slice A6 (p + 1) cc6) (pre ++ [(x1, x2)]).length (ints .i64 ((pre ++ [(x1, x2)]).map Prod.fst)) (.slice A6 (p + 1) cc6) (.slice A7 (p + 1) cc7) (pre ++ [(x1, x2)]).length (flatE ((pre ++ [(x1, x2)]).map Prod.snd)) (.slice A7 (p + 1) cc7)) := Lib.hid (by rw [flatEP_snoc, List.length_append, HP.out]; simpa [ints] using MF.out)
                  clear MF M7
                  generalize (w7.setCell ⟨w.heap.size + 1 + 1 + 1 + 1 + 1, 0, none⟩ (.slice A6 (p + 1) cc6)).setCell ⟨w.heap.size + 1 + 1 + 1 + 1 + 1 + 1, 0, none⟩ (.slice A7 (p + 1) cc7) = wf at *
                  have cx := HF.out.b5.cell
                  have cy := HF.out.b6.cell
                  have c0 := HF.out.b0.cell
                  by_cases he : p + 1 = m
                  · have he2 : ((p : Int) + 1 == (m : Int)) = true := by simp; omega
                    have HE := Lib.hid he
                    have c1 := HF.out.b1.cell
                    have f1 := HF.out.b1.frozen
                    have c2 := HF.out.b2.cell
                    have f2 := HF.out.b2.frozen
                    clear he
                    gi_wp2
                    gi_region
                    all_goals gi_wp2
                    all_goals (
                      obtain ⟨r1, r2, r3, r4, r5, r6⟩ := HF.out.ret
                      exact ⟨r5.from _, rfl, ⟨_, r1, r3, trivial⟩, ⟨_, r2, r4, trivial⟩, by rw [List.length_append, HP.out]; have := HE.out; simp; omega, HXB.out.2.trans r6⟩)
                  · have he2 : ((p : Int) + 1 == (m : Int)) = false := by simpa using (by omega : ¬ (p : Int) + 1 = (m : Int))
                    have hlt2 : p + 1 < m := by omega
                    have HE := Lib.hid hlt2
                    clear he hlt2
                    gi_wp2
                    exact ⟨HF.out.ko.from _, ⟨HF.out.bl.mono (by omega), Eq.trans HF.out.b7 (Eq.symm HXB.out.1)⟩, ⟨_, HF.out.b5, HF.out.rx, trivial⟩, ⟨_, HF.out.b6, HF.out.ry, trivial⟩, ⟨HF.out.b0, HF.out.b1, HF.out.b2, HF.out.b7⟩, by rw [List.length_append, HP.out]; have := HE.out; simp; omega, HXB.out.2.trans (HF.out.bl.mono (by omega))⟩
              · refine wpTill_step rfl (fun K hK => ?_)
                go_simp
                have M8 := Lib.hid (HM0.out.alloc (.cells x2.enc.toArray 32))
                have BE8 : Hid (Blk (W.alloc (.cells x2.enc.toArray 32)) (W.heap.size) 32 x2.enc) := Lib.hid (Blk.new W 32 x2.enc)
                have L8 : Hid (Blk (W.alloc (.cells x2.enc.toArray 32)) Lx 32 x2.enc) := Lib.hid (HLx.out.alloc _)
                refine hK.out _ _ (fun _ => ⟨M8.out.b5.cell, M8.out.b6.cell, L8.out.ebox⟩) ?_
                clear hK K
                try simp only [Act.put]
                refine wpTill_one (rs := [2]) (by kernel_rfl) (by simp) ?_
                intro i hi
                obtain rfl : i = 2 := by simpa using hi
                refine wpTill_step rfl (fun K hK => ?_)
                go_simp
                have M9 := Lib.hid (M8.out.alloc (.cells #[.int .i64 x1] 3))
                have BI9 : Hid (Blk ((W.alloc (.cells x2.enc.toArray 32)).alloc (.cells #[.int .i64 x1] 3)) ((W.alloc (.cells x2.enc.toArray 32)).heap.size) 3 [.int .i64 x1]) := Lib.hid (Blk.new (W.alloc (.cells x2.enc.toArray 32)) 3 [.int .i64 x1])
                have L9 : Hid (Blk ((W.alloc (.cells x2.enc.toArray 32)).alloc (.cells #[.int .i64 x1] 3)) Lx 32 x2.enc) := Lib.hid (L8.out.alloc _)
                have BE9 : Hid (Blk ((W.alloc (.cells x2.enc.toArray 32)).alloc (.cells #[.int .i64 x1] 3)) (W.heap.size) 32 x2.enc) := Lib.hid (BE8.out.alloc _)
                refine hK.out _ _ (fun _ => ⟨M9.out.b5.cell, M9.out.b6.cell, L9.out.ebox⟩) ?_
                clear hK K
                try simp only [Act.put]
                refine wpTill_one (rs := [3]) (by kernel_rfl) (by simp) ?_
                intro i hi
                obtain rfl : i = 3 := by simpa using hi
                refine wpTill_step rfl (fun K hK => ?_)
                refine step_appO (by rfl) (.tmp 20) (.tmp 22) 44 3 (by rfl) (.int .i64 0) 1 8 Try.underlying44 intInfo (by rfl) (by decide) (w.heap.size + 3) (.slice Av p cv) p (ints .i64 (pre.map Prod.fst)) (by rfl) (M9.out.drew.rx) ((W.alloc (.cells x2.enc.toArray 32)).heap.size) 1 [.int .i64 x1] (by simp [Act.eval]) rfl (BI9.out) (by simp [Value.oneCell']) (by simp [maxLen]; omega) (by omega) (by have := M9.out.sz; first | omega | (simp at this ⊢; omega)) ?_
                intro A10 cc10 w10 o10 g10
                have M10 := Lib.hid (M9.out.drew.growX o10 g10)
                have L10 := Lib.hid ((blk_drew L9.out).grown g10 (blk_apart (blk_drew L9.out) M9.out.drew.rx (by decide)))
                have BE10 := Lib.hid ((blk_drew BE9.out).grown g10 (blk_apart (blk_drew BE9.out) M9.out.drew.rx (by decide)))
                clear o10 g10
                refine hK.out _ _ (fun _ => ⟨M10.out.b5.cell, M10.out.b6.cell, L10.out.ebox⟩) ?_
                clear hK K
                try simp only [Act.put]
                refine wpTill_one (rs := [7]) (by kernel_rfl) (by simp) ?_
                intro i hi
                obtain rfl : i = 7 := by simpa using hi
                refine wpTill_step rfl (fun K hK => ?_)
                refine step_appO (by rfl) (.tmp 24) (.tmp 26) 45 32 (by rfl) Ent.zero.val 6 48 Try.underlying45 infoEn (by rfl) (by decide) (w.heap.size + 4) (.slice Au p cu) p (flatE (pre.map Prod.snd)) (by rfl) (M10.out.ry) (W.heap.size) 1 x2.enc (by simp [Act.eval]) rfl (BE10.out) (enc_one x2) (by simp [maxLen]; omega) (by omega) (by have := M10.out.sz; first | omega | (simp at this ⊢; omega)) ?_
                intro A11 cc11 w11 o11 g11
                have M11 := Lib.hid (M10.out.growY o11 g11)
                clear o11 g11
                refine hK.out _ _ (fun h => nomatch (show true = false from h)) ?_
                clear hK K
                try simp only [Act.put]
                have cx11 := M11.out.b5.cell
                have cy11 := M11.out.b6.cell
                have fx11 := M11.out.b5.frozen
                have fy11 := M11.out.b6.frozen
                refine wpTill_one (rs := [8]) (by kernel_rfl) (by simp) ?_
                intro i hi
                obtain rfl : i = 8 := by simpa using hi
                refine wpTill_step rfl (fun K hK => ?_)
                go_simp
                refine hK.out _ _ (fun h => nomatch (show true = false from h)) ?_
                clear hK K
                try simp only [Act.put]
                refine wpTill_one (rs := [9]) (by kernel_rfl) (by simp) ?_
                intro i hi
                obtain rfl : i = 9 := by simpa using hi
                refine wpTill_step rfl (fun K hK => ?_)
                go_simp
                refine hK.out _ _ (fun h => nomatch (show true = false from h)) ?_
                clear hK K
                try simp only [Act.put]
                refine wpTill_done (by kernel_rfl) ⟨rfl, ?_⟩ _
                have MF := Lib.hid M11.out.fin
                clear cx11 cy11 fx11 fy11
                have HF : Hid (Md w.heap.size m jb W ((w11.setCell ⟨w.heap.size + 1 + 1 + 1 + 1 + 1, 0, none⟩ (.slice A10 (p + 1) cc10)).setCell ⟨w.heap.size + 1 + 1 + 1 + 1 + 1 + 1, 0, none⟩ (.slice A11 (p + 1) cc11)) (.slice A10 (p + 1) cc10) (pre ++ [(x1, x2)]).length (ints .i64 ((pre ++ [(x1, x2)]).map Prod.fst)) (.slice A10 (p + 1) cc10) (.slice A11 (p + 1) cc11) (pre ++ [(x1, x2)]).length (flatE ((pre ++ [(x1, x2)]).map Prod.snd)) (.slice A11 (p + 1) cc11)) := Lib.hid (by rw [flatEP_snoc, List.length_append, HP.out]; simpa [ints] using MF.out)
                clear MF M11
                generalize (w11.setCell ⟨w.heap.size + 1 + 1 + 1 + 1 + 1, 0, none⟩ (.slice A10 (p + 1) cc10)).setCell ⟨w.heap.size + 1 + 1 + 1 + 1 + 1 + 1, 0, none⟩ (.slice A11 (p + 1) cc11) = wf at *
                have cx := HF.out.b5.cell
                have cy := HF.out.b6.cell
                have c0 := HF.out.b0.cell
                by_cases he : p + 1 = m
                · have he2 : ((p : Int) + 1 == (m : Int)) = true := by simp; omega
                  have HE := Lib.hid he
                  have c1 := HF.out.b1.cell
                  have f1 := HF.out.b1.frozen
                  have c2 := HF.out.b2.cell
                  have f2 := HF.out.b2.frozen
                  clear he
                  gi_wp2
                  gi_region
                  all_goals gi_wp2
                  all_goals (
                    obtain ⟨r1, r2, r3, r4, r5, r6⟩ := HF.out.ret
                    exact ⟨r5.from _, rfl, ⟨_, r1, r3, trivial⟩, ⟨_, r2, r4, trivial⟩, by rw [List.length_append, HP.out]; have := HE.out; simp; omega, HXB.out.2.trans r6⟩)
                · have he2 : ((p : Int) + 1 == (m : Int)) = false := by simpa using (by omega : ¬ (p : Int) + 1 = (m : Int))
                  have hlt2 : p + 1 < m := by omega
                  have HE := Lib.hid hlt2
                  clear he hlt2
                  gi_wp2
                  exact ⟨HF.out.ko.from _, ⟨HF.out.bl.mono (by omega), Eq.trans HF.out.b7 (Eq.symm HXB.out.1)⟩, ⟨_, HF.out.b5, HF.out.rx, trivial⟩, ⟨_, HF.out.b6, HF.out.ry, trivial⟩, ⟨HF.out.b0, HF.out.b1, HF.out.b2, HF.out.b7⟩, by rw [List.length_append, HP.out]; have := HE.out; simp; omega, HXB.out.2.trans (HF.out.bl.mono (by omega))⟩
    case done =>
      rintro D ys W hD rfl ⟨⟨v, hv, hrow, _⟩, ⟨u, hu, hrou, _⟩, ⟨h3, h4, h5, hx⟩, hlen, hB⟩ hK
      obtain ⟨Av, cv, rfl⟩ := row_shape hrow
      obtain ⟨Au, cu, rfl⟩ := row_shape hrou
      have hnl : (numJ gone L L.length).length = L.length := by simp
      rw [numJ_snd, List.take_length] at hrou
      rw [hnl] at hrow hrou hv hu hlen
      have hsz : w.heap.size + 8 ≤ W.heap.size := by have := hx.lt; omega
      have HM := Lib.hid (⟨hrow, hrou, h3, h4, h5, hv, hu, hx, KeepsOthers.refl _, Below.refl _ _, hsz⟩ : Md w.heap.size most jb W W _ _ _ _ _ _ _ _)
      have cx := hv.cell
      have cy := hu.cell
      have c1 := h4.cell
      have f1 := h4.frozen
      have c2 := h5.cell
      have f2 := h5.frozen
      have HB := Lib.hid (And.intro hB (And.intro hlen hnl))
      clear hB hlen hnl h3 h4 h5 hx hrow hrou hv hu
      gi_wp2
      gi_region
      all_goals gi_wp2
      all_goals (
        obtain ⟨r1, r2, r3, r4, r5, r6⟩ := HM.out.ret
        have hK2 := r5.same D _ hK rfl
        have hc5 := cell_kept r1.cell (grownBy_putObj' _ D (.deferred none)) (fun r e => by cases e; exact ⟨_, hK2, rfl⟩)
        have hc6 := cell_kept r2.cell (grownBy_putObj' _ D (.deferred none)) (fun r e => by cases e; exact ⟨_, hK2, rfl⟩)
        have ht : L.take most.toNat = L := List.take_of_length_le (by have := HB.out.2.1; omega)
        have ht2 : (numJ gone L L.length).take most.toNat = numJ gone L L.length := List.take_of_length_le (by have := HB.out.2.1; have := HB.out.2.2; omega)
        refine ⟨by simp, .inl ⟨_, _, rfl, run_takeDeferred hK2, ?_⟩⟩
        refine ⟨.tuple #[.slice Av L.length cv, .slice Au L.length cu], by simp [results, Try.f22, go_sem, hc5, hc6], _, _, rfl, ?_, ?_, Ch.of_below ((HB.out.1.trans r6).trans (belowK_b (w := w) (Nat.le_refl _) _ D _ _ (by omega) hK2 rfl rfl))⟩
        · rw [ht, ht2]
          exact rowN_lower (ownsRow_putObj r3 (.deferred none) hK2 rfl) (by omega)
        · rw [ht]
          exact rowN_lower (ownsRow_putObj r4 (.deferred none) hK2 rfl) (by omega))
    case stop =>
      rintro D cd pre W hD hpre ⟨rfl, ⟨v, hv, hrow, _⟩, ⟨u, hu, hrou, _⟩, hlen, hB⟩ hK
      gi_wp2
      refine ⟨by simp, .inl ⟨_, _, rfl, run_takeDeferred hK, ?_⟩⟩
      have hc5 := cell_kept hv.cell (grownBy_putObj' _ D (.deferred none)) (fun r e => by cases e; exact ⟨_, hK, rfl⟩)
      have hc6 := cell_kept hu.cell (grownBy_putObj' _ D (.deferred none)) (fun r e => by cases e; exact ⟨_, hK, rfl⟩)
      have ht2 : (numJ gone L L.length).take most.toNat = pre := by
        obtain ⟨t, ht⟩ := hpre
        rw [← ht, show most.toNat = pre.length from by omega, List.take_left']
        rfl
      have ht : L.take most.toNat = pre.map Prod.snd := by
        rw [← ht2, List.map_take, numJ_snd, List.take_length]
      refine ⟨.tuple #[v, u], by simp [results, Try.f22, go_sem, hc5, hc6], v, u, rfl, ?_, ?_, Ch.of_below (hB.trans (belowK_b (w := w) (Nat.le_refl _) W D _ _ (by omega) hK rfl rfl))⟩
      · rw [ht, ht2, List.length_map]
        exact rowN_lower (ownsRow_putObj hrow (.deferred none) hK rfl) (by omega)
      · rw [ht, List.length_map]
        exact rowN_lower (ownsRow_putObj hrou (.deferred none) hK rfl) (by omega)
end Go.Proofs.Ytflpelacjdnplaa
