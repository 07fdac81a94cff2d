/- journal: Add, Trim, Get. -/
import Derived.Test.YtflpelacjdnplaaJrnMem
namespace Go.Proofs.Ytflpelacjdnplaa
open Go.RowKit

theorem blk_src {w : World} {g : Nat} {t : TypeId} {us : List Value} (h : Blk w g t us) : ∀ j u, us[j]? = some u → w.cell? ((⟨g, 0, none⟩ : Addr).add j) = some u := by
  intro j u hj
  rw [addr_mid, Nat.zero_add, h.cell j]
  exact hj
theorem jr_set {w : World} {jb n c gone cap : Nat} {A : Option Addr} {ys : List Ent} {v0 : Value} (h0 : w.cell? ⟨jb, 0, none⟩ = some v0) (h1 : w.cell? ⟨jb, 1, none⟩ = some (.int .i64 gone)) (h2 : w.cell? ⟨jb, 2, none⟩ = some (.int .i64 cap)) (hf : ∀ i, w.frozen? ⟨jb, i, none⟩ = false) (hl : jb < w.heap.size)
    (row : Tl w (jb + 1) 6 A n c (flatE ys)) (hn : ys.length = n) : Jr (w.setCell ⟨jb, 0, none⟩ (.slice A n c)) jb A n c gone cap ys := by
  have hc : Ch (fun k => k = jb) w (w.setCell ⟨jb, 0, none⟩ (.slice A n c)) := (Ch.refl (fun k => k = jb) w).setCell (p := ⟨jb, 0, none⟩) (fun _ => rfl) _
  refine ⟨hn, row.chS hc (fun a ha e => by have := (row.blk a ha).1; omega), World.cell?_setCell_same _ _ _ h0, ?_, ?_, fun i => ?_, Nat.lt_of_lt_of_le hl hc.size⟩
  · rw [World.cell?_setCell_other _ _ _ _ (by simp)]; exact h1
  · rw [World.cell?_setCell_other _ _ _ _ (by simp)]; exact h2
  · rw [World.frozen?_setCell]; exact hf i
theorem own_blk {w : World} {B sz n c : Nat} {A : Option Addr} {vs : List Value} (h : Tl w B sz A n c vs) : ∀ k, (Value.slice A n c).ownBlock = some k → B ≤ k ∧ k < w.heap.size ∧ ∃ a, A = some a ∧ a.block = k := by
  intro k hk
  cases A with
  | none => cases hk
  | some a =>
    cases hk
    exact ⟨(h.blk a rfl).1, (h.blk a rfl).2, a, rfl, rfl⟩
theorem EBox.chT {S : Nat → Prop} {w w' : World} {b : Nat} {x : Ent} (h : EBox w b x) (hc : Ch S w w') (hS : ¬ S b) : EBox w' b x := by
  obtain ⟨h0, h1, h2, h3, h4, h5⟩ := h
  exact ⟨hc.cell h0 hS, hc.cell h1 hS, hc.cell h2 hS, hc.cell h3 hS, hc.cell h4 hS, hc.cell h5 hS⟩
theorem jr_ch {S : Nat → Prop} {w w' : World} (h : Ch No w w') : Ch S w w' := h.mono (fun _ _ h => h.elim)
section
variable {w : World} {jb n c gone cap : Nat} {A : Option Addr} {xs : List Ent}
theorem JAdd_bad (x : Ent) (hx : okE x = false) (w : World) (p : Option Addr) : Calls Try.prog 15 #[.pointer p, x.val] w fun e w' => e = .returned (.tuple #[.int .i64 0, .int .i64 23]) ∧ Ch No w w' := by
  have hB : EBox (w.alloc (.cells x.enc.toArray 32)) w.heap.size x := (Blk.new w 32 x.enc).ebox
  have hC : Ch No w (w.alloc (.cells x.enc.toArray 32)) := (Ch.refl No w).alloc _
  have hK := fun w => Check_any x w
  rw [show errE x = 23 from by unfold errE; rw [hx]; rfl] at hK
  simp only [Ent.enc] at hB hC
  unfold Ent.val at hK ⊢
  obtain ⟨a0, a1, a2, a3, a4, a5⟩ := hB
  clear hx
  go_enter Try.func15, Try.ntmps15
  go_wp2_with fail
  refine (hK _).mono ?_
  rintro e w1 ⟨rfl, h1⟩
  have H1 := Lib.hid (hC.trans h1)
  clear h1 hC hK a0 a1 a2 a3 a4 a5
  go_wp2_with fail
  refine bodyPost_ret (v := .tuple #[.int .i64 0, .int .i64 23]) (by simp [results, Try.f15, go_sem]) rfl ?_
  exact ⟨rfl, H1.out⟩
theorem JAdd_full (h : Jr w jb A n c gone cap xs) (x : Ent) (hx : okE x = true) (hnc : n = cap) : Calls Try.prog 15 #[.pointer (some ⟨jb, 0, none⟩), x.val] w fun e w' => e = .returned (.tuple #[.int .i64 0, .int .i64 42]) ∧ Ch No w w' := by
  have hB : EBox (w.alloc (.cells x.enc.toArray 32)) w.heap.size x := (Blk.new w 32 x.enc).ebox
  have hC : Ch No w (w.alloc (.cells x.enc.toArray 32)) := (Ch.refl No w).alloc _
  have hK := fun w => Check_any x w
  rw [show errE x = 0 from by unfold errE; rw [hx]; rfl] at hK
  have HJ := Lib.hid h
  have HF := Lib.hid (fun (w' : World) (h : Jr w' jb A n c gone cap xs) => by have := JFull_any h; rw [decide_eq_true hnc] at this; exact this)
  simp only [Ent.enc] at hB hC
  unfold Ent.val at hK ⊢
  obtain ⟨a0, a1, a2, a3, a4, a5⟩ := hB
  clear hx h hnc
  go_enter Try.func15, Try.ntmps15
  go_wp2_with fail
  refine (hK _).mono ?_
  rintro e w1 ⟨rfl, h1⟩
  have H1 := Lib.hid (hC.trans h1)
  clear h1 hC hK a0 a1 a2 a3 a4 a5
  go_wp2_with fail
  refine (HF.out _ (HJ.out.no H1.out)).mono ?_
  rintro e w2 ⟨rfl, h2⟩
  have H2 := Lib.hid (H1.out.trans h2)
  clear h2
  go_wp2_with fail
  refine bodyPost_ret (v := .tuple #[.int .i64 0, .int .i64 42]) (by simp [results, Try.f15, go_sem]) rfl ?_
  exact ⟨rfl, H2.out⟩

set_option maxHeartbeats 4000000 in
set_option maxRecDepth 100000 in
theorem JAdd_ok (h : Jr w jb A n c gone cap xs) (x : Ent) (hx : okE x = true) (hnc : n ≠ cap) (hg : gone ≤ 1000000000000) (hn : n ≤ 100000) : Calls Try.prog 15 #[.pointer (some ⟨jb, 0, none⟩), x.val] w fun e w' => e = .returned (.tuple #[.int .i64 ((gone : Int) + n + 1), .int .i64 0]) ∧ ∃ A' c', Jr w' jb A' (n + 1) c' gone cap (xs ++ [x]) ∧ Ch (JS jb A) w w' ∧ ∀ a, A' = some a → (∃ a0, A = some a0 ∧ a0.block = a.block) ∨ w.heap.size ≤ a.block := by
  have hB : EBox (w.alloc (.cells x.enc.toArray 32)) w.heap.size x := (Blk.new w 32 x.enc).ebox
  have hC : Ch No w (w.alloc (.cells x.enc.toArray 32)) := (Ch.refl No w).alloc _
  have hK := fun w => Check_any x w
  rw [show errE x = 0 from by unfold errE; rw [hx]; rfl] at hK
  have HJ := Lib.hid h
  have hjl := h.lt
  have HF := Lib.hid (fun (w' : World) (h : Jr w' jb A n c gone cap xs) => by have := JFull_any h; rw [decide_eq_false hnc] at this; exact this)
  simp only [Ent.enc] at hB hC
  obtain ⟨b0, hb0⟩ : ∃ b, w.heap.size = b := ⟨_, rfl⟩
  rw [hb0] at hB
  unfold Ent.val at hK ⊢
  have HBX := Lib.hid hB
  obtain ⟨a0, a1, a2, a3, a4, a5⟩ := hB
  clear hx h hnc
  go_enter Try.func15, Try.ntmps15
  go_wp2_with fail
  refine (hK _).mono ?_
  rintro e w1 ⟨rfl, h1⟩
  have H1 := Lib.hid (And.intro (hC.trans h1) (HBX.out.no h1))
  clear h1 hC hK a0 a1 a2 a3 a4 a5 HBX
  go_wp2_with fail
  refine (HF.out _ (HJ.out.no H1.out.1)).mono ?_
  rintro e w2 ⟨rfl, h2⟩
  have H2 := Lib.hid (And.intro (HJ.out.no (H1.out.1.trans h2)) (And.intro (H1.out.1.trans h2) (H1.out.2.no h2)))
  clear h2 H1 HF
  go_upto_region 6 with fail
  have HS : Hid (w2.cell? ⟨jb, 0, none⟩ = some (.slice A n c) ∧ w2.cell? ⟨b0, 0, none⟩ = some (.int .i64 x.t) ∧ w2.cell? ⟨b0, 1, none⟩ = some (.int .i64 x.arg) ∧ w2.cell? ⟨b0, 2, none⟩ = some (.int .i64 x.tenant) ∧ w2.cell? ⟨b0, 3, none⟩ = some (.int .i64 x.person) ∧ w2.cell? ⟨b0, 4, none⟩ = some (.int .i64 x.kind) ∧ w2.cell? ⟨b0, 5, none⟩ = some (.int .i64 x.code)) := Lib.hid ⟨H2.out.1.c0, H2.out.2.2⟩
  have HT : Hid (Tl (w2.alloc (.cells x.enc.toArray 32)).drew (jb + 1) 6 A n c (flatE xs)) := Lib.hid (H2.out.1.row.no ((Ch.refl No w2).alloc _).drew)
  have HSRC : Hid (∀ j u, x.enc[j]? = some u → (w2.alloc (.cells x.enc.toArray 32)).drew.cell? ((⟨w2.heap.size, 0, none⟩ : Addr).add j) = some u) := Lib.hid (blk_src (w := (w2.alloc (.cells x.enc.toArray 32)).drew) (Blk.new w2 32 x.enc))
  have HWA : Hid (Ch No w2 (w2.alloc (.cells x.enc.toArray 32)).drew) := Lib.hid ((Ch.refl No w2).alloc _).drew
  have HJA : Hid (Jr (w2.alloc (.cells x.enc.toArray 32)).drew jb A n c gone cap xs) := Lib.hid (H2.out.1.no HWA.out)
  have hnj : ¬ (Value.slice A n c).ownBlock = some jb := fun h => by have := (own_blk HT.out _ h).1; omega
  have hnb : ¬ (Value.slice A n c).ownBlock = some b0 := fun h => by have := (own_blk HJ.out.row _ h).2.1; omega
  have HNJ := Lib.hid (And.intro hnj hnb)
  clear hnj hnb
  have HBA : Hid (EBox (w2.alloc (.cells x.enc.toArray 32)).drew b0 x) := Lib.hid (H2.out.2.2.no HWA.out)
  have kk0 := H2.out.1.c0
  have kk1 : (w2.alloc (.cells #[.int .i64 x.t, .int .i64 x.arg, .int .i64 x.tenant, .int .i64 x.person, .int .i64 x.kind, .int .i64 x.code] 32)).cell? ⟨jb, 0, none⟩ = some (.slice A n c) := cell_al _ kk0
  obtain ⟨a0, a1, a2, a3, a4, a5⟩ := H2.out.2.2
  go_region_law ((refine step_appT (by rfl) (.tmp 18) (.tmp 20) 45 32 (by rfl) Ent.zero.val 6 48 Try.underlying45 infoEn (by rfl) (by decide) (jb + 1) A n c (flatE xs) (by rfl) HT.out ⟨w2.heap.size, 0, none⟩ 1 x.enc (by rfl) (by rfl) HSRC.out (enc_one x) (by simp [maxLen]; omega) (by omega) HJA.out.lt ?_; intro A9 c9 w9 o9 h9 n9; have HS9 := Lib.hid (And.intro (h9.cell HJA.out.c0 HNJ.out.1) (HBA.out.chT h9 HNJ.out.2)); have hc9 := h9.cell HJA.out.c0 HNJ.out.1; have hf9 := h9.frozen (a := ⟨jb, 0, none⟩) HJA.out.lt (HJA.out.fz 0) HNJ.out.1; have HR9 := Lib.hid (And.intro o9 (And.intro h9 (And.intro n9 (And.intro (h9.cell HJA.out.c1 HNJ.out.1) (And.intro (h9.cell HJA.out.c2 HNJ.out.1) (And.intro (fun i => h9.frozen (a := ⟨jb, i, none⟩) HJA.out.lt (HJA.out.fz i) HNJ.out.1) (Nat.lt_of_lt_of_le HJA.out.lt h9.size))))))); clear o9 h9 n9))
  all_goals (
    have hJ9 : Jr (w9.setCell ⟨jb, 0, none⟩ (.slice A9 (n + 1) c9)) jb A9 (n + 1) c9 gone cap (xs ++ [x]) := jr_set hc9 HR9.out.2.2.2.1 HR9.out.2.2.2.2.1 HR9.out.2.2.2.2.2.1 HR9.out.2.2.2.2.2.2 (by rw [flatE_snoc]; exact HR9.out.1) (by rw [List.length_append, HJ.out.nn]; rfl)
    have hC9 : Ch (JS jb A) w (w9.setCell ⟨jb, 0, none⟩ (.slice A9 (n + 1) c9)) := ((jr_ch (H2.out.2.1.trans HWA.out)).trans' HR9.out.2.1 (fun i _ he => .inr (own_blk HT.out i he).2.2)).setCell (fun _ => .inl rfl) _
    have hn9 : ∀ a, A9 = some a → (∃ a0, A = some a0 ∧ a0.block = a.block) ∨ w.heap.size ≤ a.block := fun a ha => (HR9.out.2.2.1 a ha).imp (fun h => (own_blk HT.out _ h).2.2) (fun h => Nat.le_trans (H2.out.2.1.trans HWA.out).size h)
    have hX := JNext_any hJ9 hg (by omega)
    rw [show (gone : Int) + ((n + 1 : Nat) : Int) + 1 = (gone : Int) + n + 2 from by omega] at hX
    have HF := Lib.hid (And.intro hJ9 (And.intro hC9 (And.intro hn9 hX)))
    clear hJ9 hC9 hn9 hX HR9 HS9 hc9 hf9 kk0 kk1 a0 a1 a2 a3 a4 a5
    generalize w9.setCell ⟨jb, 0, none⟩ (.slice A9 (n + 1) c9) = w10 at *
    go_wp2_with fail
    refine HF.out.2.2.2.mono ?_
    rintro e w11 ⟨rfl, h11⟩
    have HE := Lib.hid (And.intro (HF.out.1.no h11) (And.intro (HF.out.2.1.trans (jr_ch h11)) HF.out.2.2.1))
    clear h11 HF
    go_wp2_with fail
    refine bodyPost_ret (v := .tuple #[.int .i64 ((gone : Int) + n + 1), .int .i64 0]) (by simp [results, Try.f15, go_sem]; omega) rfl ?_
    exact ⟨rfl, A9, c9, HE.out.1, HE.out.2.1, HE.out.2.2⟩)
end
end Go.Proofs.Ytflpelacjdnplaa
