/- two journals at once. -/
import Derived.Test.YtflpelacjdnplaaJrnAlive
namespace Go.Proofs.Ytflpelacjdnplaa
open Go.RowKit

/-- two journals that have nothing in common, and guests (blocks) that neither has -/
def Tw (G : Nat → Prop) (W w : World) (ja jb na ga nb gb C : Nat) (La Lb : List Ent) : Prop := ∃ Aa ca Ab cb, Jr w ja Aa na ca ga C La ∧ Jr w jb Ab nb cb gb C Lb ∧ (∀ k, JS ja Aa k → ¬ JS jb Ab k) ∧ Ch No W w ∧ W.heap.size ≤ ja ∧ W.heap.size ≤ jb ∧ ∀ k, G k → k < w.heap.size ∧ ¬ JS ja Aa k ∧ ¬ JS jb Ab k
section
variable {G : Nat → Prop} {W w : World} {ja jb na ga nb gb C : Nat} {La Lb : List Ent}
theorem Tw.swap (h : Tw G W w ja jb na ga nb gb C La Lb) : Tw G W w jb ja nb gb na ga C Lb La := by
  obtain ⟨Aa, ca, Ab, cb, h1, h2, h3, h4, h5, h6, h7⟩ := h
  exact ⟨Ab, cb, Aa, ca, h2, h1, fun k hk hj => h3 k hj hk, h4, h6, h5, fun k hk => ⟨(h7 k hk).1, (h7 k hk).2.2, (h7 k hk).2.1⟩⟩
theorem Tw.no {w' : World} (h : Tw G W w ja jb na ga nb gb C La Lb) (c : Ch No w w') : Tw G W w' ja jb na ga nb gb C La Lb := by
  obtain ⟨Aa, ca, Ab, cb, h1, h2, h3, h4, h5, h6, h7⟩ := h
  exact ⟨Aa, ca, Ab, cb, h1.no c, h2.no c, h3, h4.trans c, h5, h6, fun k hk => ⟨Nat.lt_of_lt_of_le (h7 k hk).1 c.size, (h7 k hk).2⟩⟩
theorem Tw.ch (h : Tw G W w ja jb na ga nb gb C La Lb) : Ch No W w := by
  obtain ⟨_, _, _, _, _, _, _, h, _⟩ := h
  exact h
theorem jr_lt {jb n c gone cap : Nat} {A : Option Addr} {xs : List Ent} (h : Jr w jb A n c gone cap xs) : ∀ k, JS jb A k → k < w.heap.size := by
  rintro k (rfl | ⟨a, ha, rfl⟩)
  · exact h.lt
  · exact (h.row.blk a ha).2
theorem twAdd {w0 : World} (h : Tw G W w0 ja jb na ga nb gb C La Lb) (hc : Ch No w0 w) (x : Ent) (b : Nat) (hb : w0.heap.size ≤ b) (hE : EBox w b x) (hx : okE x = true) (hk : na ≠ C) (hg : ga ≤ 1000000000000) (hl : na ≤ 100000) (v : Int) (hv : v = (ga : Int) + na + 1) : Calls Try.prog 15 #[.pointer (some ⟨ja, 0, none⟩), x.val] w fun e w' => e = .returned (.tuple #[.int .i64 v, .int .i64 0]) ∧ Tw G W w' ja jb (na + 1) ga nb gb C (La ++ [x]) Lb ∧ EBox w' b x ∧ Ch (fun k => ¬ G k) w w' := by
  obtain ⟨Aa, ca, Ab, cb, h1, h2, h3, h4, h5, h6, h7⟩ := h
  rw [hv]
  refine (JAdd_ok (h1.no hc) x hx hk hg hl).mono ?_
  rintro e w' ⟨rfl, A', c', q2, q3, q4⟩
  have hbn : ¬ JS ja Aa b := fun h => by have := jr_lt h1 b h; omega
  have hab : ∀ k, JS jb Ab k → ¬ JS ja Aa k := fun k hk hj => h3 k hj hk
  refine ⟨rfl, ⟨A', c', Ab, cb, q2, (h2.no hc).chS q3 (hab jb (.inl rfl)) (fun a ha => hab a.block (.inr ⟨a, ha, rfl⟩)), fun k hk hj => ?_, js_no (h4.trans hc) (h1.no hc) h5 q3, h5, h6, fun k hk => ⟨Nat.lt_of_lt_of_le (h7 k hk).1 (Nat.le_trans hc.size q3.size), fun hj => ?_, (h7 k hk).2.2⟩⟩, hE.chT q3 hbn, q3.mono (fun k _ hk hG => (h7 k hG).2.1 hk)⟩
  · have hkl := jr_lt h2 k hj
    rcases hk with rfl | ⟨a, ha, rfl⟩
    · exact h3 _ (.inl rfl) hj
    · rcases q4 a ha with ⟨a0, ha0, h0⟩ | h0
      · exact h3 _ (.inr ⟨a0, ha0, h0⟩) hj
      · have := hc.size
        omega
  · have h8 := h7 k hk
    rcases hj with rfl | ⟨a, ha, rfl⟩
    · exact h8.2.1 (.inl rfl)
    · rcases q4 a ha with ⟨a0, ha0, h0⟩ | h0
      · exact h8.2.1 (.inr ⟨a0, ha0, h0⟩)
      · have := hc.size
        omega
theorem twAddG {w0 : World} (h : Tw G W w0 ja jb na ga nb gb C La Lb) (hc : Ch No w0 w) (x : Ent) (hx : okE x = true) (hk : na ≠ C) (hg : ga ≤ 1000000000000) (hl : na ≤ 100000) (v : Int) (hv : v = (ga : Int) + na + 1) : Calls Try.prog 15 #[.pointer (some ⟨ja, 0, none⟩), x.val] w fun e w' => e = .returned (.tuple #[.int .i64 v, .int .i64 0]) ∧ Tw G W w' ja jb (na + 1) ga nb gb C (La ++ [x]) Lb ∧ Ch (fun k => ¬ G k) w w' := by
  obtain ⟨Aa, ca, Ab, cb, h1, h2, h3, h4, h5, h6, h7⟩ := h
  rw [hv]
  refine (JAdd_ok (h1.no hc) x hx hk hg hl).mono ?_
  rintro e w' ⟨rfl, A', c', q2, q3, q4⟩
  have hab : ∀ k, JS jb Ab k → ¬ JS ja Aa k := fun k hk hj => h3 k hj hk
  refine ⟨rfl, ⟨A', c', Ab, cb, q2, (h2.no hc).chS q3 (hab jb (.inl rfl)) (fun a ha => hab a.block (.inr ⟨a, ha, rfl⟩)), fun k hk hj => ?_, js_no (h4.trans hc) (h1.no hc) h5 q3, h5, h6, fun k hk => ⟨Nat.lt_of_lt_of_le (h7 k hk).1 (Nat.le_trans hc.size q3.size), fun hj => ?_, (h7 k hk).2.2⟩⟩, q3.mono (fun k _ hk hG => (h7 k hG).2.1 hk)⟩
  · have hkl := jr_lt h2 k hj
    rcases hk with rfl | ⟨a, ha, rfl⟩
    · exact h3 _ (.inl rfl) hj
    · rcases q4 a ha with ⟨a0, ha0, h0⟩ | h0
      · exact h3 _ (.inr ⟨a0, ha0, h0⟩) hj
      · have := hc.size
        omega
  · have h8 := h7 k hk
    rcases hj with rfl | ⟨a, ha, rfl⟩
    · exact h8.2.1 (.inl rfl)
    · rcases q4 a ha with ⟨a0, ha0, h0⟩ | h0
      · exact h8.2.1 (.inr ⟨a0, ha0, h0⟩)
      · have := hc.size
        omega
theorem twBad (h : Tw G W w ja jb na ga nb gb C La Lb) (x : Ent) (hx : okE x = false) (p : Option Addr) : Calls Try.prog 15 #[.pointer p, x.val] w fun e w' => e = .returned (.tuple #[.int .i64 0, .int .i64 23]) ∧ Tw G W w' ja jb na ga nb gb C La Lb :=
  (JAdd_bad x hx w p).mono fun _ _ ⟨h1, h2⟩ => ⟨h1, h.no h2⟩
theorem twTrim (h : Tw G W w ja jb na ga nb gb C La Lb) (upto : Int) (hg : ga ≤ 1000000000000) (hl : na ≤ 100000) : Calls Try.prog 17 #[.pointer (some ⟨ja, 0, none⟩), .int .i64 upto] w fun e w' => e = .returned (.int .i64 (trimK upto ga na)) ∧ Tw G W w' ja jb (na - trimK upto ga na) (ga + trimK upto ga na) nb gb C (La.drop (trimK upto ga na)) Lb ∧ Ch (fun k => ¬ G k) w w' := by
  obtain ⟨Aa, ca, Ab, cb, h1, h2, h3, h4, h5, h6, h7⟩ := h
  refine (JTrim_any h1 upto hg hl).mono ?_
  rintro e w' ⟨rfl, A', q2, q3, q4⟩
  have hjb : ¬ jb = ja := fun e => h3 ja (.inl rfl) (.inl e.symm)
  have hjs : ∀ k, JS ja A' k → JS ja Aa k := by
    rintro k (rfl | ⟨a, ha, rfl⟩)
    · exact .inl rfl
    · exact .inr (q4 a ha)
  exact ⟨rfl, ⟨A', _, Ab, cb, q2, h2.chS q3 hjb (fun a ha e => h3 ja (.inl rfl) (.inr ⟨a, ha, e⟩)), fun k hk hj => h3 k (hjs k hk) hj, only_no h4 h5 q3, h5, h6, fun k hk => ⟨Nat.lt_of_lt_of_le (h7 k hk).1 q3.size, fun h => (h7 k hk).2.1 (hjs k h), (h7 k hk).2.2⟩⟩, q3.mono (fun k _ hk hG => (h7 k hG).2.1 (.inl hk))⟩
theorem twLen (h : Tw G W w ja jb na ga nb gb C La Lb) : Calls Try.prog 18 #[.pointer (some ⟨ja, 0, none⟩)] w fun e w' => e = .returned (.int .i64 na) ∧ Tw G W w' ja jb na ga nb gb C La Lb ∧ Ch No w w' := by
  obtain ⟨Aa, ca, Ab, cb, h1, r⟩ := h
  exact (JLen_any h1).mono fun _ _ ⟨q1, q2⟩ => ⟨q1, Tw.no ⟨Aa, ca, Ab, cb, h1, r⟩ q2, q2⟩
theorem twFirst (h : Tw G W w ja jb na ga nb gb C La Lb) (hg : ga ≤ 1000000000000) (v : Int) (hv : v = (ga : Int) + 1) : Calls Try.prog 19 #[.pointer (some ⟨ja, 0, none⟩)] w fun e w' => e = .returned (.int .i64 v) ∧ Tw G W w' ja jb na ga nb gb C La Lb ∧ Ch No w w' := by
  obtain ⟨Aa, ca, Ab, cb, h1, r⟩ := h
  rw [hv]
  exact (JFirst_any h1 hg).mono fun _ _ ⟨q1, q2⟩ => ⟨q1, Tw.no ⟨Aa, ca, Ab, cb, h1, r⟩ q2, q2⟩
theorem twNext (h : Tw G W w ja jb na ga nb gb C La Lb) (hg : ga ≤ 1000000000000) (hl : na ≤ 1000000) (v : Int) (hv : v = (ga : Int) + na + 1) : Calls Try.prog 20 #[.pointer (some ⟨ja, 0, none⟩)] w fun e w' => e = .returned (.int .i64 v) ∧ Tw G W w' ja jb na ga nb gb C La Lb ∧ Ch No w w' := by
  obtain ⟨Aa, ca, Ab, cb, h1, r⟩ := h
  rw [hv]
  exact (JNext_any h1 hg hl).mono fun _ _ ⟨q1, q2⟩ => ⟨q1, Tw.no ⟨Aa, ca, Ab, cb, h1, r⟩ q2, q2⟩
theorem twGet {pre post : List Ent} {x : Ent} (h : Tw G W w ja jb na ga nb gb C (pre ++ x :: post) Lb) (hg : ga ≤ 1000000000000) (hn : na ≤ 1000000) (q : Nat) (hq : pre.length = q) (i : Int) (hi : i = (ga : Int) + q + 1) : Calls Try.prog 23 #[.pointer (some ⟨ja, 0, none⟩), .int .i64 i] w fun e w' => e = .returned (.tuple #[x.val, .int .i64 0]) ∧ Ch No w w' := by
  obtain ⟨Aa, ca, Ab, cb, h1, r⟩ := h
  exact JGet_in pre post x h1 hg hn q hq i hi
theorem twPage (h : Tw G W w ja jb na ga nb gb C La Lb) (hg : ga ≤ 1000000000000) (hn : na ≤ 1000000) (tenant f n : Int) : Calls Try.prog 26 #[.pointer (some ⟨ja, 0, none⟩), .int .i64 tenant, .int .i64 f, .int .i64 n] w fun e w' => ∃ A1 c1, e = .returned (.slice A1 (pageJ ga La tenant f n).length c1) ∧ Cls w' A1 (ints .i64 (pageJ ga La tenant f n)) ∧ Ch No w w' := by
  obtain ⟨Aa, ca, Ab, cb, h1, r⟩ := h
  refine (JPage_any w ja na ca ga C Aa La h1 hg hn tenant f n).mono ?_
  rintro e w' ⟨v, rfl, ho, hc⟩
  obtain ⟨A1, c1, rfl, hcl, _⟩ := ho.slice_ints
  exact ⟨A1, c1, rfl, hcl, hc⟩
theorem twNew {w1 w2 : World} {j1 j2 : Nat} (h0 : Ch No W w) (hb1 : w.heap.size ≤ j1) (q1 : Jr w1 j1 none 0 0 0 C []) (c1 : Ch No w w1) (hb2 : w1.heap.size ≤ j2) (q2 : Jr w2 j2 none 0 0 0 C []) (c2 : Ch No w1 w2) : Tw (fun _ => False) W w2 j1 j2 0 0 0 0 C [] [] := by
  have := q1.lt
  have h1 := h0.size
  have h2 := c1.size
  refine ⟨none, 0, none, 0, q1.no c2, q2, ?_, (h0.trans c1).trans c2, by omega, by omega, fun _ h => h.elim⟩
  rintro k (rfl | ⟨a, ha, _⟩) (h | ⟨b, hb, _⟩)
  · omega
  · cases hb
  · cases ha
  · cases ha
/-- other guests, what they had or new -/
theorem Tw.guests {G' : Nat → Prop} {w' : World} (h : Tw G W w ja jb na ga nb gb C La Lb) (hc : Ch G w w') (hn : ∀ k, G' k → k < w'.heap.size ∧ (G k ∨ w.heap.size ≤ k)) (hW : ∀ k, G k → W.heap.size ≤ k) : Tw G' W w' ja jb na ga nb gb C La Lb := by
  obtain ⟨Aa, ca, Ab, cb, h1, h2, h3, h4, h5, h6, h7⟩ := h
  refine ⟨Aa, ca, Ab, cb, h1.chS hc (fun hg => (h7 _ hg).2.1 (.inl rfl)) (fun a ha hg => (h7 _ hg).2.1 (.inr ⟨a, ha, rfl⟩)), h2.chS hc (fun hg => (h7 _ hg).2.2 (.inl rfl)) (fun a ha hg => (h7 _ hg).2.2 (.inr ⟨a, ha, rfl⟩)), h3, h4.trans' hc (fun i hi hg => by have := hW i hg; omega), h5, h6, fun k hk => ⟨(hn k hk).1, ?_⟩⟩
  rcases (hn k hk).2 with hg | hg
  · exact (h7 k hg).2
  · exact ⟨fun hj => by have := jr_lt h1 k hj; omega, fun hj => by have := jr_lt h2 k hj; omega⟩
end
end Go.Proofs.Ytflpelacjdnplaa
