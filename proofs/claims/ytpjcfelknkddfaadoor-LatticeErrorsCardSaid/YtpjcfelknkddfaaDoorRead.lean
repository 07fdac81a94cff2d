/- How any argument of a law reads: numbers, truth values, strings, structs, slices, slices in structs and in slices. -/
import Derived.Test.YtpjcfelknkddfaaDoorOpen
import Derived.OpenShut
namespace Go.Proofs.YtpjcfelknkddfaaDoor
open Go.ChangeShapes Go.WideShapes Go.RowKit

/-- a slice's cells, row by row: as many rows as it is long -/
def RowsAt (w : World) (a : Addr) (sz : Nat) (rows : List (List Value)) : Prop :=
  ∀ i r, rows[i]? = some r → r.length = sz ∧ ∀ j v, r[j]? = some v → w.cell? (a.add (i * sz + j)) = some v

def Rd (P : Program) (w : World) : Nat → TypeId → List Value → Prop
  | 0, _, _ => True
  | n + 1, t, cs =>
    match P.underlying t with
    | some .bool => ∃ b, cs = [.bool b]
    | some (.int k) => ∃ m, cs = [.int k m] ∧ (Lit.int k m).wf = true
    | some .string => ∃ s : ByteArray, cs = [.string s] ∧ s.size ≤ reachBytes
    | some (.slice e) => cs = [.slice none 0 0] ∨ ∃ a len cap rows, cs = [.slice (some a) len cap] ∧ len ≤ cap ∧ cap ≤ maxLen ∧ len * P.bytesOf e ≤ reachBytes ∧ rows.length = len ∧ RowsAt w a (P.cellsOf e) rows ∧ ∀ r ∈ rows, Rd P w n e r
    | some (.struct fs) => cs.length = P.cellsOf t ∧ ∀ f ∈ fs.toList, Rd P w n f.type ((cs.drop f.offset).take (P.cellsOf f.type))
    | _ => True

theorem weightsAll_mem {H : Type} {P : Program} {e : TypeId} {d : DataW H} : ∀ {l : List (DataW H)}, d ∈ l → ∀ n ∈ d.weights P e, n ∈ DataW.weightsAll P e l
  | x :: l, h, n, hn => by
    rw [DataW.weightsAll, List.mem_append]
    rcases List.mem_cons.1 h with rfl | h
    · exact .inl hn
    · exact .inr (weightsAll_mem h n hn)
theorem weightsEach_mem {H : Type} {P : Program} : ∀ {ts : List TypeId} {ds : List (DataW H)} {i : Nat} {t : TypeId} {d : DataW H}, ts[i]? = some t → ds[i]? = some d → ∀ n ∈ d.weights P t, n ∈ DataW.weightsEach P ts ds :=
  fun ht hd n hn => DataW.weights_mem_each ht hd n hn

theorem add_add (a : Addr) (i j : Nat) : (a.add i).add j = a.add (i + j) := by
  unfold Addr.add
  by_cases hi : i = 0
  · subst hi; simp
  · by_cases hj : j = 0
    · subst hj; simp [hi]
    · simp [hi, hj, Nat.add_assoc]

theorem rd_of_trod {H : Type} {enc : TypeId × Value → H} {P : Program} {w : World} {base : Nat} {spare : Nat → Bool} {held : Bool} : ∀ (N fuel : Nat) (t : TypeId) (cs : List Value) (d : DataW H) (ps : List MemPlace),
    DataW.trod enc P w base spare held fuel t cs = some (d, ps) → (∀ n ∈ d.weights P t, n ≤ reachBytes) → Rd P w N t cs := by
  intro N
  induction N with
  | zero => intros; trivial
  | succ N ih =>
    intro fuel t cs d ps h hw
    unfold Rd
    split
    · rename_i ht
      obtain ⟨b, hb, _⟩ := DataW.trod_bool ht h
      exact ⟨b, hb⟩
    · rename_i k ht
      obtain ⟨m, hm, _, hwf⟩ := DataW.trod_int ht h
      exact ⟨m, hm, hwf⟩
    · rename_i ht
      obtain ⟨s, hs, hx, _⟩ := DataW.trod_string ht h
      refine ⟨s, hs, ?_⟩
      have hd : d = .lit (.string s.data.toList) := (Prod.mk.inj hx).1
      subst hd
      have := hw s.data.toList.length (by simp [DataW.weights])
      simpa using this
    · rename_i e ht
      rcases DataW.trod_slice ht h with ⟨h0, _⟩ | ⟨a, len, cap, elems, rest, n, _, rfl, hx, hb, hl, hm, hlen, hel, hsp, hns⟩
      · exact .inl h0
      · right
        have hd : d = .slice (elems.map (·.1)) (rest.map (·.1)) := (Prod.mk.inj hx).1
        subst hd
        have hsz : (elems.length + rest.length) * P.bytesOf e ≤ reachBytes := hw _ (by simp [DataW.weights, ht])
        have each : ∀ i, i < len → ∃ row : List Value, w.cells? base (a.add (i * P.cellsOf e)) (P.cellsOf e) = some row ∧ Rd P w N e row := by
          intro i hi
          have h1 := hel i hi
          rw [List.getElem?_eq_getElem (by omega)] at h1
          rw [Option.bind_eq_some_iff] at h1
          obtain ⟨row, hr, hy⟩ := h1
          refine ⟨row, hr, ih n e row elems[i].1 elems[i].2 hy ?_⟩
          intro q hq
          refine hw q ?_
          have hmem : elems[i].1 ∈ elems.map (·.1) := List.mem_map.2 ⟨elems[i], List.getElem_mem _, rfl⟩
          simp only [DataW.weights, ht]
          exact List.mem_cons_of_mem _ (List.mem_append_left _ (weightsAll_mem hmem q hq))
        let f : Nat → List Value := fun i => (w.cells? base (a.add (i * P.cellsOf e)) (P.cellsOf e)).getD []
        refine ⟨a, len, cap, (List.range len).map f, rfl, hl, hm, ?_, by simp, ?_, ?_⟩
        · refine Nat.le_trans (Nat.mul_le_mul_right _ ?_) hsz
          omega
        · intro i r hr
          simp only [List.getElem?_map, Option.map_eq_some_iff] at hr
          obtain ⟨i', hi', rfl⟩ := hr
          have hlt : i < len := by
            have := (List.getElem?_eq_some_iff.1 hi').1
            simpa using this
          rw [List.getElem?_range hlt] at hi'
          obtain rfl : i = i' := by simpa using hi'
          obtain ⟨row, hrow, _⟩ := each i hlt
          have hf : f i = row := by simp [f, hrow]
          rw [hf]
          obtain ⟨_, h2, h3⟩ := World.cells?_some hrow
          refine ⟨h2, ?_⟩
          intro j v hj
          rw [← add_add]
          have hjl := (List.getElem?_eq_some_iff.1 hj).1
          rw [h3 j (by omega), hj]
        · intro r hr
          obtain ⟨i, hi, rfl⟩ := List.mem_map.1 hr
          obtain ⟨row, hrow, hrd⟩ := each i (by simpa using hi)
          have hf : f i = row := by simp [f, hrow]
          rw [hf]
          exact hrd
    · rename_i fs ht
      obtain ⟨xs, n, _, hx, hc, hxl, hall⟩ := DataW.trod_struct ht h
      refine ⟨hc, ?_⟩
      intro fd hfd
      obtain ⟨i, hi⟩ := List.getElem?_of_mem hfd
      have hi' : fs[i]? = some fd := by simpa using hi
      have h1 := hall i fd hi'
      have hil : i < xs.length := by
        rw [hxl]
        exact (Array.getElem?_eq_some_iff.1 hi').1
      rw [List.getElem?_eq_getElem hil] at h1
      refine ih n fd.type _ xs[i].1 xs[i].2 h1 ?_
      intro q hq
      have hd : d = .agg (xs.map (·.1)) := (Prod.mk.inj hx).1
      subst hd
      refine hw q ?_
      simp only [DataW.weights, ht]
      refine weightsEach_mem (i := i) (t := fd.type) (d := xs[i].1) ?_ ?_ q hq
      · simp [hi']
      · simp [List.getElem?_eq_getElem hil]
    · trivial

/-- a slice whose rows are known by what they hold -/
theorem slice_dec {α : Type} {P : Program} {W : World} {N sz B : Nat} {t e : TypeId} {v : Value} (enc : α → List Value) (Pa : α → Prop) (h : Rd P W (N + 1) t [v]) (ht : P.underlying t = some (.slice e)) (hsz : P.cellsOf e = sz) (hB : P.bytesOf e = B) (h0 : 0 < sz)
    (hrow : ∀ r, Rd P W N e r → ∃ x, r = enc x ∧ Pa x) :
    ∃ A cap xs, v = .slice A (xs : List α).length cap ∧ Rws W A sz (xs.map enc) ∧ (∀ x ∈ xs, Pa x) ∧ xs.length ≤ cap ∧ xs.length * B ≤ 140737488351232 := by
  unfold Rd at h
  rw [ht] at h
  simp only [hsz, hB] at h
  rcases h with h | ⟨a, len, cap, rows, hv, hl, hm, hb, hlen, hat, hr⟩
  · obtain rfl : v = .slice none 0 0 := by simpa using h
    exact ⟨none, 0, [], rfl, fun pre r post e => by simp at e, by simp, Nat.le_refl _, by simp⟩
  · obtain rfl : v = .slice (some a) len cap := by simpa using hv
    have hx : ∃ xs : List α, rows = xs.map enc ∧ ∀ x ∈ xs, Pa x := by
      clear hat hlen
      induction rows with
      | nil => exact ⟨[], rfl, by simp⟩
      | cons r rows ih =>
        obtain ⟨xs, e1, h1⟩ := ih (fun q hq => hr q (List.mem_cons_of_mem _ hq))
        obtain ⟨x, e2, h2⟩ := hrow r (hr r (by simp))
        refine ⟨x :: xs, by simp [e1, e2], ?_⟩
        intro y hy
        rcases List.mem_cons.1 hy with rfl | hy
        · exact h2
        · exact h1 y hy
    obtain ⟨xs, rfl, hp⟩ := hx
    have hlx : xs.length = len := by simpa using hlen
    subst hlx
    refine ⟨some a, cap, xs, rfl, ?_, hp, hl, hb⟩
    intro pre r post e
    have hi : (xs.map enc)[pre.length]? = some r := by rw [e]; simp
    obtain ⟨h1, h2⟩ := hat _ _ hi
    refine ⟨h1, ?_⟩
    obtain ⟨ab, ao, asp⟩ := a
    have hsp : asp = none := by
      cases asp with
      | none => rfl
      | some q =>
        exfalso
        have h3 : 0 < (xs.map enc).length := by rw [e, List.length_append, List.length_cons]; omega
        obtain ⟨h4, h5⟩ := hat 0 ((xs.map enc)[0]) (by simp [List.getElem?_eq_getElem h3])
        have h6 : 0 < ((xs.map enc)[0]).length := by omega
        have h7 := h5 0 (((xs.map enc)[0])[0]) (by simp)
        simp [Addr.add, World.cell?] at h7
        split at h7 <;> simp at h7
    subst hsp
    refine ⟨ab, ao, rfl, ?_⟩
    intro j u hj
    have h3 := h2 j u hj
    unfold Addr.add at h3
    split at h3
    · rename_i hz
      have : ao + pre.length * sz + j = ao := by omega
      rw [this]
      exact h3
    · rw [Nat.add_assoc]
      exact h3

theorem rd_int {P : Program} {W : World} {n : Nat} {t : TypeId} {k : IntKind} {c : Value} (h : Rd P W (n + 1) t [c]) (ht : P.underlying t = some (.int k)) : ∃ m, c = .int k m ∧ (Lit.int k m).wf = true := by
  unfold Rd at h
  rw [ht] at h
  obtain ⟨m, h1, h2⟩ := h
  exact ⟨m, by simpa using h1, h2⟩
theorem rd_bool {P : Program} {W : World} {n : Nat} {t : TypeId} {c : Value} (h : Rd P W (n + 1) t [c]) (ht : P.underlying t = some .bool) : ∃ b, c = .bool b := by
  unfold Rd at h
  rw [ht] at h
  obtain ⟨b, h1⟩ := h
  exact ⟨b, by simpa using h1⟩
theorem rd_struct {P : Program} {W : World} {n : Nat} {t : TypeId} {fs : Array Field} {cs : List Value} (h : Rd P W (n + 1) t cs) (ht : P.underlying t = some (.struct fs)) :
    cs.length = P.cellsOf t ∧ ∀ f ∈ fs.toList, Rd P W n f.type ((cs.drop f.offset).take (P.cellsOf f.type)) := by
  unfold Rd at h
  rw [ht] at h
  exact h
theorem wf_u8 {m : Int} (h : (Lit.int .u8 m).wf = true) : ∃ k : Nat, m = k ∧ k < 256 := by
  have := bounds_u8 h
  exact ⟨m.toNat, by omega, by omega⟩
theorem wf_u16 {m : Int} (h : (Lit.int .u16 m).wf = true) : ∃ k : Nat, m = k ∧ k < 65536 := by
  have := bounds_u16 h
  exact ⟨m.toNat, by omega, by omega⟩
theorem wf_u32 {m : Int} (h : (Lit.int .u32 m).wf = true) : ∃ k : Nat, m = k ∧ k < 4294967296 := by
  have := bounds_u32 h
  exact ⟨m.toNat, by omega, by omega⟩
theorem wf_u64 {m : Int} (h : (Lit.int .u64 m).wf = true) : ∃ k : Nat, m = k ∧ k < 18446744073709551616 := by
  have := bounds_u64 h
  exact ⟨m.toNat, by omega, by omega⟩
end Go.Proofs.YtpjcfelknkddfaaDoor
