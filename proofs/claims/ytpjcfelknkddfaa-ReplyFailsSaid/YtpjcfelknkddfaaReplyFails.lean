/- ReplyFails: a reply of an error; a reply with a number more: the walk. -/
import Derived.Test.YtpjcfelknkddfaaRepArg
import Derived.Test.YtpjcfelknkddfaaPert
import Derived.Deep.Cut
namespace Go.Proofs.Ytpjcfelknkddfaa
open Go.RowKit

theorem appK {P : Program} {ops : Array Oper} {Q : Exit → Act → World → Prop} {a : Act} {w : World} {rest : List Oper} {o : Oper} (hgd : o.guard = none) (s x : Operand) (t e : TypeId)
    (ho : o.op = .call { callee := .builtin .append, args := #[s, x], argTypes := #[t, t] }) (k : IntKind) (z : Int) (bytes : Nat)
    (ht : P.underlying t = some (.slice e)) (hinfo : (P.info? e).map (fun i => (i.zero, i.size, i.bytes)) = some (some (.int k z), 1, bytes))
    (B : Nat) (A0 : Option Addr) (c0 n : Nat) (ys : List Int) (hyn : ys.length = n) (hs : a.eval s = .slice A0 n c0) (hown : OwnS w B e (.slice A0 n c0) (ints k ys)) (A : Option Addr) (c m : Nat) (xs : List Int) (hxm : xs.length = m) (hx : a.eval x = .slice A m c) (hsrc : Cls w A (ints k xs))
    (hn : n + m ≤ maxLen) (hb : (n + m) * bytes ≤ 140737488355328) (hB : B ≤ w.heap.size)
    (h : ∀ A' c' w', OwnS w' B e (.slice A' (n + m) c') (ints k (ys ++ xs)) → Ch (fun i => (Value.slice A0 n c0).ownBlock = some i) w w' → wpList P ops Q rest (a.put o.dst (.slice A' (n + m) c')) w') :
    wpList P ops Q (o :: rest) a w := by
  subst hyn
  subst hxm
  refine appI hgd s x t e ho k z bytes ht hinfo B A0 c0 ys hs hown A c xs hx hsrc hn hb hB ?_
  intro A' c' w' h1 h2 _
  rw [List.length_append] at h1
  exact h A' c' w' h1 h2

/-- the replies, and their bytes -/
structure FP (W w : World) (gx gy N : Nat) (A : Option Addr) (c : Nat) (xs : List Int) (A2 : Option Addr) (c2 : Nat) (ys : List Int) (A3 : Option Addr) (us : List Int) (A4 : Option Addr) (vs : List Int) : Prop where
  ch : Ch No W w
  bx : Blk w gx 24 [.int .i64 7, .slice A N c]
  b2 : Blk w gy 24 [.int .i64 7, .slice A2 (N + 1) c2]
  hx : Cls w A (ints .i64 xs)
  hy : Cls w A2 (ints .i64 ys)
  hu : Cls w A3 (ints .u8 us)
  hv : Cls w A4 (ints .u8 vs)
section
variable {W w w' : World} {gx gy N : Nat} {A : Option Addr} {c : Nat} {xs : List Int} {A2 : Option Addr} {c2 : Nat} {ys : List Int} {A3 : Option Addr} {us : List Int} {A4 : Option Addr} {vs : List Int}
theorem FP.no (h : FP W w gx gy N A c xs A2 c2 ys A3 us A4 vs) (hc : Ch No w w') : FP W w' gx gy N A c xs A2 c2 ys A3 us A4 vs :=
  ⟨h.ch.trans hc, h.bx.ch hc (fun h => h), h.b2.ch hc (fun h => h), h.hx.ch hc (fun _ _ h => h), h.hy.ch hc (fun _ _ h => h), h.hu.ch hc (fun _ _ h => h), h.hv.ch hc (fun _ _ h => h)⟩
theorem FP.x0 (h : FP W w gx gy N A c xs A2 c2 ys A3 us A4 vs) : w.cell? ⟨gx, 0, none⟩ = some (.int .i64 7) := h.bx.cell 0
theorem FP.x1 (h : FP W w gx gy N A c xs A2 c2 ys A3 us A4 vs) : w.cell? ⟨gx, 1, none⟩ = some (.slice A N c) := h.bx.cell 1
theorem FP.y0 (h : FP W w gx gy N A c xs A2 c2 ys A3 us A4 vs) : w.cell? ⟨gy, 0, none⟩ = some (.int .i64 7) := h.b2.cell 0
theorem FP.y1 (h : FP W w gx gy N A c xs A2 c2 ys A3 us A4 vs) : w.cell? ⟨gy, 1, none⟩ = some (.slice A2 (N + 1) c2) := h.b2.cell 1
end
theorem repB_mid (xs : List Int) (n : Int) : ((repB 7 (xs ++ [n])).drop 2).take (8 * xs.length) = numB xs := by
  unfold repB
  rw [List.drop_succ_cons, List.drop_succ_cons, List.drop_zero, numB_snoc, List.take_left' (numB_len _)]
theorem repB_end (xs : List Int) : (repB 7 xs).drop 2 = numB xs := rfl

set_option maxHeartbeats 16000000 in
set_option maxRecDepth 100000 in
theorem replyFails_core (W : World) (er : Int) (A : Option Addr) (c : Nat) (ns : List Int) (n : Int) (hx : Cls W A (ints .i64 ns)) (hnl : ns.length ≤ 140737488351232) (hw : -9223372036854775808 ≤ er ∧ er ≤ 9223372036854775807) :
    Calls Try.prog 6 #[.int .i64 er, .slice A ns.length c, .int .i64 n] W fun e w' => e = .returned (.bool true) ∧ Ch No W w' := by
  have al := fun w => repAlive_any w
  obtain ⟨N, hN⟩ : ∃ N, ns.length = N := ⟨_, rfl⟩
  have HX := Lib.hid (And.intro hN hx)
  rw [hN] at hnl ⊢
  clear hN hx
  go_enter Try.func6, Try.ntmps6
  go_wp2_with fail
  refine (al _).mono ?_
  rintro e w1 ⟨rfl, h1⟩
  have C1 := Lib.hid h1
  clear h1 al
  by_cases h119 : 119 < N
  · go_wp2_with fail
    go_ret
    exact ⟨rfl, C1.out⟩
  go_wp2_with fail
  refine (Fail_any er _).mono ?_
  rintro e w2 ⟨rfl, h2⟩
  have C2 := Lib.hid (And.intro ((C1.out.trans h2).alloc (.cells #[.int .i64 er, .slice none 0 0] 24)) (Blk.new w2 24 [.int .i64 er, .slice none 0 0]))
  clear h2 C1
  have k0 := C2.out.2.cell 0
  have k1 := C2.out.2.cell 1
  simp only [List.getElem?_cons_zero, List.getElem?_cons_succ] at k0 k1
  go_wp2_with fail
  refine (RepW_any er none 0 [] _ (Cls.nil _ _) (by simp)).mono ?_
  rintro e w3 ⟨A3, c3, rfl, _, h3⟩
  have C3 := Lib.hid (And.intro (C2.out.1.trans h3) (C2.out.2.ch h3 (fun h => h)))
  clear h3 C2 k0 k1
  have k0 := C3.out.2.cell 0
  have k1 := C3.out.2.cell 1
  simp only [List.getElem?_cons_zero, List.getElem?_cons_succ] at k0 k1
  obtain ⟨we, hwe⟩ : ∃ we, wErr er ([] : List Int).length = we := ⟨_, rfl⟩
  obtain ⟨wl, hwl⟩ : ∃ wl, (wOut er []).length = wl := ⟨_, rfl⟩
  have hcase : (er < 0 ∧ we = 23) ∨ (0 ≤ er ∧ er ≤ 255 ∧ we = 0 ∧ wl = 2) ∨ (0 ≤ er ∧ 255 < er ∧ we = 23) := by
    rw [← hwe, ← hwl]
    by_cases h1 : er < 0
    · refine .inl ⟨h1, ?_⟩
      unfold wErr
      rw [if_neg (by omega)]
    · by_cases h2 : er ≤ 255
      · have e0 : wErr er ([] : List Int).length = 0 := by
          unfold wErr
          rw [if_pos ⟨by omega, h2⟩, if_neg (by simp)]
        refine .inr (.inl ⟨by omega, h2, e0, ?_⟩)
        unfold wOut
        rw [if_pos e0, repB_len]
        rfl
      · refine .inr (.inr ⟨by omega, by omega, ?_⟩)
        unfold wErr
        rw [if_neg (by omega)]
  rw [hwe, hwl]
  clear hwe hwl
  rcases hcase with ⟨h1, rfl⟩ | ⟨h1, h2, rfl, rfl⟩ | ⟨h1, h2, rfl⟩
  · go_upto_region 9 with fail
    clear k0 k1 h1
    try clear h2
    have C4 : Hid (Ch No W (w3.alloc (.cells #[.int .i64 7, .slice A N c] 24)) ∧ Blk (w3.alloc (.cells #[.int .i64 7, .slice A N c] 24)) w3.heap.size 24 [.int .i64 7, .slice A N c]) := Lib.hid ⟨C3.out.1.alloc _, Blk.new w3 24 [.int .i64 7, .slice A N c]⟩
    have lx := C4.out.2.lt
    clear C3
    go_upto_region 10 with fail
    generalize w3.alloc (.cells #[.int .i64 7, .slice A N c] 24) = w4 at *
    generalize w3.heap.size = gx at *
    have o5 : OwnS (w4.alloc (.cells #[] 2)) w4.heap.size 2 (.slice (some ⟨w4.heap.size, 0, none⟩) 0 0) (ints .i64 []) := by simpa [ints] using OwnS.lit w4 w4.heap.size 2 [] (Nat.le_refl _) (by simp)
    go_wp2_with (at_builtin; refine appK rfl _ _ 22 2 rfl .i64 0 8 Try.underlying22 i64info w4.heap.size (some ⟨w4.heap.size, 0, none⟩) 0 0 [] rfl rfl o5 A c N ns HX.out.1 rfl (HX.out.2.ch (C4.out.1.alloc _) (fun _ _ h => h)) (by simp [maxLen]; omega) (by omega) (by simp) ?_)
    intro A5 c5 w5 o5' h5
    have C5 : Ch No w4 w5 := ((Ch.refl No w4).alloc _).trans' h5 (fun i hi he => by
      have he' : w4.heap.size = i := by simpa [Value.ownBlock] using he
      omega)
    try simp only [Nat.zero_add, List.nil_append] at o5'
    have H5 := Lib.hid (And.intro o5' C5)
    clear o5 o5' h5 C5
    try simp only [Nat.zero_add]
    have hsz5 := H5.out.2.size
    go_wp2_with (at_builtin; refine appK rfl _ _ 22 2 rfl .i64 0 8 Try.underlying22 i64info w4.heap.size A5 c5 N ns HX.out.1 rfl (H5.out.1.alloc _) (some ⟨w5.heap.size, 0, none⟩) 1 1 [n] rfl rfl (Cls.lit w5 2 [.int .i64 n]) (by simp [maxLen]; omega) (by omega) (by simp; omega) ?_)
    intro A6 c6 w6 o6 h6
    have C6 : Ch No w4 w6 := (H5.out.2.alloc _).trans' h6 (fun i hi he => by have := (H5.out.1.ge i he).1; omega)
    have C7 : Hid (Ch No W (w6.alloc (.cells #[.int .i64 7, .slice A6 (N + 1) c6] 24)) ∧ Blk (w6.alloc (.cells #[.int .i64 7, .slice A6 (N + 1) c6] 24)) gx 24 [.int .i64 7, .slice A N c] ∧ Blk (w6.alloc (.cells #[.int .i64 7, .slice A6 (N + 1) c6] 24)) w6.heap.size 24 [.int .i64 7, .slice A6 (N + 1) c6] ∧ Cls (w6.alloc (.cells #[.int .i64 7, .slice A6 (N + 1) c6] 24)) A6 (ints .i64 (ns ++ [n]))) :=
      Lib.hid ⟨(C4.out.1.trans C6).alloc _, (C4.out.2.ch C6 (fun h => h)).alloc _, Blk.new w6 24 [.int .i64 7, .slice A6 (N + 1) c6], o6.cls.1.ch ((Ch.refl No w6).alloc _) (fun _ _ h => h)⟩
    clear o6 h6 C6 H5 C4 hsz5
    go_upto_region 11 with fail
    generalize w6.alloc (.cells #[.int .i64 7, .slice A6 (N + 1) c6] 24) = w7 at *
    generalize w6.heap.size = gy at *
    have k0 := C7.out.2.1.cell 0
    have k1 := C7.out.2.1.cell 1
    simp only [List.getElem?_cons_zero, List.getElem?_cons_succ] at k0 k1
    go_wp2_with fail
    have q := RepW_any 7 A c ns w7 (HX.out.2.ch C7.out.1 (fun _ _ h => h)) (by rw [HX.out.1]; omega)
    rw [HX.out.1, show wErr 7 N = 0 from by unfold wErr; rw [if_pos (by omega), if_neg (by omega)]] at q
    have hwx : wOut 7 ns = repB 7 ns := by
      unfold wOut
      rw [if_pos (by unfold wErr; rw [if_pos (by omega), if_neg (by rw [HX.out.1]; omega)])]
    rw [hwx] at q
    unfold WriteP at q
    rw [repB_len, HX.out.1] at q
    refine q.mono ?_
    clear q hwx k0 k1
    rintro e w8 ⟨A8, c8, rfl, o8, h8⟩
    have hc8 := o8.cls
    rw [ints_length, repB_len, HX.out.1] at hc8
    have hlc8 := hc8.2.1
    have C8 : Hid (Ch No W w8 ∧ Blk w8 gx 24 [.int .i64 7, .slice A N c] ∧ Blk w8 gy 24 [.int .i64 7, .slice A6 (N + 1) c6] ∧ Cls w8 A6 (ints .i64 (ns ++ [n])) ∧ Cls w8 A8 (ints .u8 (repB 7 ns))) :=
      Lib.hid ⟨C7.out.1.trans h8, C7.out.2.1.ch h8 (fun h => h), C7.out.2.2.1.ch h8 (fun h => h), C7.out.2.2.2.ch h8 (fun _ _ h => h), hc8.1⟩
    clear hc8 o8 h8 C7
    have k0 := C8.out.2.2.1.cell 0
    have k1 := C8.out.2.2.1.cell 1
    simp only [List.getElem?_cons_zero, List.getElem?_cons_succ] at k0 k1
    go_wp2_with fail
    have hl1 : (ns ++ [n]).length = N + 1 := by simp [HX.out.1]
    have q := RepW_any 7 A6 c6 (ns ++ [n]) w8 C8.out.2.2.2.1 (by rw [hl1]; omega)
    rw [hl1, show wErr 7 (N + 1) = 0 from by unfold wErr; rw [if_pos (by omega), if_neg (by omega)]] at q
    have hwx : wOut 7 (ns ++ [n]) = repB 7 (ns ++ [n]) := by
      unfold wOut
      rw [if_pos (by unfold wErr; rw [if_pos (by omega), if_neg (by rw [hl1]; omega)])]
    rw [hwx] at q
    unfold WriteP at q
    rw [repB_len, hl1] at q
    refine q.mono ?_
    clear q hwx k0 k1
    rintro e w9 ⟨A9, c9, rfl, o9, h9⟩
    have hc9 := o9.cls
    rw [ints_length, repB_len, hl1] at hc9
    have hlc9 := hc9.2.1
    have FT : Hid (FP W w9 gx gy N A c ns A6 c6 (ns ++ [n]) A8 (repB 7 ns) A9 (repB 7 (ns ++ [n]))) :=
      Lib.hid ⟨C8.out.1.trans h9, C8.out.2.1.ch h9 (fun h => h), C8.out.2.2.1.ch h9 (fun h => h), HX.out.2.ch (C8.out.1.trans h9) (fun _ _ h => h), C8.out.2.2.2.1.ch h9 (fun _ _ h => h), C8.out.2.2.2.2.ch h9 (fun _ _ h => h), hc9.1⟩
    have HLN := Lib.hid hl1
    clear hc9 o9 h9 C8 hl1
    have qs := fun (w' : World) (h1 : Cls w' A (ints .i64 ns)) (h2 : Cls w' A6 (ints .i64 (ns ++ [n]))) => RepSame_any 7 A c ns 7 A6 c6 (ns ++ [n]) w' h1 h2 (by rw [HX.out.1]; omega)
    have qt := fun (w' : World) (h2 : Cls w' A6 (ints .i64 (ns ++ [n]))) => RepSame_any 7 A6 c6 (ns ++ [n]) 7 A6 c6 (ns ++ [n]) w' h2 h2 (by rw [HLN.out]; omega)
    rw [HX.out.1, HLN.out, decide_eq_false (fun h => by have := congrArg List.length h.2; simp at this)] at qs
    rw [HLN.out] at qt
    simp only [true_and, decide_true] at qt
    have qu : ∀ w' : World, FP W w' gx gy N A c ns A6 c6 (ns ++ [n]) A8 (repB 7 ns) A9 (repB 7 (ns ++ [n])) → Calls Try.prog 12 #[.slice (A9.map (·.add 2)) (8 * N) (c9 - 2), .slice (if c8 = 2 then A8 else A8.map (·.add 2)) (8 * N) (c8 - 2)] w' fun e w'' => e = .returned (.bool true) ∧ Ch No w' w'' := fun w' h => by
      have h1 : Cls w' (A9.map (·.add 2)) (ints .u8 (numB ns)) := by
        have := (h.hv.dropI 2).takeI (8 * N)
        rw [← ints_drop, ← ints_take, ← HX.out.1, repB_mid] at this
        exact this
      have h2 : Cls w' (if c8 = 2 then A8 else A8.map (·.add 2)) (ints .u8 (numB ns)) := by
        split
        · have h0 : (numB ns).length = 0 := by rw [numB_len, HX.out.1]; omega
          rw [List.eq_nil_of_length_eq_zero h0]
          exact Cls.nil _ _
        · have := h.hu.dropI 2
          rw [← ints_drop, repB_end] at this
          exact this
      have q := Same_any w' (A9.map (·.add 2)) (c9 - 2) (numB ns) (if c8 = 2 then A8 else A8.map (·.add 2)) (c8 - 2) (numB ns) h1 h2 (numB_isB ns) (numB_isB ns)
      rw [numB_len, HX.out.1] at q
      simp only [decide_true] at q
      exact q.mono fun e w'' k => ⟨k.1, k.2 ▸ Ch.refl _ _⟩
    have HSm := Lib.hid (And.intro qs (And.intro qt qu))
    clear qs qt qu
    go_upto_region 13 with fail
    refine region_pert (T := fun w' => FP W w' gx gy N A c ns A6 c6 (ns ++ [n]) A8 (repB 7 ns) A9 (repB 7 (ns ++ [n]))) (s := 34) (by kernel_rfl) (fun hT => ?_) (FT.out.no (Ch.refl No w9).drew)
    clear FT
    generalize w9.drew = wd at *
    refine wpP_take [34] (i := 0) (v := ?v0a) rfl (by kernel_rfl) (by kernel_rfl) (by kernel_rfl) (fun w w' h hc => h.no hc) (fun _ _ _ h => by cases h.1) _ _ _ _ (by kernel_rfl) (by kernel_rfl) (by kernel_rfl) (Or.inl ⟨by kernel_rfl, fun w' hw' => ?y0a⟩) hT ?r0a
    case y0a =>
      go_simp
      all_goals first | exact quiet_value | exact ⟨rfl, Ch.refl _ _⟩
    case r0a =>
      simp only [Act.put]
      refine wpP_take [34] (i := 1) (v := .bool true) rfl (by kernel_rfl) (by kernel_rfl) (by kernel_rfl) (fun w w' h hc => h.no hc) (fun _ _ _ h => by cases h.1) _ _ _ _ (by kernel_rfl) (by kernel_rfl) (by kernel_rfl) (Or.inl ⟨by kernel_rfl, fun w' hw' => ?y1a⟩) hT ?r1a
      case y1a =>
        go_simp
        all_goals first | exact quiet_value | exact ⟨rfl, Ch.refl _ _⟩
      case r1a =>
        simp only [Act.put]
        refine wpP_take [34] (i := 2) (v := .bool true) rfl (by kernel_rfl) (by kernel_rfl) (by kernel_rfl) (fun w w' h hc => h.no hc) (fun _ _ _ h => by cases h.1) _ _ _ _ (by kernel_rfl) (by kernel_rfl) (by kernel_rfl) (Or.inl ⟨by kernel_rfl, fun w' hw' => ?y2a⟩) hT ?r2a
        case y2a =>
          go_simp
          all_goals first | exact quiet_value | exact ⟨rfl, Ch.refl _ _⟩
        case r2a =>
          simp only [Act.put]
          refine wpP_take [34] (i := 3) (v := ?v3a) rfl (by kernel_rfl) (by kernel_rfl) (by kernel_rfl) (fun w w' h hc => h.no hc) (fun _ _ _ h => by cases h.1) _ _ _ _ (by kernel_rfl) (by kernel_rfl) (by kernel_rfl) (Or.inl ⟨by kernel_rfl, fun w' hw' => ?y3a⟩) hT ?r3a
          case y3a =>
            go_simp
            all_goals first | exact quiet_value | exact ⟨rfl, Ch.refl _ _⟩
          case r3a =>
            simp only [Act.put]
            refine wpP_take [34] (i := 4) (v := .bool true) rfl (by kernel_rfl) (by kernel_rfl) (by kernel_rfl) (fun w w' h hc => h.no hc) (fun _ _ _ h => by cases h.1) _ _ _ _ (by kernel_rfl) (by kernel_rfl) (by kernel_rfl) (Or.inl ⟨by kernel_rfl, fun w' hw' => ?y4a⟩) hT ?r4a
            case y4a =>
              go_simp
              all_goals first | exact quiet_value | exact ⟨rfl, Ch.refl _ _⟩
            case r4a =>
              simp only [Act.put]
              refine wpP_take [34] (i := 5) (v := .bool true) rfl (by kernel_rfl) (by kernel_rfl) (by kernel_rfl) (fun w w' h hc => h.no hc) (fun _ _ _ h => by cases h.1) _ _ _ _ (by kernel_rfl) (by kernel_rfl) (by kernel_rfl) (Or.inl ⟨by kernel_rfl, fun w' hw' => ?y5a⟩) hT ?r5a
              case y5a =>
                go_simp
                all_goals first | exact quiet_value | exact ⟨rfl, Ch.refl _ _⟩
              case r5a =>
                simp only [Act.put]
                refine wpP_take [34] (i := 6) (v := .bool true) rfl (by kernel_rfl) (by kernel_rfl) (by kernel_rfl) (fun w w' h hc => h.no hc) (fun _ _ _ h => by cases h.1) _ _ _ _ (by kernel_rfl) (by kernel_rfl) (by kernel_rfl) (Or.inl ⟨by kernel_rfl, fun w' hw' => ?y6a⟩) hT ?r6a
                case y6a =>
                  go_simp
                  all_goals first | exact quiet_value | exact ⟨rfl, Ch.refl _ _⟩
                case r6a =>
                  simp only [Act.put]
                  refine wpP_take [34] (i := 7) (v := ?v7a) rfl (by kernel_rfl) (by kernel_rfl) (by kernel_rfl) (fun w w' h hc => h.no hc) (fun _ _ _ h => by cases h.1) _ _ _ _ (by kernel_rfl) (by kernel_rfl) (by kernel_rfl) (Or.inl ⟨by kernel_rfl, fun w' hw' => ?y7a⟩) hT ?r7a
                  case y7a =>
                    go_simp
                    all_goals first | exact quiet_value | exact ⟨rfl, Ch.refl _ _⟩
                  case r7a =>
                    simp only [Act.put]
                    refine wpP_take [34] (i := 8) (v := ?v8a) rfl (by kernel_rfl) (by kernel_rfl) (by kernel_rfl) (fun w w' h hc => h.no hc) (fun _ _ _ h => by cases h.1) _ _ _ _ (by kernel_rfl) (by kernel_rfl) (by kernel_rfl) (Or.inl ⟨by kernel_rfl, fun w' hw' => ?y8a⟩) hT ?r8a
                    case y8a =>
                      go_simp
                      all_goals first | exact quiet_value | exact ⟨rfl, Ch.refl _ _⟩
                    case r8a =>
                      simp only [Act.put]
                      refine wpP_take [34] (i := 9) (v := ?v9a) rfl (by kernel_rfl) (by kernel_rfl) (by kernel_rfl) (fun w w' h hc => h.no hc) (fun _ _ _ h => by cases h.1) _ _ _ _ (by kernel_rfl) (by kernel_rfl) (by kernel_rfl) (Or.inl ⟨by kernel_rfl, fun w' hw' => ?y9a⟩) hT ?r9a
                      case y9a =>
                        go_simp
                        all_goals first | exact quiet_value | exact ⟨rfl, Ch.refl _ _⟩
                      case r9a =>
                        simp only [Act.put]
                        refine wpP_take [34] (i := 10) (v := ?v10a) rfl (by kernel_rfl) (by kernel_rfl) (by kernel_rfl) (fun w w' h hc => h.no hc) (fun _ _ _ h => by cases h.1) _ _ _ _ (by kernel_rfl) (by kernel_rfl) (by kernel_rfl) (Or.inl ⟨by kernel_rfl, fun w' hw' => ?y10a⟩) hT ?r10a
                        case y10a =>
                          go_simp
                          all_goals first | exact quiet_value | exact ⟨rfl, Ch.refl _ _⟩
                        case r10a =>
                          simp only [Act.put]
                          refine wpP_take [34] (i := 11) (v := ?v11a) rfl (by kernel_rfl) (by kernel_rfl) (by kernel_rfl) (fun w w' h hc => h.no hc) (fun _ _ _ h => by cases h.1) _ _ _ _ (by kernel_rfl) (by kernel_rfl) (by kernel_rfl) (Or.inl ⟨by kernel_rfl, fun w' hw' => ?y11a⟩) hT ?r11a
                          case y11a =>
                            go_simp
                            all_goals first | exact quiet_value | exact ⟨rfl, Ch.refl _ _⟩
                          case r11a =>
                            simp only [Act.put]
                            refine wpP_take [34] (i := 12) (v := .bool true) rfl (by kernel_rfl) (by kernel_rfl) (by kernel_rfl) (fun w w' h hc => h.no hc) (fun _ _ _ h => by cases h.1) _ _ _ _ (by kernel_rfl) (by kernel_rfl) (by kernel_rfl) (Or.inl ⟨by kernel_rfl, fun w' hw' => ?y12a⟩) hT ?r12a
                            case y12a =>
                              have hw12 : IntKind.i64.wrap (2 + 8 * (N : Int) + 8) = 2 + 8 * ((N : Int) + 1) := by rw [IntKind.wrap_i64]; omega
                              go_simp
                              all_goals first | exact quiet_value | exact ⟨rfl, Ch.refl _ _⟩
                            case r12a =>
                              simp only [Act.put]
                              refine wpP_take [34] (i := 13) (v := .bool true) rfl (by kernel_rfl) (by kernel_rfl) (by kernel_rfl) (fun w w' h hc => h.no hc) (fun _ _ _ h => by cases h.1) _ _ _ _ (by kernel_rfl) (by kernel_rfl) (by kernel_rfl) (Or.inl ⟨by kernel_rfl, fun w' hw' => ?y13a⟩) hT ?r13a
                              case y13a =>
                                go_simp
                                all_goals first | exact quiet_value | exact ⟨rfl, Ch.refl _ _⟩
                              case r13a =>
                                simp only [Act.put]
                                refine wpP_take [34] (i := 14) (v := .bool true) rfl (by kernel_rfl) (by kernel_rfl) (by kernel_rfl) (fun w w' h hc => h.no hc) (fun _ _ _ h => by cases h.1) _ _ _ _ (by kernel_rfl) (by kernel_rfl) (by kernel_rfl) (Or.inl ⟨by kernel_rfl, fun w' hw' => ?y14a⟩) hT ?r14a
                                case y14a =>
                                  go_simp
                                  all_goals first | exact quiet_value | exact ⟨rfl, Ch.refl _ _⟩
                                case r14a =>
                                  simp only [Act.put]
                                  refine wpP_take [34] (i := 15) (v := ?v15a) rfl (by kernel_rfl) (by kernel_rfl) (by kernel_rfl) (fun w w' h hc => h.no hc) (fun _ _ _ h => by cases h.1) _ _ _ _ (by kernel_rfl) (by kernel_rfl) (by kernel_rfl) (Or.inl ⟨by kernel_rfl, fun w' hw' => ?y15a⟩) hT ?r15a
                                  case y15a =>
                                    have k0 := hw'.x0
                                    have k1 := hw'.x1
                                    go_simp
                                    all_goals first | exact quiet_value | exact ⟨rfl, Ch.refl _ _⟩
                                  case r15a =>
                                    simp only [Act.put]
                                    refine wpP_take [34] (i := 16) (v := ?v16a) rfl (by kernel_rfl) (by kernel_rfl) (by kernel_rfl) (fun w w' h hc => h.no hc) (fun _ _ _ h => by cases h.1) _ _ _ _ (by kernel_rfl) (by kernel_rfl) (by kernel_rfl) (Or.inl ⟨by kernel_rfl, fun w' hw' => ?y16a⟩) hT ?r16a
                                    case y16a =>
                                      have k0 := hw'.y0
                                      have k1 := hw'.y1
                                      go_simp
                                      all_goals first | exact quiet_value | exact ⟨rfl, Ch.refl _ _⟩
                                    case r16a =>
                                      simp only [Act.put]
                                      refine wpP_take [34] (i := 17) (v := .bool false) rfl (by kernel_rfl) (by kernel_rfl) (by kernel_rfl) (fun w w' h hc => h.no hc) (fun _ _ _ h => by cases h.1) _ _ _ _ (by kernel_rfl) (by kernel_rfl) (by kernel_rfl) (Or.inl ⟨by kernel_rfl, fun w' hw' => ?y17a⟩) hT ?r17a
                                      case y17a =>
                                        go_simp
                                        exact quiet_enter (HSm.out.1 _ hw'.hx hw'.hy)
                                      case r17a =>
                                        simp only [Act.put]
                                        refine wpP_take [34] (i := 18) (v := .bool true) rfl (by kernel_rfl) (by kernel_rfl) (by kernel_rfl) (fun w w' h hc => h.no hc) (fun _ _ _ h => by cases h.1) _ _ _ _ (by kernel_rfl) (by kernel_rfl) (by kernel_rfl) (Or.inl ⟨by kernel_rfl, fun w' hw' => ?y18a⟩) hT ?r18a
                                        case y18a =>
                                          go_simp
                                          all_goals first | exact quiet_value | exact ⟨rfl, Ch.refl _ _⟩
                                        case r18a =>
                                          simp only [Act.put]
                                          refine wpP_take [34] (i := 19) (v := .bool true) rfl (by kernel_rfl) (by kernel_rfl) (by kernel_rfl) (fun w w' h hc => h.no hc) (fun _ _ _ h => by cases h.1) _ _ _ _ (by kernel_rfl) (by kernel_rfl) (by kernel_rfl) (Or.inl ⟨by kernel_rfl, fun w' hw' => ?y19a⟩) hT ?r19a
                                          case y19a =>
                                            go_simp
                                            all_goals first | exact quiet_value | exact ⟨rfl, Ch.refl _ _⟩
                                          case r19a =>
                                            simp only [Act.put]
                                            refine wpP_take [34] (i := 20) (v := .bool true) rfl (by kernel_rfl) (by kernel_rfl) (by kernel_rfl) (fun w w' h hc => h.no hc) (fun _ _ _ h => by cases h.1) _ _ _ _ (by kernel_rfl) (by kernel_rfl) (by kernel_rfl) (Or.inl ⟨by kernel_rfl, fun w' hw' => ?y20a⟩) hT ?r20a
                                            case y20a =>
                                              go_simp
                                              all_goals first | exact quiet_value | exact ⟨rfl, Ch.refl _ _⟩
                                            case r20a =>
                                              simp only [Act.put]
                                              refine wpP_take [34] (i := 21) (v := ?v21a) rfl (by kernel_rfl) (by kernel_rfl) (by kernel_rfl) (fun w w' h hc => h.no hc) (fun _ _ _ h => by cases h.1) _ _ _ _ (by kernel_rfl) (by kernel_rfl) (by kernel_rfl) (Or.inl ⟨by kernel_rfl, fun w' hw' => ?y21a⟩) hT ?r21a
                                              case y21a =>
                                                have k0 := hw'.y0
                                                have k1 := hw'.y1
                                                go_simp
                                                all_goals first | exact quiet_value | exact ⟨rfl, Ch.refl _ _⟩
                                              case r21a =>
                                                simp only [Act.put]
                                                refine wpP_take [34] (i := 22) (v := ?v22a) rfl (by kernel_rfl) (by kernel_rfl) (by kernel_rfl) (fun w w' h hc => h.no hc) (fun _ _ _ h => by cases h.1) _ _ _ _ (by kernel_rfl) (by kernel_rfl) (by kernel_rfl) (Or.inl ⟨by kernel_rfl, fun w' hw' => ?y22a⟩) hT ?r22a
                                                case y22a =>
                                                  have k0 := hw'.y0
                                                  have k1 := hw'.y1
                                                  go_simp
                                                  all_goals first | exact quiet_value | exact ⟨rfl, Ch.refl _ _⟩
                                                case r22a =>
                                                  simp only [Act.put]
                                                  refine wpP_take [34] (i := 23) (v := .bool true) rfl (by kernel_rfl) (by kernel_rfl) (by kernel_rfl) (fun w w' h hc => h.no hc) (fun _ _ _ h => by cases h.1) _ _ _ _ (by kernel_rfl) (by kernel_rfl) (by kernel_rfl) (Or.inl ⟨by kernel_rfl, fun w' hw' => ?y23a⟩) hT ?r23a
                                                  case y23a =>
                                                    go_simp
                                                    exact quiet_enter (HSm.out.2.1 _ hw'.hy)
                                                  case r23a =>
                                                    simp only [Act.put]
                                                    refine wpP_take [34] (i := 24) (v := .bool true) rfl (by kernel_rfl) (by kernel_rfl) (by kernel_rfl) (fun w w' h hc => h.no hc) (fun _ _ _ h => by cases h.1) _ _ _ _ (by kernel_rfl) (by kernel_rfl) (by kernel_rfl) (Or.inl ⟨by kernel_rfl, fun w' hw' => ?y24a⟩) hT ?r24a
                                                    case y24a =>
                                                      go_simp
                                                      all_goals first | exact quiet_value | exact ⟨rfl, Ch.refl _ _⟩
                                                    case r24a =>
                                                      simp only [Act.put]
                                                      refine wpP_take [34] (i := 25) (v := .bool true) rfl (by kernel_rfl) (by kernel_rfl) (by kernel_rfl) (fun w w' h hc => h.no hc) (fun _ _ _ h => by cases h.1) _ _ _ _ (by kernel_rfl) (by kernel_rfl) (by kernel_rfl) (Or.inl ⟨by kernel_rfl, fun w' hw' => ?y25a⟩) hT ?r25a
                                                      case y25a =>
                                                        go_simp
                                                        all_goals first | exact quiet_value | exact ⟨rfl, Ch.refl _ _⟩
                                                      case r25a =>
                                                        simp only [Act.put]
                                                        refine wpP_take [34] (i := 26) (v := ?v26a) rfl (by kernel_rfl) (by kernel_rfl) (by kernel_rfl) (fun w w' h hc => h.no hc) (fun _ _ _ h => by cases h.1) _ _ _ _ (by kernel_rfl) (by kernel_rfl) (by kernel_rfl) (Or.inl ⟨by kernel_rfl, fun w' hw' => ?y26a⟩) hT ?r26a
                                                        case y26a =>
                                                          go_simp
                                                          all_goals first | exact quiet_value | exact ⟨rfl, Ch.refl _ _⟩
                                                        case r26a =>
                                                          simp only [Act.put]
                                                          refine wpP_take [34] (i := 27) (v := ?v27a) rfl (by kernel_rfl) (by kernel_rfl) (by kernel_rfl) (fun w w' h hc => h.no hc) (fun _ _ _ h => by cases h.1) _ _ _ _ (by kernel_rfl) (by kernel_rfl) (by kernel_rfl) (Or.inl ⟨by kernel_rfl, fun w' hw' => ?y27a⟩) hT ?r27a
                                                          case y27a =>
                                                            go_simp
                                                            all_goals first | exact quiet_value | exact ⟨rfl, Ch.refl _ _⟩
                                                          case r27a =>
                                                            simp only [Act.put]
                                                            refine wpP_take [34] (i := 28) (v := ?v28a) rfl (by kernel_rfl) (by kernel_rfl) (by kernel_rfl) (fun w w' h hc => h.no hc) (fun _ _ _ h => by cases h.1) _ _ _ _ (by kernel_rfl) (by kernel_rfl) (by kernel_rfl) (Or.inl ⟨by kernel_rfl, fun w' hw' => ?y28a⟩) hT ?r28a
                                                            case y28a =>
                                                              go_simp
                                                              all_goals first | exact quiet_value | exact ⟨rfl, Ch.refl _ _⟩
                                                            case r28a =>
                                                              simp only [Act.put]
                                                              refine wpP_take [34] (i := 29) (v := (.slice (A9.map (·.add 2)) (8 * N) (c9 - 2))) rfl (by kernel_rfl) (by kernel_rfl) (by kernel_rfl) (fun w w' h hc => h.no hc) (fun _ _ _ h => by cases h.1) _ _ _ _ (by kernel_rfl) (by kernel_rfl) (by kernel_rfl) (Or.inl ⟨by kernel_rfl, fun w' hw' => ?y29a⟩) hT ?r29a
                                                              case y29a =>
                                                                go_simp
                                                                rw [if_pos (show (0:Int) ≤ 2 + 8 * (N : Int) ∧ 2 + 8 * (N : Int) ≤ (c9 : Int) from by omega), if_pos (show (2:Int) ≤ max (2 + 8 * (N : Int)) 0 from by omega), if_neg (show ¬ c9 = 2 from by omega), show (2 + 8 * (N : Int)).toNat - 2 = 8 * N from by omega]
                                                                exact ⟨rfl, Ch.refl _ _⟩
                                                              case r29a =>
                                                                simp only [Act.put]
                                                                refine wpP_take [34] (i := 30) (v := ?v30a) rfl (by kernel_rfl) (by kernel_rfl) (by kernel_rfl) (fun w w' h hc => h.no hc) (fun _ _ _ h => by cases h.1) _ _ _ _ (by kernel_rfl) (by kernel_rfl) (by kernel_rfl) (Or.inl ⟨by kernel_rfl, fun w' hw' => ?y30a⟩) hT ?r30a
                                                                case y30a =>
                                                                  go_simp
                                                                  all_goals first | exact quiet_value | exact ⟨rfl, Ch.refl _ _⟩
                                                                case r30a =>
                                                                  simp only [Act.put]
                                                                  refine wpP_take [34] (i := 31) (v := (.slice (if c8 = 2 then A8 else A8.map (·.add 2)) (8 * N) (c8 - 2))) rfl (by kernel_rfl) (by kernel_rfl) (by kernel_rfl) (fun w w' h hc => h.no hc) (fun _ _ _ h => by cases h.1) _ _ _ _ (by kernel_rfl) (by kernel_rfl) (by kernel_rfl) (Or.inl ⟨by kernel_rfl, fun w' hw' => ?y31a⟩) hT ?r31a
                                                                  case y31a =>
                                                                    go_simp
                                                                    rw [if_pos (show (2:Int) ≤ 2 + 8 * (N : Int) from by omega)]
                                                                    exact ⟨rfl, Ch.refl _ _⟩
                                                                  case r31a =>
                                                                    simp only [Act.put]
                                                                    refine wpP_take [34] (i := 32) (v := .bool true) rfl (by kernel_rfl) (by kernel_rfl) (by kernel_rfl) (fun w w' h hc => h.no hc) (fun _ _ _ h => by cases h.1) _ _ _ _ (by kernel_rfl) (by kernel_rfl) (by kernel_rfl) (Or.inl ⟨by kernel_rfl, fun w' hw' => ?y32a⟩) hT ?r32a
                                                                    case y32a =>
                                                                      go_simp
                                                                      exact quiet_enter (HSm.out.2.2 _ hw')
                                                                    case r32a =>
                                                                      simp only [Act.put]
                                                                      refine wpP_take [34] (i := 33) (v := .bool true) rfl (by kernel_rfl) (by kernel_rfl) (by kernel_rfl) (fun w w' h hc => h.no hc) (fun _ _ _ h => by cases h.1) _ _ _ _ (by kernel_rfl) (by kernel_rfl) (by kernel_rfl) (Or.inl ⟨by kernel_rfl, fun w' hw' => ?y33a⟩) hT ?r33a
                                                                      case y33a =>
                                                                        go_simp
                                                                        all_goals first | exact quiet_value | exact ⟨rfl, Ch.refl _ _⟩
                                                                      case r33a =>
                                                                        simp only [Act.put]
                                                                        refine wpP_1 (i := 34) rfl (by kernel_rfl) (fun u hu K hK => ?_)
                                                                        replace hT := hT.no hu
                                                                        clear hu
                                                                        go_simp
                                                                        refine hK.out _ _ (fun _ => hT) ?_
                                                                        clear hK K
                                                                        try simp only [Act.put]
                                                                        refine wpP_done (eq_of_beq (by kernel_rfl)) (fun u h => ⟨by first | rfl | trivial, ?_⟩) _
                                                                        have G := Lib.hid ((hT.no h).ch)
                                                                        clear h hT
                                                                        go_wp2_with fail
                                                                        all_goals
                                                                          go_ret
                                                                          exact ⟨rfl, G.out⟩
  · go_upto_region 9 with fail
    clear k0 k1 h1
    try clear h2
    have C4 : Hid (Ch No W (w3.alloc (.cells #[.int .i64 7, .slice A N c] 24)) ∧ Blk (w3.alloc (.cells #[.int .i64 7, .slice A N c] 24)) w3.heap.size 24 [.int .i64 7, .slice A N c]) := Lib.hid ⟨C3.out.1.alloc _, Blk.new w3 24 [.int .i64 7, .slice A N c]⟩
    have lx := C4.out.2.lt
    clear C3
    go_upto_region 10 with fail
    generalize w3.alloc (.cells #[.int .i64 7, .slice A N c] 24) = w4 at *
    generalize w3.heap.size = gx at *
    have o5 : OwnS (w4.alloc (.cells #[] 2)) w4.heap.size 2 (.slice (some ⟨w4.heap.size, 0, none⟩) 0 0) (ints .i64 []) := by simpa [ints] using OwnS.lit w4 w4.heap.size 2 [] (Nat.le_refl _) (by simp)
    go_wp2_with (at_builtin; refine appK rfl _ _ 22 2 rfl .i64 0 8 Try.underlying22 i64info w4.heap.size (some ⟨w4.heap.size, 0, none⟩) 0 0 [] rfl rfl o5 A c N ns HX.out.1 rfl (HX.out.2.ch (C4.out.1.alloc _) (fun _ _ h => h)) (by simp [maxLen]; omega) (by omega) (by simp) ?_)
    intro A5 c5 w5 o5' h5
    have C5 : Ch No w4 w5 := ((Ch.refl No w4).alloc _).trans' h5 (fun i hi he => by
      have he' : w4.heap.size = i := by simpa [Value.ownBlock] using he
      omega)
    try simp only [Nat.zero_add, List.nil_append] at o5'
    have H5 := Lib.hid (And.intro o5' C5)
    clear o5 o5' h5 C5
    try simp only [Nat.zero_add]
    have hsz5 := H5.out.2.size
    go_wp2_with (at_builtin; refine appK rfl _ _ 22 2 rfl .i64 0 8 Try.underlying22 i64info w4.heap.size A5 c5 N ns HX.out.1 rfl (H5.out.1.alloc _) (some ⟨w5.heap.size, 0, none⟩) 1 1 [n] rfl rfl (Cls.lit w5 2 [.int .i64 n]) (by simp [maxLen]; omega) (by omega) (by simp; omega) ?_)
    intro A6 c6 w6 o6 h6
    have C6 : Ch No w4 w6 := (H5.out.2.alloc _).trans' h6 (fun i hi he => by have := (H5.out.1.ge i he).1; omega)
    have C7 : Hid (Ch No W (w6.alloc (.cells #[.int .i64 7, .slice A6 (N + 1) c6] 24)) ∧ Blk (w6.alloc (.cells #[.int .i64 7, .slice A6 (N + 1) c6] 24)) gx 24 [.int .i64 7, .slice A N c] ∧ Blk (w6.alloc (.cells #[.int .i64 7, .slice A6 (N + 1) c6] 24)) w6.heap.size 24 [.int .i64 7, .slice A6 (N + 1) c6] ∧ Cls (w6.alloc (.cells #[.int .i64 7, .slice A6 (N + 1) c6] 24)) A6 (ints .i64 (ns ++ [n]))) :=
      Lib.hid ⟨(C4.out.1.trans C6).alloc _, (C4.out.2.ch C6 (fun h => h)).alloc _, Blk.new w6 24 [.int .i64 7, .slice A6 (N + 1) c6], o6.cls.1.ch ((Ch.refl No w6).alloc _) (fun _ _ h => h)⟩
    clear o6 h6 C6 H5 C4 hsz5
    go_upto_region 11 with fail
    generalize w6.alloc (.cells #[.int .i64 7, .slice A6 (N + 1) c6] 24) = w7 at *
    generalize w6.heap.size = gy at *
    have k0 := C7.out.2.1.cell 0
    have k1 := C7.out.2.1.cell 1
    simp only [List.getElem?_cons_zero, List.getElem?_cons_succ] at k0 k1
    go_wp2_with fail
    have q := RepW_any 7 A c ns w7 (HX.out.2.ch C7.out.1 (fun _ _ h => h)) (by rw [HX.out.1]; omega)
    rw [HX.out.1, show wErr 7 N = 0 from by unfold wErr; rw [if_pos (by omega), if_neg (by omega)]] at q
    have hwx : wOut 7 ns = repB 7 ns := by
      unfold wOut
      rw [if_pos (by unfold wErr; rw [if_pos (by omega), if_neg (by rw [HX.out.1]; omega)])]
    rw [hwx] at q
    unfold WriteP at q
    rw [repB_len, HX.out.1] at q
    refine q.mono ?_
    clear q hwx k0 k1
    rintro e w8 ⟨A8, c8, rfl, o8, h8⟩
    have hc8 := o8.cls
    rw [ints_length, repB_len, HX.out.1] at hc8
    have hlc8 := hc8.2.1
    have C8 : Hid (Ch No W w8 ∧ Blk w8 gx 24 [.int .i64 7, .slice A N c] ∧ Blk w8 gy 24 [.int .i64 7, .slice A6 (N + 1) c6] ∧ Cls w8 A6 (ints .i64 (ns ++ [n])) ∧ Cls w8 A8 (ints .u8 (repB 7 ns))) :=
      Lib.hid ⟨C7.out.1.trans h8, C7.out.2.1.ch h8 (fun h => h), C7.out.2.2.1.ch h8 (fun h => h), C7.out.2.2.2.ch h8 (fun _ _ h => h), hc8.1⟩
    clear hc8 o8 h8 C7
    have k0 := C8.out.2.2.1.cell 0
    have k1 := C8.out.2.2.1.cell 1
    simp only [List.getElem?_cons_zero, List.getElem?_cons_succ] at k0 k1
    go_wp2_with fail
    have hl1 : (ns ++ [n]).length = N + 1 := by simp [HX.out.1]
    have q := RepW_any 7 A6 c6 (ns ++ [n]) w8 C8.out.2.2.2.1 (by rw [hl1]; omega)
    rw [hl1, show wErr 7 (N + 1) = 0 from by unfold wErr; rw [if_pos (by omega), if_neg (by omega)]] at q
    have hwx : wOut 7 (ns ++ [n]) = repB 7 (ns ++ [n]) := by
      unfold wOut
      rw [if_pos (by unfold wErr; rw [if_pos (by omega), if_neg (by rw [hl1]; omega)])]
    rw [hwx] at q
    unfold WriteP at q
    rw [repB_len, hl1] at q
    refine q.mono ?_
    clear q hwx k0 k1
    rintro e w9 ⟨A9, c9, rfl, o9, h9⟩
    have hc9 := o9.cls
    rw [ints_length, repB_len, hl1] at hc9
    have hlc9 := hc9.2.1
    have FT : Hid (FP W w9 gx gy N A c ns A6 c6 (ns ++ [n]) A8 (repB 7 ns) A9 (repB 7 (ns ++ [n]))) :=
      Lib.hid ⟨C8.out.1.trans h9, C8.out.2.1.ch h9 (fun h => h), C8.out.2.2.1.ch h9 (fun h => h), HX.out.2.ch (C8.out.1.trans h9) (fun _ _ h => h), C8.out.2.2.2.1.ch h9 (fun _ _ h => h), C8.out.2.2.2.2.ch h9 (fun _ _ h => h), hc9.1⟩
    have HLN := Lib.hid hl1
    clear hc9 o9 h9 C8 hl1
    have qs := fun (w' : World) (h1 : Cls w' A (ints .i64 ns)) (h2 : Cls w' A6 (ints .i64 (ns ++ [n]))) => RepSame_any 7 A c ns 7 A6 c6 (ns ++ [n]) w' h1 h2 (by rw [HX.out.1]; omega)
    have qt := fun (w' : World) (h2 : Cls w' A6 (ints .i64 (ns ++ [n]))) => RepSame_any 7 A6 c6 (ns ++ [n]) 7 A6 c6 (ns ++ [n]) w' h2 h2 (by rw [HLN.out]; omega)
    rw [HX.out.1, HLN.out, decide_eq_false (fun h => by have := congrArg List.length h.2; simp at this)] at qs
    rw [HLN.out] at qt
    simp only [true_and, decide_true] at qt
    have qu : ∀ w' : World, FP W w' gx gy N A c ns A6 c6 (ns ++ [n]) A8 (repB 7 ns) A9 (repB 7 (ns ++ [n])) → Calls Try.prog 12 #[.slice (A9.map (·.add 2)) (8 * N) (c9 - 2), .slice (if c8 = 2 then A8 else A8.map (·.add 2)) (8 * N) (c8 - 2)] w' fun e w'' => e = .returned (.bool true) ∧ Ch No w' w'' := fun w' h => by
      have h1 : Cls w' (A9.map (·.add 2)) (ints .u8 (numB ns)) := by
        have := (h.hv.dropI 2).takeI (8 * N)
        rw [← ints_drop, ← ints_take, ← HX.out.1, repB_mid] at this
        exact this
      have h2 : Cls w' (if c8 = 2 then A8 else A8.map (·.add 2)) (ints .u8 (numB ns)) := by
        split
        · have h0 : (numB ns).length = 0 := by rw [numB_len, HX.out.1]; omega
          rw [List.eq_nil_of_length_eq_zero h0]
          exact Cls.nil _ _
        · have := h.hu.dropI 2
          rw [← ints_drop, repB_end] at this
          exact this
      have q := Same_any w' (A9.map (·.add 2)) (c9 - 2) (numB ns) (if c8 = 2 then A8 else A8.map (·.add 2)) (c8 - 2) (numB ns) h1 h2 (numB_isB ns) (numB_isB ns)
      rw [numB_len, HX.out.1] at q
      simp only [decide_true] at q
      exact q.mono fun e w'' k => ⟨k.1, k.2 ▸ Ch.refl _ _⟩
    have HSm := Lib.hid (And.intro qs (And.intro qt qu))
    clear qs qt qu
    go_upto_region 13 with fail
    refine region_pert (T := fun w' => FP W w' gx gy N A c ns A6 c6 (ns ++ [n]) A8 (repB 7 ns) A9 (repB 7 (ns ++ [n]))) (s := 34) (by kernel_rfl) (fun hT => ?_) (FT.out.no (Ch.refl No w9).drew)
    clear FT
    generalize w9.drew = wd at *
    refine wpP_take [34] (i := 0) (v := ?v0b) rfl (by kernel_rfl) (by kernel_rfl) (by kernel_rfl) (fun w w' h hc => h.no hc) (fun _ _ _ h => by cases h.1) _ _ _ _ (by kernel_rfl) (by kernel_rfl) (by kernel_rfl) (Or.inl ⟨by kernel_rfl, fun w' hw' => ?y0b⟩) hT ?r0b
    case y0b =>
      go_simp
      all_goals first | exact quiet_value | exact ⟨rfl, Ch.refl _ _⟩
    case r0b =>
      simp only [Act.put]
      refine wpP_take [34] (i := 1) (v := .bool true) rfl (by kernel_rfl) (by kernel_rfl) (by kernel_rfl) (fun w w' h hc => h.no hc) (fun _ _ _ h => by cases h.1) _ _ _ _ (by kernel_rfl) (by kernel_rfl) (by kernel_rfl) (Or.inl ⟨by kernel_rfl, fun w' hw' => ?y1b⟩) hT ?r1b
      case y1b =>
        go_simp
        all_goals first | exact quiet_value | exact ⟨rfl, Ch.refl _ _⟩
      case r1b =>
        simp only [Act.put]
        refine wpP_take [34] (i := 2) (v := .bool true) rfl (by kernel_rfl) (by kernel_rfl) (by kernel_rfl) (fun w w' h hc => h.no hc) (fun _ _ _ h => by cases h.1) _ _ _ _ (by kernel_rfl) (by kernel_rfl) (by kernel_rfl) (Or.inl ⟨by kernel_rfl, fun w' hw' => ?y2b⟩) hT ?r2b
        case y2b =>
          go_simp
          all_goals first | exact quiet_value | exact ⟨rfl, Ch.refl _ _⟩
        case r2b =>
          simp only [Act.put]
          refine wpP_take [34] (i := 3) (v := ?v3b) rfl (by kernel_rfl) (by kernel_rfl) (by kernel_rfl) (fun w w' h hc => h.no hc) (fun _ _ _ h => by cases h.1) _ _ _ _ (by kernel_rfl) (by kernel_rfl) (by kernel_rfl) (Or.inl ⟨by kernel_rfl, fun w' hw' => ?y3b⟩) hT ?r3b
          case y3b =>
            go_simp
            all_goals first | exact quiet_value | exact ⟨rfl, Ch.refl _ _⟩
          case r3b =>
            simp only [Act.put]
            refine wpP_take [34] (i := 4) (v := .bool true) rfl (by kernel_rfl) (by kernel_rfl) (by kernel_rfl) (fun w w' h hc => h.no hc) (fun _ _ _ h => by cases h.1) _ _ _ _ (by kernel_rfl) (by kernel_rfl) (by kernel_rfl) (Or.inl ⟨by kernel_rfl, fun w' hw' => ?y4b⟩) hT ?r4b
            case y4b =>
              go_simp
              all_goals first | exact quiet_value | exact ⟨rfl, Ch.refl _ _⟩
            case r4b =>
              simp only [Act.put]
              refine wpP_take [34] (i := 5) (v := .bool true) rfl (by kernel_rfl) (by kernel_rfl) (by kernel_rfl) (fun w w' h hc => h.no hc) (fun _ _ _ h => by cases h.1) _ _ _ _ (by kernel_rfl) (by kernel_rfl) (by kernel_rfl) (Or.inl ⟨by kernel_rfl, fun w' hw' => ?y5b⟩) hT ?r5b
              case y5b =>
                go_simp
                all_goals first | exact quiet_value | exact ⟨rfl, Ch.refl _ _⟩
              case r5b =>
                simp only [Act.put]
                refine wpP_take [34] (i := 6) (v := .bool true) rfl (by kernel_rfl) (by kernel_rfl) (by kernel_rfl) (fun w w' h hc => h.no hc) (fun _ _ _ h => by cases h.1) _ _ _ _ (by kernel_rfl) (by kernel_rfl) (by kernel_rfl) (Or.inl ⟨by kernel_rfl, fun w' hw' => ?y6b⟩) hT ?r6b
                case y6b =>
                  go_simp
                  all_goals first | exact quiet_value | exact ⟨rfl, Ch.refl _ _⟩
                case r6b =>
                  simp only [Act.put]
                  refine wpP_take [34] (i := 7) (v := ?v7b) rfl (by kernel_rfl) (by kernel_rfl) (by kernel_rfl) (fun w w' h hc => h.no hc) (fun _ _ _ h => by cases h.1) _ _ _ _ (by kernel_rfl) (by kernel_rfl) (by kernel_rfl) (Or.inl ⟨by kernel_rfl, fun w' hw' => ?y7b⟩) hT ?r7b
                  case y7b =>
                    go_simp
                    all_goals first | exact quiet_value | exact ⟨rfl, Ch.refl _ _⟩
                  case r7b =>
                    simp only [Act.put]
                    refine wpP_take [34] (i := 8) (v := ?v8b) rfl (by kernel_rfl) (by kernel_rfl) (by kernel_rfl) (fun w w' h hc => h.no hc) (fun _ _ _ h => by cases h.1) _ _ _ _ (by kernel_rfl) (by kernel_rfl) (by kernel_rfl) (Or.inl ⟨by kernel_rfl, fun w' hw' => ?y8b⟩) hT ?r8b
                    case y8b =>
                      go_simp
                      all_goals first | exact quiet_value | exact ⟨rfl, Ch.refl _ _⟩
                    case r8b =>
                      simp only [Act.put]
                      refine wpP_take [34] (i := 9) (v := ?v9b) rfl (by kernel_rfl) (by kernel_rfl) (by kernel_rfl) (fun w w' h hc => h.no hc) (fun _ _ _ h => by cases h.1) _ _ _ _ (by kernel_rfl) (by kernel_rfl) (by kernel_rfl) (Or.inl ⟨by kernel_rfl, fun w' hw' => ?y9b⟩) hT ?r9b
                      case y9b =>
                        go_simp
                        all_goals first | exact quiet_value | exact ⟨rfl, Ch.refl _ _⟩
                      case r9b =>
                        simp only [Act.put]
                        refine wpP_take [34] (i := 10) (v := ?v10b) rfl (by kernel_rfl) (by kernel_rfl) (by kernel_rfl) (fun w w' h hc => h.no hc) (fun _ _ _ h => by cases h.1) _ _ _ _ (by kernel_rfl) (by kernel_rfl) (by kernel_rfl) (Or.inl ⟨by kernel_rfl, fun w' hw' => ?y10b⟩) hT ?r10b
                        case y10b =>
                          go_simp
                          all_goals first | exact quiet_value | exact ⟨rfl, Ch.refl _ _⟩
                        case r10b =>
                          simp only [Act.put]
                          refine wpP_take [34] (i := 11) (v := ?v11b) rfl (by kernel_rfl) (by kernel_rfl) (by kernel_rfl) (fun w w' h hc => h.no hc) (fun _ _ _ h => by cases h.1) _ _ _ _ (by kernel_rfl) (by kernel_rfl) (by kernel_rfl) (Or.inl ⟨by kernel_rfl, fun w' hw' => ?y11b⟩) hT ?r11b
                          case y11b =>
                            go_simp
                            all_goals first | exact quiet_value | exact ⟨rfl, Ch.refl _ _⟩
                          case r11b =>
                            simp only [Act.put]
                            refine wpP_take [34] (i := 12) (v := .bool true) rfl (by kernel_rfl) (by kernel_rfl) (by kernel_rfl) (fun w w' h hc => h.no hc) (fun _ _ _ h => by cases h.1) _ _ _ _ (by kernel_rfl) (by kernel_rfl) (by kernel_rfl) (Or.inl ⟨by kernel_rfl, fun w' hw' => ?y12b⟩) hT ?r12b
                            case y12b =>
                              have hw12 : IntKind.i64.wrap (2 + 8 * (N : Int) + 8) = 2 + 8 * ((N : Int) + 1) := by rw [IntKind.wrap_i64]; omega
                              go_simp
                              all_goals first | exact quiet_value | exact ⟨rfl, Ch.refl _ _⟩
                            case r12b =>
                              simp only [Act.put]
                              refine wpP_take [34] (i := 13) (v := .bool true) rfl (by kernel_rfl) (by kernel_rfl) (by kernel_rfl) (fun w w' h hc => h.no hc) (fun _ _ _ h => by cases h.1) _ _ _ _ (by kernel_rfl) (by kernel_rfl) (by kernel_rfl) (Or.inl ⟨by kernel_rfl, fun w' hw' => ?y13b⟩) hT ?r13b
                              case y13b =>
                                go_simp
                                all_goals first | exact quiet_value | exact ⟨rfl, Ch.refl _ _⟩
                              case r13b =>
                                simp only [Act.put]
                                refine wpP_take [34] (i := 14) (v := .bool true) rfl (by kernel_rfl) (by kernel_rfl) (by kernel_rfl) (fun w w' h hc => h.no hc) (fun _ _ _ h => by cases h.1) _ _ _ _ (by kernel_rfl) (by kernel_rfl) (by kernel_rfl) (Or.inl ⟨by kernel_rfl, fun w' hw' => ?y14b⟩) hT ?r14b
                                case y14b =>
                                  go_simp
                                  all_goals first | exact quiet_value | exact ⟨rfl, Ch.refl _ _⟩
                                case r14b =>
                                  simp only [Act.put]
                                  refine wpP_take [34] (i := 15) (v := ?v15b) rfl (by kernel_rfl) (by kernel_rfl) (by kernel_rfl) (fun w w' h hc => h.no hc) (fun _ _ _ h => by cases h.1) _ _ _ _ (by kernel_rfl) (by kernel_rfl) (by kernel_rfl) (Or.inl ⟨by kernel_rfl, fun w' hw' => ?y15b⟩) hT ?r15b
                                  case y15b =>
                                    have k0 := hw'.x0
                                    have k1 := hw'.x1
                                    go_simp
                                    all_goals first | exact quiet_value | exact ⟨rfl, Ch.refl _ _⟩
                                  case r15b =>
                                    simp only [Act.put]
                                    refine wpP_take [34] (i := 16) (v := ?v16b) rfl (by kernel_rfl) (by kernel_rfl) (by kernel_rfl) (fun w w' h hc => h.no hc) (fun _ _ _ h => by cases h.1) _ _ _ _ (by kernel_rfl) (by kernel_rfl) (by kernel_rfl) (Or.inl ⟨by kernel_rfl, fun w' hw' => ?y16b⟩) hT ?r16b
                                    case y16b =>
                                      have k0 := hw'.y0
                                      have k1 := hw'.y1
                                      go_simp
                                      all_goals first | exact quiet_value | exact ⟨rfl, Ch.refl _ _⟩
                                    case r16b =>
                                      simp only [Act.put]
                                      refine wpP_take [34] (i := 17) (v := .bool false) rfl (by kernel_rfl) (by kernel_rfl) (by kernel_rfl) (fun w w' h hc => h.no hc) (fun _ _ _ h => by cases h.1) _ _ _ _ (by kernel_rfl) (by kernel_rfl) (by kernel_rfl) (Or.inl ⟨by kernel_rfl, fun w' hw' => ?y17b⟩) hT ?r17b
                                      case y17b =>
                                        go_simp
                                        exact quiet_enter (HSm.out.1 _ hw'.hx hw'.hy)
                                      case r17b =>
                                        simp only [Act.put]
                                        refine wpP_take [34] (i := 18) (v := .bool true) rfl (by kernel_rfl) (by kernel_rfl) (by kernel_rfl) (fun w w' h hc => h.no hc) (fun _ _ _ h => by cases h.1) _ _ _ _ (by kernel_rfl) (by kernel_rfl) (by kernel_rfl) (Or.inl ⟨by kernel_rfl, fun w' hw' => ?y18b⟩) hT ?r18b
                                        case y18b =>
                                          go_simp
                                          all_goals first | exact quiet_value | exact ⟨rfl, Ch.refl _ _⟩
                                        case r18b =>
                                          simp only [Act.put]
                                          refine wpP_take [34] (i := 19) (v := .bool true) rfl (by kernel_rfl) (by kernel_rfl) (by kernel_rfl) (fun w w' h hc => h.no hc) (fun _ _ _ h => by cases h.1) _ _ _ _ (by kernel_rfl) (by kernel_rfl) (by kernel_rfl) (Or.inl ⟨by kernel_rfl, fun w' hw' => ?y19b⟩) hT ?r19b
                                          case y19b =>
                                            go_simp
                                            all_goals first | exact quiet_value | exact ⟨rfl, Ch.refl _ _⟩
                                          case r19b =>
                                            simp only [Act.put]
                                            refine wpP_take [34] (i := 20) (v := .bool true) rfl (by kernel_rfl) (by kernel_rfl) (by kernel_rfl) (fun w w' h hc => h.no hc) (fun _ _ _ h => by cases h.1) _ _ _ _ (by kernel_rfl) (by kernel_rfl) (by kernel_rfl) (Or.inl ⟨by kernel_rfl, fun w' hw' => ?y20b⟩) hT ?r20b
                                            case y20b =>
                                              go_simp
                                              all_goals first | exact quiet_value | exact ⟨rfl, Ch.refl _ _⟩
                                            case r20b =>
                                              simp only [Act.put]
                                              refine wpP_take [34] (i := 21) (v := ?v21b) rfl (by kernel_rfl) (by kernel_rfl) (by kernel_rfl) (fun w w' h hc => h.no hc) (fun _ _ _ h => by cases h.1) _ _ _ _ (by kernel_rfl) (by kernel_rfl) (by kernel_rfl) (Or.inl ⟨by kernel_rfl, fun w' hw' => ?y21b⟩) hT ?r21b
                                              case y21b =>
                                                have k0 := hw'.y0
                                                have k1 := hw'.y1
                                                go_simp
                                                all_goals first | exact quiet_value | exact ⟨rfl, Ch.refl _ _⟩
                                              case r21b =>
                                                simp only [Act.put]
                                                refine wpP_take [34] (i := 22) (v := ?v22b) rfl (by kernel_rfl) (by kernel_rfl) (by kernel_rfl) (fun w w' h hc => h.no hc) (fun _ _ _ h => by cases h.1) _ _ _ _ (by kernel_rfl) (by kernel_rfl) (by kernel_rfl) (Or.inl ⟨by kernel_rfl, fun w' hw' => ?y22b⟩) hT ?r22b
                                                case y22b =>
                                                  have k0 := hw'.y0
                                                  have k1 := hw'.y1
                                                  go_simp
                                                  all_goals first | exact quiet_value | exact ⟨rfl, Ch.refl _ _⟩
                                                case r22b =>
                                                  simp only [Act.put]
                                                  refine wpP_take [34] (i := 23) (v := .bool true) rfl (by kernel_rfl) (by kernel_rfl) (by kernel_rfl) (fun w w' h hc => h.no hc) (fun _ _ _ h => by cases h.1) _ _ _ _ (by kernel_rfl) (by kernel_rfl) (by kernel_rfl) (Or.inl ⟨by kernel_rfl, fun w' hw' => ?y23b⟩) hT ?r23b
                                                  case y23b =>
                                                    go_simp
                                                    exact quiet_enter (HSm.out.2.1 _ hw'.hy)
                                                  case r23b =>
                                                    simp only [Act.put]
                                                    refine wpP_take [34] (i := 24) (v := .bool true) rfl (by kernel_rfl) (by kernel_rfl) (by kernel_rfl) (fun w w' h hc => h.no hc) (fun _ _ _ h => by cases h.1) _ _ _ _ (by kernel_rfl) (by kernel_rfl) (by kernel_rfl) (Or.inl ⟨by kernel_rfl, fun w' hw' => ?y24b⟩) hT ?r24b
                                                    case y24b =>
                                                      go_simp
                                                      all_goals first | exact quiet_value | exact ⟨rfl, Ch.refl _ _⟩
                                                    case r24b =>
                                                      simp only [Act.put]
                                                      refine wpP_take [34] (i := 25) (v := .bool true) rfl (by kernel_rfl) (by kernel_rfl) (by kernel_rfl) (fun w w' h hc => h.no hc) (fun _ _ _ h => by cases h.1) _ _ _ _ (by kernel_rfl) (by kernel_rfl) (by kernel_rfl) (Or.inl ⟨by kernel_rfl, fun w' hw' => ?y25b⟩) hT ?r25b
                                                      case y25b =>
                                                        go_simp
                                                        all_goals first | exact quiet_value | exact ⟨rfl, Ch.refl _ _⟩
                                                      case r25b =>
                                                        simp only [Act.put]
                                                        refine wpP_take [34] (i := 26) (v := ?v26b) rfl (by kernel_rfl) (by kernel_rfl) (by kernel_rfl) (fun w w' h hc => h.no hc) (fun _ _ _ h => by cases h.1) _ _ _ _ (by kernel_rfl) (by kernel_rfl) (by kernel_rfl) (Or.inl ⟨by kernel_rfl, fun w' hw' => ?y26b⟩) hT ?r26b
                                                        case y26b =>
                                                          go_simp
                                                          all_goals first | exact quiet_value | exact ⟨rfl, Ch.refl _ _⟩
                                                        case r26b =>
                                                          simp only [Act.put]
                                                          refine wpP_take [34] (i := 27) (v := ?v27b) rfl (by kernel_rfl) (by kernel_rfl) (by kernel_rfl) (fun w w' h hc => h.no hc) (fun _ _ _ h => by cases h.1) _ _ _ _ (by kernel_rfl) (by kernel_rfl) (by kernel_rfl) (Or.inl ⟨by kernel_rfl, fun w' hw' => ?y27b⟩) hT ?r27b
                                                          case y27b =>
                                                            go_simp
                                                            all_goals first | exact quiet_value | exact ⟨rfl, Ch.refl _ _⟩
                                                          case r27b =>
                                                            simp only [Act.put]
                                                            refine wpP_take [34] (i := 28) (v := ?v28b) rfl (by kernel_rfl) (by kernel_rfl) (by kernel_rfl) (fun w w' h hc => h.no hc) (fun _ _ _ h => by cases h.1) _ _ _ _ (by kernel_rfl) (by kernel_rfl) (by kernel_rfl) (Or.inl ⟨by kernel_rfl, fun w' hw' => ?y28b⟩) hT ?r28b
                                                            case y28b =>
                                                              go_simp
                                                              all_goals first | exact quiet_value | exact ⟨rfl, Ch.refl _ _⟩
                                                            case r28b =>
                                                              simp only [Act.put]
                                                              refine wpP_take [34] (i := 29) (v := (.slice (A9.map (·.add 2)) (8 * N) (c9 - 2))) rfl (by kernel_rfl) (by kernel_rfl) (by kernel_rfl) (fun w w' h hc => h.no hc) (fun _ _ _ h => by cases h.1) _ _ _ _ (by kernel_rfl) (by kernel_rfl) (by kernel_rfl) (Or.inl ⟨by kernel_rfl, fun w' hw' => ?y29b⟩) hT ?r29b
                                                              case y29b =>
                                                                go_simp
                                                                rw [if_pos (show (0:Int) ≤ 2 + 8 * (N : Int) ∧ 2 + 8 * (N : Int) ≤ (c9 : Int) from by omega), if_pos (show (2:Int) ≤ max (2 + 8 * (N : Int)) 0 from by omega), if_neg (show ¬ c9 = 2 from by omega), show (2 + 8 * (N : Int)).toNat - 2 = 8 * N from by omega]
                                                                exact ⟨rfl, Ch.refl _ _⟩
                                                              case r29b =>
                                                                simp only [Act.put]
                                                                refine wpP_take [34] (i := 30) (v := ?v30b) rfl (by kernel_rfl) (by kernel_rfl) (by kernel_rfl) (fun w w' h hc => h.no hc) (fun _ _ _ h => by cases h.1) _ _ _ _ (by kernel_rfl) (by kernel_rfl) (by kernel_rfl) (Or.inl ⟨by kernel_rfl, fun w' hw' => ?y30b⟩) hT ?r30b
                                                                case y30b =>
                                                                  go_simp
                                                                  all_goals first | exact quiet_value | exact ⟨rfl, Ch.refl _ _⟩
                                                                case r30b =>
                                                                  simp only [Act.put]
                                                                  refine wpP_take [34] (i := 31) (v := (.slice (if c8 = 2 then A8 else A8.map (·.add 2)) (8 * N) (c8 - 2))) rfl (by kernel_rfl) (by kernel_rfl) (by kernel_rfl) (fun w w' h hc => h.no hc) (fun _ _ _ h => by cases h.1) _ _ _ _ (by kernel_rfl) (by kernel_rfl) (by kernel_rfl) (Or.inl ⟨by kernel_rfl, fun w' hw' => ?y31b⟩) hT ?r31b
                                                                  case y31b =>
                                                                    go_simp
                                                                    rw [if_pos (show (2:Int) ≤ 2 + 8 * (N : Int) from by omega)]
                                                                    exact ⟨rfl, Ch.refl _ _⟩
                                                                  case r31b =>
                                                                    simp only [Act.put]
                                                                    refine wpP_take [34] (i := 32) (v := .bool true) rfl (by kernel_rfl) (by kernel_rfl) (by kernel_rfl) (fun w w' h hc => h.no hc) (fun _ _ _ h => by cases h.1) _ _ _ _ (by kernel_rfl) (by kernel_rfl) (by kernel_rfl) (Or.inl ⟨by kernel_rfl, fun w' hw' => ?y32b⟩) hT ?r32b
                                                                    case y32b =>
                                                                      go_simp
                                                                      exact quiet_enter (HSm.out.2.2 _ hw')
                                                                    case r32b =>
                                                                      simp only [Act.put]
                                                                      refine wpP_take [34] (i := 33) (v := .bool true) rfl (by kernel_rfl) (by kernel_rfl) (by kernel_rfl) (fun w w' h hc => h.no hc) (fun _ _ _ h => by cases h.1) _ _ _ _ (by kernel_rfl) (by kernel_rfl) (by kernel_rfl) (Or.inl ⟨by kernel_rfl, fun w' hw' => ?y33b⟩) hT ?r33b
                                                                      case y33b =>
                                                                        go_simp
                                                                        all_goals first | exact quiet_value | exact ⟨rfl, Ch.refl _ _⟩
                                                                      case r33b =>
                                                                        simp only [Act.put]
                                                                        refine wpP_1 (i := 34) rfl (by kernel_rfl) (fun u hu K hK => ?_)
                                                                        replace hT := hT.no hu
                                                                        clear hu
                                                                        go_simp
                                                                        refine hK.out _ _ (fun _ => hT) ?_
                                                                        clear hK K
                                                                        try simp only [Act.put]
                                                                        refine wpP_done (eq_of_beq (by kernel_rfl)) (fun u h => ⟨by first | rfl | trivial, ?_⟩) _
                                                                        have G := Lib.hid ((hT.no h).ch)
                                                                        clear h hT
                                                                        go_wp2_with fail
                                                                        all_goals
                                                                          go_ret
                                                                          exact ⟨rfl, G.out⟩
  · go_upto_region 9 with fail
    clear k0 k1 h1
    try clear h2
    have C4 : Hid (Ch No W (w3.alloc (.cells #[.int .i64 7, .slice A N c] 24)) ∧ Blk (w3.alloc (.cells #[.int .i64 7, .slice A N c] 24)) w3.heap.size 24 [.int .i64 7, .slice A N c]) := Lib.hid ⟨C3.out.1.alloc _, Blk.new w3 24 [.int .i64 7, .slice A N c]⟩
    have lx := C4.out.2.lt
    clear C3
    go_upto_region 10 with fail
    generalize w3.alloc (.cells #[.int .i64 7, .slice A N c] 24) = w4 at *
    generalize w3.heap.size = gx at *
    have o5 : OwnS (w4.alloc (.cells #[] 2)) w4.heap.size 2 (.slice (some ⟨w4.heap.size, 0, none⟩) 0 0) (ints .i64 []) := by simpa [ints] using OwnS.lit w4 w4.heap.size 2 [] (Nat.le_refl _) (by simp)
    go_wp2_with (at_builtin; refine appK rfl _ _ 22 2 rfl .i64 0 8 Try.underlying22 i64info w4.heap.size (some ⟨w4.heap.size, 0, none⟩) 0 0 [] rfl rfl o5 A c N ns HX.out.1 rfl (HX.out.2.ch (C4.out.1.alloc _) (fun _ _ h => h)) (by simp [maxLen]; omega) (by omega) (by simp) ?_)
    intro A5 c5 w5 o5' h5
    have C5 : Ch No w4 w5 := ((Ch.refl No w4).alloc _).trans' h5 (fun i hi he => by
      have he' : w4.heap.size = i := by simpa [Value.ownBlock] using he
      omega)
    try simp only [Nat.zero_add, List.nil_append] at o5'
    have H5 := Lib.hid (And.intro o5' C5)
    clear o5 o5' h5 C5
    try simp only [Nat.zero_add]
    have hsz5 := H5.out.2.size
    go_wp2_with (at_builtin; refine appK rfl _ _ 22 2 rfl .i64 0 8 Try.underlying22 i64info w4.heap.size A5 c5 N ns HX.out.1 rfl (H5.out.1.alloc _) (some ⟨w5.heap.size, 0, none⟩) 1 1 [n] rfl rfl (Cls.lit w5 2 [.int .i64 n]) (by simp [maxLen]; omega) (by omega) (by simp; omega) ?_)
    intro A6 c6 w6 o6 h6
    have C6 : Ch No w4 w6 := (H5.out.2.alloc _).trans' h6 (fun i hi he => by have := (H5.out.1.ge i he).1; omega)
    have C7 : Hid (Ch No W (w6.alloc (.cells #[.int .i64 7, .slice A6 (N + 1) c6] 24)) ∧ Blk (w6.alloc (.cells #[.int .i64 7, .slice A6 (N + 1) c6] 24)) gx 24 [.int .i64 7, .slice A N c] ∧ Blk (w6.alloc (.cells #[.int .i64 7, .slice A6 (N + 1) c6] 24)) w6.heap.size 24 [.int .i64 7, .slice A6 (N + 1) c6] ∧ Cls (w6.alloc (.cells #[.int .i64 7, .slice A6 (N + 1) c6] 24)) A6 (ints .i64 (ns ++ [n]))) :=
      Lib.hid ⟨(C4.out.1.trans C6).alloc _, (C4.out.2.ch C6 (fun h => h)).alloc _, Blk.new w6 24 [.int .i64 7, .slice A6 (N + 1) c6], o6.cls.1.ch ((Ch.refl No w6).alloc _) (fun _ _ h => h)⟩
    clear o6 h6 C6 H5 C4 hsz5
    go_upto_region 11 with fail
    generalize w6.alloc (.cells #[.int .i64 7, .slice A6 (N + 1) c6] 24) = w7 at *
    generalize w6.heap.size = gy at *
    have k0 := C7.out.2.1.cell 0
    have k1 := C7.out.2.1.cell 1
    simp only [List.getElem?_cons_zero, List.getElem?_cons_succ] at k0 k1
    go_wp2_with fail
    have q := RepW_any 7 A c ns w7 (HX.out.2.ch C7.out.1 (fun _ _ h => h)) (by rw [HX.out.1]; omega)
    rw [HX.out.1, show wErr 7 N = 0 from by unfold wErr; rw [if_pos (by omega), if_neg (by omega)]] at q
    have hwx : wOut 7 ns = repB 7 ns := by
      unfold wOut
      rw [if_pos (by unfold wErr; rw [if_pos (by omega), if_neg (by rw [HX.out.1]; omega)])]
    rw [hwx] at q
    unfold WriteP at q
    rw [repB_len, HX.out.1] at q
    refine q.mono ?_
    clear q hwx k0 k1
    rintro e w8 ⟨A8, c8, rfl, o8, h8⟩
    have hc8 := o8.cls
    rw [ints_length, repB_len, HX.out.1] at hc8
    have hlc8 := hc8.2.1
    have C8 : Hid (Ch No W w8 ∧ Blk w8 gx 24 [.int .i64 7, .slice A N c] ∧ Blk w8 gy 24 [.int .i64 7, .slice A6 (N + 1) c6] ∧ Cls w8 A6 (ints .i64 (ns ++ [n])) ∧ Cls w8 A8 (ints .u8 (repB 7 ns))) :=
      Lib.hid ⟨C7.out.1.trans h8, C7.out.2.1.ch h8 (fun h => h), C7.out.2.2.1.ch h8 (fun h => h), C7.out.2.2.2.ch h8 (fun _ _ h => h), hc8.1⟩
    clear hc8 o8 h8 C7
    have k0 := C8.out.2.2.1.cell 0
    have k1 := C8.out.2.2.1.cell 1
    simp only [List.getElem?_cons_zero, List.getElem?_cons_succ] at k0 k1
    go_wp2_with fail
    have hl1 : (ns ++ [n]).length = N + 1 := by simp [HX.out.1]
    have q := RepW_any 7 A6 c6 (ns ++ [n]) w8 C8.out.2.2.2.1 (by rw [hl1]; omega)
    rw [hl1, show wErr 7 (N + 1) = 0 from by unfold wErr; rw [if_pos (by omega), if_neg (by omega)]] at q
    have hwx : wOut 7 (ns ++ [n]) = repB 7 (ns ++ [n]) := by
      unfold wOut
      rw [if_pos (by unfold wErr; rw [if_pos (by omega), if_neg (by rw [hl1]; omega)])]
    rw [hwx] at q
    unfold WriteP at q
    rw [repB_len, hl1] at q
    refine q.mono ?_
    clear q hwx k0 k1
    rintro e w9 ⟨A9, c9, rfl, o9, h9⟩
    have hc9 := o9.cls
    rw [ints_length, repB_len, hl1] at hc9
    have hlc9 := hc9.2.1
    have FT : Hid (FP W w9 gx gy N A c ns A6 c6 (ns ++ [n]) A8 (repB 7 ns) A9 (repB 7 (ns ++ [n]))) :=
      Lib.hid ⟨C8.out.1.trans h9, C8.out.2.1.ch h9 (fun h => h), C8.out.2.2.1.ch h9 (fun h => h), HX.out.2.ch (C8.out.1.trans h9) (fun _ _ h => h), C8.out.2.2.2.1.ch h9 (fun _ _ h => h), C8.out.2.2.2.2.ch h9 (fun _ _ h => h), hc9.1⟩
    have HLN := Lib.hid hl1
    clear hc9 o9 h9 C8 hl1
    have qs := fun (w' : World) (h1 : Cls w' A (ints .i64 ns)) (h2 : Cls w' A6 (ints .i64 (ns ++ [n]))) => RepSame_any 7 A c ns 7 A6 c6 (ns ++ [n]) w' h1 h2 (by rw [HX.out.1]; omega)
    have qt := fun (w' : World) (h2 : Cls w' A6 (ints .i64 (ns ++ [n]))) => RepSame_any 7 A6 c6 (ns ++ [n]) 7 A6 c6 (ns ++ [n]) w' h2 h2 (by rw [HLN.out]; omega)
    rw [HX.out.1, HLN.out, decide_eq_false (fun h => by have := congrArg List.length h.2; simp at this)] at qs
    rw [HLN.out] at qt
    simp only [true_and, decide_true] at qt
    have qu : ∀ w' : World, FP W w' gx gy N A c ns A6 c6 (ns ++ [n]) A8 (repB 7 ns) A9 (repB 7 (ns ++ [n])) → Calls Try.prog 12 #[.slice (A9.map (·.add 2)) (8 * N) (c9 - 2), .slice (if c8 = 2 then A8 else A8.map (·.add 2)) (8 * N) (c8 - 2)] w' fun e w'' => e = .returned (.bool true) ∧ Ch No w' w'' := fun w' h => by
      have h1 : Cls w' (A9.map (·.add 2)) (ints .u8 (numB ns)) := by
        have := (h.hv.dropI 2).takeI (8 * N)
        rw [← ints_drop, ← ints_take, ← HX.out.1, repB_mid] at this
        exact this
      have h2 : Cls w' (if c8 = 2 then A8 else A8.map (·.add 2)) (ints .u8 (numB ns)) := by
        split
        · have h0 : (numB ns).length = 0 := by rw [numB_len, HX.out.1]; omega
          rw [List.eq_nil_of_length_eq_zero h0]
          exact Cls.nil _ _
        · have := h.hu.dropI 2
          rw [← ints_drop, repB_end] at this
          exact this
      have q := Same_any w' (A9.map (·.add 2)) (c9 - 2) (numB ns) (if c8 = 2 then A8 else A8.map (·.add 2)) (c8 - 2) (numB ns) h1 h2 (numB_isB ns) (numB_isB ns)
      rw [numB_len, HX.out.1] at q
      simp only [decide_true] at q
      exact q.mono fun e w'' k => ⟨k.1, k.2 ▸ Ch.refl _ _⟩
    have HSm := Lib.hid (And.intro qs (And.intro qt qu))
    clear qs qt qu
    go_upto_region 13 with fail
    refine region_pert (T := fun w' => FP W w' gx gy N A c ns A6 c6 (ns ++ [n]) A8 (repB 7 ns) A9 (repB 7 (ns ++ [n]))) (s := 34) (by kernel_rfl) (fun hT => ?_) (FT.out.no (Ch.refl No w9).drew)
    clear FT
    generalize w9.drew = wd at *
    refine wpP_take [34] (i := 0) (v := ?v0c) rfl (by kernel_rfl) (by kernel_rfl) (by kernel_rfl) (fun w w' h hc => h.no hc) (fun _ _ _ h => by cases h.1) _ _ _ _ (by kernel_rfl) (by kernel_rfl) (by kernel_rfl) (Or.inl ⟨by kernel_rfl, fun w' hw' => ?y0c⟩) hT ?r0c
    case y0c =>
      go_simp
      all_goals first | exact quiet_value | exact ⟨rfl, Ch.refl _ _⟩
    case r0c =>
      simp only [Act.put]
      refine wpP_take [34] (i := 1) (v := .bool true) rfl (by kernel_rfl) (by kernel_rfl) (by kernel_rfl) (fun w w' h hc => h.no hc) (fun _ _ _ h => by cases h.1) _ _ _ _ (by kernel_rfl) (by kernel_rfl) (by kernel_rfl) (Or.inl ⟨by kernel_rfl, fun w' hw' => ?y1c⟩) hT ?r1c
      case y1c =>
        go_simp
        all_goals first | exact quiet_value | exact ⟨rfl, Ch.refl _ _⟩
      case r1c =>
        simp only [Act.put]
        refine wpP_take [34] (i := 2) (v := .bool true) rfl (by kernel_rfl) (by kernel_rfl) (by kernel_rfl) (fun w w' h hc => h.no hc) (fun _ _ _ h => by cases h.1) _ _ _ _ (by kernel_rfl) (by kernel_rfl) (by kernel_rfl) (Or.inl ⟨by kernel_rfl, fun w' hw' => ?y2c⟩) hT ?r2c
        case y2c =>
          go_simp
          all_goals first | exact quiet_value | exact ⟨rfl, Ch.refl _ _⟩
        case r2c =>
          simp only [Act.put]
          refine wpP_take [34] (i := 3) (v := ?v3c) rfl (by kernel_rfl) (by kernel_rfl) (by kernel_rfl) (fun w w' h hc => h.no hc) (fun _ _ _ h => by cases h.1) _ _ _ _ (by kernel_rfl) (by kernel_rfl) (by kernel_rfl) (Or.inl ⟨by kernel_rfl, fun w' hw' => ?y3c⟩) hT ?r3c
          case y3c =>
            go_simp
            all_goals first | exact quiet_value | exact ⟨rfl, Ch.refl _ _⟩
          case r3c =>
            simp only [Act.put]
            refine wpP_take [34] (i := 4) (v := .bool true) rfl (by kernel_rfl) (by kernel_rfl) (by kernel_rfl) (fun w w' h hc => h.no hc) (fun _ _ _ h => by cases h.1) _ _ _ _ (by kernel_rfl) (by kernel_rfl) (by kernel_rfl) (Or.inl ⟨by kernel_rfl, fun w' hw' => ?y4c⟩) hT ?r4c
            case y4c =>
              go_simp
              all_goals first | exact quiet_value | exact ⟨rfl, Ch.refl _ _⟩
            case r4c =>
              simp only [Act.put]
              refine wpP_take [34] (i := 5) (v := .bool true) rfl (by kernel_rfl) (by kernel_rfl) (by kernel_rfl) (fun w w' h hc => h.no hc) (fun _ _ _ h => by cases h.1) _ _ _ _ (by kernel_rfl) (by kernel_rfl) (by kernel_rfl) (Or.inl ⟨by kernel_rfl, fun w' hw' => ?y5c⟩) hT ?r5c
              case y5c =>
                go_simp
                all_goals first | exact quiet_value | exact ⟨rfl, Ch.refl _ _⟩
              case r5c =>
                simp only [Act.put]
                refine wpP_take [34] (i := 6) (v := .bool true) rfl (by kernel_rfl) (by kernel_rfl) (by kernel_rfl) (fun w w' h hc => h.no hc) (fun _ _ _ h => by cases h.1) _ _ _ _ (by kernel_rfl) (by kernel_rfl) (by kernel_rfl) (Or.inl ⟨by kernel_rfl, fun w' hw' => ?y6c⟩) hT ?r6c
                case y6c =>
                  go_simp
                  all_goals first | exact quiet_value | exact ⟨rfl, Ch.refl _ _⟩
                case r6c =>
                  simp only [Act.put]
                  refine wpP_take [34] (i := 7) (v := ?v7c) rfl (by kernel_rfl) (by kernel_rfl) (by kernel_rfl) (fun w w' h hc => h.no hc) (fun _ _ _ h => by cases h.1) _ _ _ _ (by kernel_rfl) (by kernel_rfl) (by kernel_rfl) (Or.inl ⟨by kernel_rfl, fun w' hw' => ?y7c⟩) hT ?r7c
                  case y7c =>
                    go_simp
                    all_goals first | exact quiet_value | exact ⟨rfl, Ch.refl _ _⟩
                  case r7c =>
                    simp only [Act.put]
                    refine wpP_take [34] (i := 8) (v := ?v8c) rfl (by kernel_rfl) (by kernel_rfl) (by kernel_rfl) (fun w w' h hc => h.no hc) (fun _ _ _ h => by cases h.1) _ _ _ _ (by kernel_rfl) (by kernel_rfl) (by kernel_rfl) (Or.inl ⟨by kernel_rfl, fun w' hw' => ?y8c⟩) hT ?r8c
                    case y8c =>
                      go_simp
                      all_goals first | exact quiet_value | exact ⟨rfl, Ch.refl _ _⟩
                    case r8c =>
                      simp only [Act.put]
                      refine wpP_take [34] (i := 9) (v := ?v9c) rfl (by kernel_rfl) (by kernel_rfl) (by kernel_rfl) (fun w w' h hc => h.no hc) (fun _ _ _ h => by cases h.1) _ _ _ _ (by kernel_rfl) (by kernel_rfl) (by kernel_rfl) (Or.inl ⟨by kernel_rfl, fun w' hw' => ?y9c⟩) hT ?r9c
                      case y9c =>
                        go_simp
                        all_goals first | exact quiet_value | exact ⟨rfl, Ch.refl _ _⟩
                      case r9c =>
                        simp only [Act.put]
                        refine wpP_take [34] (i := 10) (v := ?v10c) rfl (by kernel_rfl) (by kernel_rfl) (by kernel_rfl) (fun w w' h hc => h.no hc) (fun _ _ _ h => by cases h.1) _ _ _ _ (by kernel_rfl) (by kernel_rfl) (by kernel_rfl) (Or.inl ⟨by kernel_rfl, fun w' hw' => ?y10c⟩) hT ?r10c
                        case y10c =>
                          go_simp
                          all_goals first | exact quiet_value | exact ⟨rfl, Ch.refl _ _⟩
                        case r10c =>
                          simp only [Act.put]
                          refine wpP_take [34] (i := 11) (v := ?v11c) rfl (by kernel_rfl) (by kernel_rfl) (by kernel_rfl) (fun w w' h hc => h.no hc) (fun _ _ _ h => by cases h.1) _ _ _ _ (by kernel_rfl) (by kernel_rfl) (by kernel_rfl) (Or.inl ⟨by kernel_rfl, fun w' hw' => ?y11c⟩) hT ?r11c
                          case y11c =>
                            go_simp
                            all_goals first | exact quiet_value | exact ⟨rfl, Ch.refl _ _⟩
                          case r11c =>
                            simp only [Act.put]
                            refine wpP_take [34] (i := 12) (v := .bool true) rfl (by kernel_rfl) (by kernel_rfl) (by kernel_rfl) (fun w w' h hc => h.no hc) (fun _ _ _ h => by cases h.1) _ _ _ _ (by kernel_rfl) (by kernel_rfl) (by kernel_rfl) (Or.inl ⟨by kernel_rfl, fun w' hw' => ?y12c⟩) hT ?r12c
                            case y12c =>
                              have hw12 : IntKind.i64.wrap (2 + 8 * (N : Int) + 8) = 2 + 8 * ((N : Int) + 1) := by rw [IntKind.wrap_i64]; omega
                              go_simp
                              all_goals first | exact quiet_value | exact ⟨rfl, Ch.refl _ _⟩
                            case r12c =>
                              simp only [Act.put]
                              refine wpP_take [34] (i := 13) (v := .bool true) rfl (by kernel_rfl) (by kernel_rfl) (by kernel_rfl) (fun w w' h hc => h.no hc) (fun _ _ _ h => by cases h.1) _ _ _ _ (by kernel_rfl) (by kernel_rfl) (by kernel_rfl) (Or.inl ⟨by kernel_rfl, fun w' hw' => ?y13c⟩) hT ?r13c
                              case y13c =>
                                go_simp
                                all_goals first | exact quiet_value | exact ⟨rfl, Ch.refl _ _⟩
                              case r13c =>
                                simp only [Act.put]
                                refine wpP_take [34] (i := 14) (v := .bool true) rfl (by kernel_rfl) (by kernel_rfl) (by kernel_rfl) (fun w w' h hc => h.no hc) (fun _ _ _ h => by cases h.1) _ _ _ _ (by kernel_rfl) (by kernel_rfl) (by kernel_rfl) (Or.inl ⟨by kernel_rfl, fun w' hw' => ?y14c⟩) hT ?r14c
                                case y14c =>
                                  go_simp
                                  all_goals first | exact quiet_value | exact ⟨rfl, Ch.refl _ _⟩
                                case r14c =>
                                  simp only [Act.put]
                                  refine wpP_take [34] (i := 15) (v := ?v15c) rfl (by kernel_rfl) (by kernel_rfl) (by kernel_rfl) (fun w w' h hc => h.no hc) (fun _ _ _ h => by cases h.1) _ _ _ _ (by kernel_rfl) (by kernel_rfl) (by kernel_rfl) (Or.inl ⟨by kernel_rfl, fun w' hw' => ?y15c⟩) hT ?r15c
                                  case y15c =>
                                    have k0 := hw'.x0
                                    have k1 := hw'.x1
                                    go_simp
                                    all_goals first | exact quiet_value | exact ⟨rfl, Ch.refl _ _⟩
                                  case r15c =>
                                    simp only [Act.put]
                                    refine wpP_take [34] (i := 16) (v := ?v16c) rfl (by kernel_rfl) (by kernel_rfl) (by kernel_rfl) (fun w w' h hc => h.no hc) (fun _ _ _ h => by cases h.1) _ _ _ _ (by kernel_rfl) (by kernel_rfl) (by kernel_rfl) (Or.inl ⟨by kernel_rfl, fun w' hw' => ?y16c⟩) hT ?r16c
                                    case y16c =>
                                      have k0 := hw'.y0
                                      have k1 := hw'.y1
                                      go_simp
                                      all_goals first | exact quiet_value | exact ⟨rfl, Ch.refl _ _⟩
                                    case r16c =>
                                      simp only [Act.put]
                                      refine wpP_take [34] (i := 17) (v := .bool false) rfl (by kernel_rfl) (by kernel_rfl) (by kernel_rfl) (fun w w' h hc => h.no hc) (fun _ _ _ h => by cases h.1) _ _ _ _ (by kernel_rfl) (by kernel_rfl) (by kernel_rfl) (Or.inl ⟨by kernel_rfl, fun w' hw' => ?y17c⟩) hT ?r17c
                                      case y17c =>
                                        go_simp
                                        exact quiet_enter (HSm.out.1 _ hw'.hx hw'.hy)
                                      case r17c =>
                                        simp only [Act.put]
                                        refine wpP_take [34] (i := 18) (v := .bool true) rfl (by kernel_rfl) (by kernel_rfl) (by kernel_rfl) (fun w w' h hc => h.no hc) (fun _ _ _ h => by cases h.1) _ _ _ _ (by kernel_rfl) (by kernel_rfl) (by kernel_rfl) (Or.inl ⟨by kernel_rfl, fun w' hw' => ?y18c⟩) hT ?r18c
                                        case y18c =>
                                          go_simp
                                          all_goals first | exact quiet_value | exact ⟨rfl, Ch.refl _ _⟩
                                        case r18c =>
                                          simp only [Act.put]
                                          refine wpP_take [34] (i := 19) (v := .bool true) rfl (by kernel_rfl) (by kernel_rfl) (by kernel_rfl) (fun w w' h hc => h.no hc) (fun _ _ _ h => by cases h.1) _ _ _ _ (by kernel_rfl) (by kernel_rfl) (by kernel_rfl) (Or.inl ⟨by kernel_rfl, fun w' hw' => ?y19c⟩) hT ?r19c
                                          case y19c =>
                                            go_simp
                                            all_goals first | exact quiet_value | exact ⟨rfl, Ch.refl _ _⟩
                                          case r19c =>
                                            simp only [Act.put]
                                            refine wpP_take [34] (i := 20) (v := .bool true) rfl (by kernel_rfl) (by kernel_rfl) (by kernel_rfl) (fun w w' h hc => h.no hc) (fun _ _ _ h => by cases h.1) _ _ _ _ (by kernel_rfl) (by kernel_rfl) (by kernel_rfl) (Or.inl ⟨by kernel_rfl, fun w' hw' => ?y20c⟩) hT ?r20c
                                            case y20c =>
                                              go_simp
                                              all_goals first | exact quiet_value | exact ⟨rfl, Ch.refl _ _⟩
                                            case r20c =>
                                              simp only [Act.put]
                                              refine wpP_take [34] (i := 21) (v := ?v21c) rfl (by kernel_rfl) (by kernel_rfl) (by kernel_rfl) (fun w w' h hc => h.no hc) (fun _ _ _ h => by cases h.1) _ _ _ _ (by kernel_rfl) (by kernel_rfl) (by kernel_rfl) (Or.inl ⟨by kernel_rfl, fun w' hw' => ?y21c⟩) hT ?r21c
                                              case y21c =>
                                                have k0 := hw'.y0
                                                have k1 := hw'.y1
                                                go_simp
                                                all_goals first | exact quiet_value | exact ⟨rfl, Ch.refl _ _⟩
                                              case r21c =>
                                                simp only [Act.put]
                                                refine wpP_take [34] (i := 22) (v := ?v22c) rfl (by kernel_rfl) (by kernel_rfl) (by kernel_rfl) (fun w w' h hc => h.no hc) (fun _ _ _ h => by cases h.1) _ _ _ _ (by kernel_rfl) (by kernel_rfl) (by kernel_rfl) (Or.inl ⟨by kernel_rfl, fun w' hw' => ?y22c⟩) hT ?r22c
                                                case y22c =>
                                                  have k0 := hw'.y0
                                                  have k1 := hw'.y1
                                                  go_simp
                                                  all_goals first | exact quiet_value | exact ⟨rfl, Ch.refl _ _⟩
                                                case r22c =>
                                                  simp only [Act.put]
                                                  refine wpP_take [34] (i := 23) (v := .bool true) rfl (by kernel_rfl) (by kernel_rfl) (by kernel_rfl) (fun w w' h hc => h.no hc) (fun _ _ _ h => by cases h.1) _ _ _ _ (by kernel_rfl) (by kernel_rfl) (by kernel_rfl) (Or.inl ⟨by kernel_rfl, fun w' hw' => ?y23c⟩) hT ?r23c
                                                  case y23c =>
                                                    go_simp
                                                    exact quiet_enter (HSm.out.2.1 _ hw'.hy)
                                                  case r23c =>
                                                    simp only [Act.put]
                                                    refine wpP_take [34] (i := 24) (v := .bool true) rfl (by kernel_rfl) (by kernel_rfl) (by kernel_rfl) (fun w w' h hc => h.no hc) (fun _ _ _ h => by cases h.1) _ _ _ _ (by kernel_rfl) (by kernel_rfl) (by kernel_rfl) (Or.inl ⟨by kernel_rfl, fun w' hw' => ?y24c⟩) hT ?r24c
                                                    case y24c =>
                                                      go_simp
                                                      all_goals first | exact quiet_value | exact ⟨rfl, Ch.refl _ _⟩
                                                    case r24c =>
                                                      simp only [Act.put]
                                                      refine wpP_take [34] (i := 25) (v := .bool true) rfl (by kernel_rfl) (by kernel_rfl) (by kernel_rfl) (fun w w' h hc => h.no hc) (fun _ _ _ h => by cases h.1) _ _ _ _ (by kernel_rfl) (by kernel_rfl) (by kernel_rfl) (Or.inl ⟨by kernel_rfl, fun w' hw' => ?y25c⟩) hT ?r25c
                                                      case y25c =>
                                                        go_simp
                                                        all_goals first | exact quiet_value | exact ⟨rfl, Ch.refl _ _⟩
                                                      case r25c =>
                                                        simp only [Act.put]
                                                        refine wpP_take [34] (i := 26) (v := ?v26c) rfl (by kernel_rfl) (by kernel_rfl) (by kernel_rfl) (fun w w' h hc => h.no hc) (fun _ _ _ h => by cases h.1) _ _ _ _ (by kernel_rfl) (by kernel_rfl) (by kernel_rfl) (Or.inl ⟨by kernel_rfl, fun w' hw' => ?y26c⟩) hT ?r26c
                                                        case y26c =>
                                                          go_simp
                                                          all_goals first | exact quiet_value | exact ⟨rfl, Ch.refl _ _⟩
                                                        case r26c =>
                                                          simp only [Act.put]
                                                          refine wpP_take [34] (i := 27) (v := ?v27c) rfl (by kernel_rfl) (by kernel_rfl) (by kernel_rfl) (fun w w' h hc => h.no hc) (fun _ _ _ h => by cases h.1) _ _ _ _ (by kernel_rfl) (by kernel_rfl) (by kernel_rfl) (Or.inl ⟨by kernel_rfl, fun w' hw' => ?y27c⟩) hT ?r27c
                                                          case y27c =>
                                                            go_simp
                                                            all_goals first | exact quiet_value | exact ⟨rfl, Ch.refl _ _⟩
                                                          case r27c =>
                                                            simp only [Act.put]
                                                            refine wpP_take [34] (i := 28) (v := ?v28c) rfl (by kernel_rfl) (by kernel_rfl) (by kernel_rfl) (fun w w' h hc => h.no hc) (fun _ _ _ h => by cases h.1) _ _ _ _ (by kernel_rfl) (by kernel_rfl) (by kernel_rfl) (Or.inl ⟨by kernel_rfl, fun w' hw' => ?y28c⟩) hT ?r28c
                                                            case y28c =>
                                                              go_simp
                                                              all_goals first | exact quiet_value | exact ⟨rfl, Ch.refl _ _⟩
                                                            case r28c =>
                                                              simp only [Act.put]
                                                              refine wpP_take [34] (i := 29) (v := (.slice (A9.map (·.add 2)) (8 * N) (c9 - 2))) rfl (by kernel_rfl) (by kernel_rfl) (by kernel_rfl) (fun w w' h hc => h.no hc) (fun _ _ _ h => by cases h.1) _ _ _ _ (by kernel_rfl) (by kernel_rfl) (by kernel_rfl) (Or.inl ⟨by kernel_rfl, fun w' hw' => ?y29c⟩) hT ?r29c
                                                              case y29c =>
                                                                go_simp
                                                                rw [if_pos (show (0:Int) ≤ 2 + 8 * (N : Int) ∧ 2 + 8 * (N : Int) ≤ (c9 : Int) from by omega), if_pos (show (2:Int) ≤ max (2 + 8 * (N : Int)) 0 from by omega), if_neg (show ¬ c9 = 2 from by omega), show (2 + 8 * (N : Int)).toNat - 2 = 8 * N from by omega]
                                                                exact ⟨rfl, Ch.refl _ _⟩
                                                              case r29c =>
                                                                simp only [Act.put]
                                                                refine wpP_take [34] (i := 30) (v := ?v30c) rfl (by kernel_rfl) (by kernel_rfl) (by kernel_rfl) (fun w w' h hc => h.no hc) (fun _ _ _ h => by cases h.1) _ _ _ _ (by kernel_rfl) (by kernel_rfl) (by kernel_rfl) (Or.inl ⟨by kernel_rfl, fun w' hw' => ?y30c⟩) hT ?r30c
                                                                case y30c =>
                                                                  go_simp
                                                                  all_goals first | exact quiet_value | exact ⟨rfl, Ch.refl _ _⟩
                                                                case r30c =>
                                                                  simp only [Act.put]
                                                                  refine wpP_take [34] (i := 31) (v := (.slice (if c8 = 2 then A8 else A8.map (·.add 2)) (8 * N) (c8 - 2))) rfl (by kernel_rfl) (by kernel_rfl) (by kernel_rfl) (fun w w' h hc => h.no hc) (fun _ _ _ h => by cases h.1) _ _ _ _ (by kernel_rfl) (by kernel_rfl) (by kernel_rfl) (Or.inl ⟨by kernel_rfl, fun w' hw' => ?y31c⟩) hT ?r31c
                                                                  case y31c =>
                                                                    go_simp
                                                                    rw [if_pos (show (2:Int) ≤ 2 + 8 * (N : Int) from by omega)]
                                                                    exact ⟨rfl, Ch.refl _ _⟩
                                                                  case r31c =>
                                                                    simp only [Act.put]
                                                                    refine wpP_take [34] (i := 32) (v := .bool true) rfl (by kernel_rfl) (by kernel_rfl) (by kernel_rfl) (fun w w' h hc => h.no hc) (fun _ _ _ h => by cases h.1) _ _ _ _ (by kernel_rfl) (by kernel_rfl) (by kernel_rfl) (Or.inl ⟨by kernel_rfl, fun w' hw' => ?y32c⟩) hT ?r32c
                                                                    case y32c =>
                                                                      go_simp
                                                                      exact quiet_enter (HSm.out.2.2 _ hw')
                                                                    case r32c =>
                                                                      simp only [Act.put]
                                                                      refine wpP_take [34] (i := 33) (v := .bool true) rfl (by kernel_rfl) (by kernel_rfl) (by kernel_rfl) (fun w w' h hc => h.no hc) (fun _ _ _ h => by cases h.1) _ _ _ _ (by kernel_rfl) (by kernel_rfl) (by kernel_rfl) (Or.inl ⟨by kernel_rfl, fun w' hw' => ?y33c⟩) hT ?r33c
                                                                      case y33c =>
                                                                        go_simp
                                                                        all_goals first | exact quiet_value | exact ⟨rfl, Ch.refl _ _⟩
                                                                      case r33c =>
                                                                        simp only [Act.put]
                                                                        refine wpP_1 (i := 34) rfl (by kernel_rfl) (fun u hu K hK => ?_)
                                                                        replace hT := hT.no hu
                                                                        clear hu
                                                                        go_simp
                                                                        refine hK.out _ _ (fun _ => hT) ?_
                                                                        clear hK K
                                                                        try simp only [Act.put]
                                                                        refine wpP_done (eq_of_beq (by kernel_rfl)) (fun u h => ⟨by first | rfl | trivial, ?_⟩) _
                                                                        have G := Lib.hid ((hT.no h).ch)
                                                                        clear h hT
                                                                        go_wp2_with fail
                                                                        all_goals
                                                                          go_ret
                                                                          exact ⟨rfl, G.out⟩

theorem replyFails_walk (W : World) (a0 : Int) (a1 : Option Addr) (cap1 : Nat) (xs1 : List Int) (a2 : Int) (w0 : (Lit.int .i64 a0).wf = true) (c1 : Cls W a1 (ints .i64 xs1)) (_l1 : xs1.length ≤ cap1) (b1 : xs1.length * 8 ≤ 140737488351232) (_w1 : ∀ x ∈ xs1, (Lit.int .i64 x).wf = true) (_w2 : (Lit.int .i64 a2).wf = true) :
    Calls Try.prog 6 #[.int .i64 a0, .slice a1 xs1.length cap1, .int .i64 a2] W fun e w' => e = .returned (.bool true) ∧ Below W.heap.size W w' :=
  (replyFails_core W a0 a1 cap1 xs1 a2 c1 (by omega) (bounds_i64 w0)).mono fun e w' ⟨h1, h2⟩ => ⟨h1, h2.same⟩
end Go.Proofs.Ytpjcfelknkddfaa
