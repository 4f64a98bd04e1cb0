/- Part 46 of the way to the statement: the walk and what it needs. -/
import Derived.Test.YtfjdfnlkobeehaaGreatKSoF28
import Derived.Test.YtfjdfnlkobeehaaGreatKSoF31
import Derived.Test.YtfjdfnlkobeehaaGreatKSoF45
section
set_option maxRecDepth 100000
set_option linter.unusedVariables false
set_option linter.unusedSimpArgs false
namespace Go.Proofs.YtfjdfnlkobeehaaGreat


def mkB (i : Nat) : Nat := 1358954496 + i
def bkCells (es : List (Nat × Nat × Nat)) : List PV := es.map fun e => .ref e.1 0 e.2.1 e.2.2 1
def bkMarks (n : Nat) : List Nat := (List.range n).map mkB
theorem bkCells_len (es : List (Nat × Nat × Nat)) : (bkCells es).length = es.length := by simp [bkCells]
theorem bkMarks_len (n : Nat) : (bkMarks n).length = n := by simp [bkMarks]
attribute [simp] bkCells_len bkMarks_len
attribute [go_sem] bkCells_len bkMarks_len
theorem bkMarks_get {n i : Nat} (h : i < n) : (bkMarks n).getD i 0 = mkB i := by
  unfold bkMarks
  rw [List.getD_eq_getElem?_getD, List.getElem?_map, List.getElem?_range h]; rfl
structure BK (H : Nat → Option (List PV)) (nx idb : Nat) (es : List (Nat × Nat × Nat)) (B : Nat → Prop) : Prop where
  self : B idb
  lt : ∀ j, B j → j < nx
  mem : ∀ (i : Nat) (e : Nat × Nat × Nat), es[i]? = some e → B e.1 ∧ e.1 ≠ idb ∧ e.2.1 ≤ 4096 ∧ ∃ rest : List PV, H e.1 = some ((List.replicate e.2.1 (mkB i)).map U ++ rest)
  top : (es = [] ∧ H idb = some [.val (.slice none 0 0), .val (.slice none 0 0)]) ∨
    (0 < es.length ∧ ∃ (idl capl : Nat) (restl : List Value) (idm capm : Nat) (restm : List Value), idl ≠ idb ∧ idm ≠ idb ∧ idl ≠ idm ∧ B idl ∧ B idm ∧ (∀ e ∈ es, e.1 ≠ idl ∧ e.1 ≠ idm) ∧
      H idb = some [.ref idl 0 es.length capl 1, .ref idm 0 es.length capm 1] ∧ H idl = some (bkCells es ++ restl.map .val) ∧ es.length + restl.length = capl ∧ H idm = some ((bkMarks es.length).map U ++ restm.map .val) ∧ es.length + restm.length = capm)


def ownQ (H : Nat → Option (List PV)) (nx idb : Nat) (es : List (Nat × Nat × Nat)) (B : Nat → Prop) (id cap : Nat) (r : PV) (H' : Nat → Option (List PV)) (nx' : Nat) : Prop :=
  r = .val (.bool true) ∧ ∃ B' : Nat → Prop, BK H' nx' idb (es ++ [(id, Nat.min cap 4096, cap)]) B' ∧ (∀ j, B' j → B j ∨ j = id ∨ nx ≤ j) ∧ ∀ j, ¬ B j → j ≠ id → j < nx → H' j = H j

theorem fill_step {cells : List PV} {k m : Nat} (h : k < cells.length) : spl ((List.replicate k m).map U ++ cells.drop k) k [PV.val (.int .u32 m)] = (List.replicate (k + 1) m).map U ++ cells.drop (k + 1) := by
  have e : ((List.replicate k m).map U).length = k := by simp
  unfold spl
  rw [List.length_singleton, List.take_append_of_le_length (by omega), List.take_of_length_le (by omega), List.drop_append, e, List.drop_of_length_le (by omega), show k + 1 - k = 1 by omega, List.drop_drop]
  rw [List.replicate_succ']
  simp [U]

theorem own_first {H F : Nat → Option (List PV)} {nx nx' idb id cap N il im capl capm : Nat} {B : Nat → Prop} {restl restm : List Value} {rest : List PV} (hB : BK H nx idb [] B) (hid : ¬ B id) (hidn : id < nx) (hN : N ≤ 4096) (hnx : nx ≤ nx')
    (hil : nx ≤ il) (hil2 : il < nx') (him : nx ≤ im) (him2 : im < nx') (hne : il ≠ im)
    (e1 : F idb = some [.ref il 0 1 capl 1, .ref im 0 1 capm 1]) (e2 : F il = some (PV.ref id 0 N cap 1 :: restl.map .val)) (q1 : 1 + restl.length = capl) (e3 : F im = some (PV.val (.int .u32 (mkB 0 : Nat)) :: restm.map .val)) (q2 : 1 + restm.length = capm)
    (e4 : F id = some ((List.replicate N (mkB 0)).map U ++ rest)) (e5 : ∀ j, j ≠ idb → j ≠ id → j < nx → F j = H j) :
    ∃ B' : Nat → Prop, BK F nx' idb [(id, N, cap)] B' ∧ (∀ j, B' j → B j ∨ j = id ∨ nx ≤ j) ∧ ∀ j, ¬ B j → j ≠ id → j < nx → F j = H j := by
  have hib : idb ≠ id := fun e => hid (e ▸ hB.self)
  have hibn := hB.lt _ hB.self
  refine ⟨fun j => B j ∨ j = id ∨ j = il ∨ j = im, ⟨.inl hB.self, fun j hj => ?_, fun i e he => ?_, .inr ⟨Nat.one_pos, il, capl, restl, im, capm, restm, by omega, by omega, hne, .inr (.inr (.inl rfl)), .inr (.inr (.inr rfl)), fun e he => ?_, e1, e2, q1, e3, q2⟩⟩, fun j hj => ?_, fun j h1 h2 h3 => e5 j (fun e => h1 (e ▸ hB.self)) h2 h3⟩
  · rcases hj with h | rfl | rfl | rfl
    · have := hB.lt _ h; omega
    · omega
    · exact hil2
    · exact him2
  · cases i with
    | zero =>
      have : e = (id, N, cap) := by simpa using he.symm
      subst this
      exact ⟨.inr (.inl rfl), Ne.symm hib, hN, rest, e4⟩
    | succ i => simp at he
  · have : e = (id, N, cap) := by simpa using he
    subst this
    exact ⟨by simp; omega, by simp; omega⟩
  · rcases hj with h | rfl | rfl | rfl
    · exact .inl h
    · exact .inr (.inl rfl)
    · exact .inr (.inr hil)
    · exact .inr (.inr him)
theorem own_next {H F : Nat → Option (List PV)} {nx nx' idb id cap N idl idm il im capl capm : Nat} {es : List (Nat × Nat × Nat)} {B : Nat → Prop} {restl restm : List Value} {rest : List PV} (hB : BK H nx idb es B) (h0 : 0 < es.length) (hid : ¬ B id) (hidn : id < nx) (hN : N ≤ 4096) (hnx : nx ≤ nx')
    (g1 : idl ≠ idb) (g2 : idm ≠ idb) (g3 : idl ≠ idm) (g4 : B idl) (g5 : B idm) (g6 : ∀ e ∈ es, e.1 ≠ idl ∧ e.1 ≠ idm)
    (hil : il = idl ∨ nx ≤ il) (hil2 : il < nx') (him : im = idm ∨ nx ≤ im) (him2 : im < nx') (hne : il ≠ im)
    (e1 : F idb = some [.ref il 0 (es.length + 1) capl 1, .ref im 0 (es.length + 1) capm 1]) (e2 : F il = some ((bkCells es ++ [PV.ref id 0 N cap 1]) ++ restl.map .val)) (q1 : es.length + 1 + restl.length = capl)
    (e3 : F im = some ((bkMarks es.length ++ [mkB es.length]).map U ++ restm.map .val)) (q2 : es.length + 1 + restm.length = capm)
    (e4 : F id = some ((List.replicate N (mkB es.length)).map U ++ rest)) (e5 : ∀ j, j ≠ idb → j ≠ idl → j ≠ idm → j ≠ id → j < nx → F j = H j) :
    ∃ B' : Nat → Prop, BK F nx' idb (es ++ [(id, N, cap)]) B' ∧ (∀ j, B' j → B j ∨ j = id ∨ nx ≤ j) ∧ ∀ j, ¬ B j → j ≠ id → j < nx → F j = H j := by
  have hib : idb ≠ id := fun e => hid (e ▸ hB.self)
  have hibn := hB.lt _ hB.self
  have hln := hB.lt _ g4
  have hmn := hB.lt _ g5
  have hli : idl ≠ id := fun e => hid (e ▸ g4)
  have hmi : idm ≠ id := fun e => hid (e ▸ g5)
  have hes : ∀ e ∈ es, B e.1 ∧ e.1 ≠ idb := fun e he => by
    obtain ⟨i, hi⟩ := List.getElem?_of_mem he
    exact ⟨(hB.mem i e hi).1, (hB.mem i e hi).2.1⟩
  refine ⟨fun j => B j ∨ j = id ∨ j = il ∨ j = im, ⟨.inl hB.self, fun j hj => ?_, fun i e he => ?_, .inr ⟨by simp, il, capl, restl, im, capm, restm, by omega, by omega, hne, .inr (.inr (.inl rfl)), .inr (.inr (.inr rfl)), fun e he => ?_, by simpa using e1, ?_, by simpa using q1, ?_, by simpa using q2⟩⟩, fun j hj => ?_,
    fun j h1 h2 h3 => e5 j (fun e => h1 (e ▸ hB.self)) (fun e => h1 (e ▸ g4)) (fun e => h1 (e ▸ g5)) h2 h3⟩
  · rcases hj with h | rfl | rfl | rfl
    · have := hB.lt _ h; omega
    · omega
    · exact hil2
    · exact him2
  · rcases Nat.lt_or_ge i es.length with hi | hi
    · rw [List.getElem?_append_left hi] at he
      obtain ⟨p1, p2, p3, r, p4⟩ := hB.mem i e he
      have hm := List.mem_of_getElem? he
      refine ⟨.inl p1, p2, p3, r, ?_⟩
      rw [e5 _ p2 (g6 e hm).1 (g6 e hm).2 (fun h => hid (h ▸ p1)) (hB.lt _ p1), p4]
    · rw [List.getElem?_append_right hi] at he
      have hi0 : i - es.length = 0 := by
        rcases Nat.eq_zero_or_pos (i - es.length) with h | h
        · exact h
        · rw [List.getElem?_eq_none (by simp; omega)] at he; simp at he
      rw [hi0] at he
      have : e = (id, N, cap) := by simpa using he.symm
      subst this
      have : i = es.length := by omega
      subst this
      exact ⟨.inr (.inl rfl), Ne.symm hib, hN, rest, e4⟩
  · rcases List.mem_append.1 he with he | he
    · have h1 := hes e he
      have h2 := g6 e he
      have h3 := hB.lt _ h1.1
      exact ⟨by rcases hil with rfl | h; exact h2.1; omega, by rcases him with rfl | h; exact h2.2; omega⟩
    · have : e = (id, N, cap) := by simpa using he
      subst this
      exact ⟨by simp; rcases hil with rfl | h <;> omega, by simp; rcases him with rfl | h <;> omega⟩
  · rw [e2]; simp [bkCells]
  · rw [e3]
    have : bkMarks (es ++ [(id, N, cap)]).length = bkMarks es.length ++ [mkB es.length] := by
      unfold bkMarks
      rw [List.length_append, List.length_singleton, List.range_succ, List.map_append]; rfl
    rw [this]
  · rcases hj with h | rfl | rfl | rfl
    · exact .inl h
    · exact .inr (.inl rfl)
    · rcases hil with rfl | h
      · exact .inl g4
      · exact .inr (.inr h)
    · rcases him with rfl | h
      · exact .inl g5
      · exact .inr (.inr h)

set_option maxHeartbeats 4000000 in
theorem own_calls {H : Nat → Option (List PV)} {nx idb : Nat} {es : List (Nat × Nat × Nat)} {B : Nat → Prop} {id n cap : Nat} {cells : List PV} (hB : BK H nx idb es B) (hes : es.length ≤ 100000) (hid : ¬ B id) (hidn : id < nx)
    (hc0 : H id = some cells) (hlen : cells.length = cap) (hn : n ≤ cap) : PCalls Tryz.prog 43 [.ptr idb 0, .ref id 0 n cap 1] H nx (ownQ H nx idb es B id cap) := by
  have hib : idb ≠ id := fun e => hid (e ▸ hB.self)
  have hibn := hB.lt _ hB.self
  obtain ⟨N, hN⟩ : ∃ N, N = Nat.min cap 4096 := ⟨_, rfl⟩
  have hN1 : N ≤ cap := by rw [hN]; exact Nat.min_le_left _ _
  have hN2 : N ≤ 4096 := by rw [hN]; exact Nat.min_le_right _ _
  unfold ownQ
  rw [← hN]
  rcases hB.top with ⟨he, hH0⟩ | ⟨he, idl, capl, restl, idm, capm, restm, g1, g2, g3, g4, g5, g6, g7, g8, g9, g10, g11⟩
  · subst he
    by_cases h4 : 4096 < cap
    · have hN3 : N = 4096 := by rw [hN]; exact Nat.min_eq_right (by omega)
      refine PCalls.enter (n := 54) (rs := [.tmp 4]) (tb := []) Tryz.func43 rfl rfl rfl (by kernel_rfl) (by kernel_rfl) (by simp) fun c hc ht => ?_
      simp -implicitDefEqProofs (disch := omega) only [go_sem, ht, hH0]
      refine LW.loopW hc ht (by kernel_rfl) (fun t => t.sl 0 = .ptr idb 0 ∧ t.sl 5 = .ref id 0 N cap 1 ∧ t.sl 6 = .val (.int .u32 (mkB 0 : Nat)) ∧ t.nx = nx ∧ ∃ k : Nat, k ≤ N ∧ t.sl 7 = .val (.int .i64 k) ∧ t.H id = some ((List.replicate k (mkB 0)).map U ++ cells.drop k) ∧ ∀ j, j ≠ id → t.H j = H j)
        (fun t => match t.sl 7 with | .val (.int _ k) => N - k.toNat | _ => 0) ?_ ?_
      · simp -implicitDefEqProofs (disch := omega) only [go_sem, ht, hH0]
        exact ⟨by rw [hN3], rfl, 0, Nat.zero_le _, rfl, hc0, fun _ _ => trivial⟩
      · rintro t ⟨h0, h5, h6, en, k, hk, h7, hH, hfr⟩
        by_cases hkN : k = N
        · have hHb : t.H idb = some [.val (.slice none 0 0), .val (.slice none 0 0)] := by rw [hfr _ (by omega)]; exact hH0
          rw [hkN] at hH
          simp -implicitDefEqProofs (disch := omega) only [go_sem, ht, h0, h5, h6, h7, hHb, en]
          refine append_nil (e := 27) (b := 24) (m := 1) (z := .slice none 0 0) (ys := [.ref id 0 N cap 1]) T26_elem rfl T27_size T27_bytes T27_zero (by simp -implicitDefEqProofs (disch := omega) only [go_sem, ht, srcP_ref]) (by simp -implicitDefEqProofs (disch := omega) only [go_sem, ht]) (by omega) (fun h0 => absurd h0 (by decide)) fun capl restl q1 q2 => ?_
          simp -implicitDefEqProofs (disch := omega) only [go_sem, ht, h0, h5, h6, h7, hHb, en]
          refine append_nil (e := 67) (b := 4) (m := 1) (z := .int .u32 0) (ys := [.val (.int .u32 (mkB 0 : Nat))]) T27_elem rfl T67_size T67_bytes T67_zero (by simp -implicitDefEqProofs (disch := omega) only [go_sem, ht, srcP_ref]) (by simp -implicitDefEqProofs (disch := omega) only [go_sem, ht]) (by omega) (fun h0 => absurd h0 (by decide)) fun capm restm q3 q4 => ?_
          simp -implicitDefEqProofs (disch := omega) only [go_sem, ht, h0, h5, h6, h7, hHb, en]
          refine end_plain (by simp -implicitDefEqProofs (disch := omega) only [go_sem, ht] <;> rfl) ?_
          simp only [tupP_1]
          refine ⟨trivial, own_first (il := nx + 1) (im := nx + 1 + 1 + 1) (restl := restl) (restm := restm) (capl := capl) (capm := capm) (rest := cells.drop N) hB hid hidn hN2 (by simp -implicitDefEqProofs (disch := omega) only [go_sem, ht, en] <;> omega) (by omega) (by simp -implicitDefEqProofs (disch := omega) only [go_sem, ht, en] <;> omega) (by omega) (by simp -implicitDefEqProofs (disch := omega) only [go_sem, ht, en] <;> omega) (by omega) (by simp -implicitDefEqProofs (disch := omega) only [go_sem, ht, en, hHb]) (by simp -implicitDefEqProofs (disch := omega) only [go_sem, ht, en, hHb]) (by omega) (by simp -implicitDefEqProofs (disch := omega) only [go_sem, ht, en, hHb]) (by omega) (by simp -implicitDefEqProofs (disch := omega) only [go_sem, ht, en, hHb, hH]) (fun j hj1 hj2 hj3 => by simp -implicitDefEqProofs (disch := omega) only [go_sem, ht, en, hHb]; exact hfr j hj2)⟩
        · have hdl : (cells.drop k).length = cells.length - k := List.length_drop
          have fs := fill_step (cells := cells) (k := k) (m := mkB 0) (by omega)
          simp -implicitDefEqProofs (disch := omega) only [go_sem, ht, h0, h5, h6, h7, hH, fs, en]
          exact ⟨⟨k + 1, by omega, rfl, rfl, fun j hj => by rw [upd_ne _ _ hj]; exact hfr j hj⟩, by omega⟩
    · have hN3 : N = cap := by rw [hN]; exact Nat.min_eq_left (by omega)
      refine PCalls.enter (n := 54) (rs := [.tmp 4]) (tb := []) Tryz.func43 rfl rfl rfl (by kernel_rfl) (by kernel_rfl) (by simp) fun c hc ht => ?_
      simp -implicitDefEqProofs (disch := omega) only [go_sem, ht, hH0]
      refine LW.loopW hc ht (by kernel_rfl) (fun t => t.sl 0 = .ptr idb 0 ∧ t.sl 5 = .ref id 0 N cap 1 ∧ t.sl 6 = .val (.int .u32 (mkB 0 : Nat)) ∧ t.nx = nx ∧ ∃ k : Nat, k ≤ N ∧ t.sl 7 = .val (.int .i64 k) ∧ t.H id = some ((List.replicate k (mkB 0)).map U ++ cells.drop k) ∧ ∀ j, j ≠ id → t.H j = H j)
        (fun t => match t.sl 7 with | .val (.int _ k) => N - k.toNat | _ => 0) ?_ ?_
      · simp -implicitDefEqProofs (disch := omega) only [go_sem, ht, hH0]
        exact ⟨by rw [hN3], rfl, 0, Nat.zero_le _, rfl, hc0, fun _ _ => trivial⟩
      · rintro t ⟨h0, h5, h6, en, k, hk, h7, hH, hfr⟩
        by_cases hkN : k = N
        · have hHb : t.H idb = some [.val (.slice none 0 0), .val (.slice none 0 0)] := by rw [hfr _ (by omega)]; exact hH0
          rw [hkN] at hH
          simp -implicitDefEqProofs (disch := omega) only [go_sem, ht, h0, h5, h6, h7, hHb, en]
          refine append_nil (e := 27) (b := 24) (m := 1) (z := .slice none 0 0) (ys := [.ref id 0 N cap 1]) T26_elem rfl T27_size T27_bytes T27_zero (by simp -implicitDefEqProofs (disch := omega) only [go_sem, ht, srcP_ref]) (by simp -implicitDefEqProofs (disch := omega) only [go_sem, ht]) (by omega) (fun h0 => absurd h0 (by decide)) fun capl restl q1 q2 => ?_
          simp -implicitDefEqProofs (disch := omega) only [go_sem, ht, h0, h5, h6, h7, hHb, en]
          refine append_nil (e := 67) (b := 4) (m := 1) (z := .int .u32 0) (ys := [.val (.int .u32 (mkB 0 : Nat))]) T27_elem rfl T67_size T67_bytes T67_zero (by simp -implicitDefEqProofs (disch := omega) only [go_sem, ht, srcP_ref]) (by simp -implicitDefEqProofs (disch := omega) only [go_sem, ht]) (by omega) (fun h0 => absurd h0 (by decide)) fun capm restm q3 q4 => ?_
          simp -implicitDefEqProofs (disch := omega) only [go_sem, ht, h0, h5, h6, h7, hHb, en]
          refine end_plain (by simp -implicitDefEqProofs (disch := omega) only [go_sem, ht] <;> rfl) ?_
          simp only [tupP_1]
          refine ⟨trivial, own_first (il := nx + 1) (im := nx + 1 + 1 + 1) (restl := restl) (restm := restm) (capl := capl) (capm := capm) (rest := cells.drop N) hB hid hidn hN2 (by simp -implicitDefEqProofs (disch := omega) only [go_sem, ht, en] <;> omega) (by omega) (by simp -implicitDefEqProofs (disch := omega) only [go_sem, ht, en] <;> omega) (by omega) (by simp -implicitDefEqProofs (disch := omega) only [go_sem, ht, en] <;> omega) (by omega) (by simp -implicitDefEqProofs (disch := omega) only [go_sem, ht, en, hHb]) (by simp -implicitDefEqProofs (disch := omega) only [go_sem, ht, en, hHb]) (by omega) (by simp -implicitDefEqProofs (disch := omega) only [go_sem, ht, en, hHb]) (by omega) (by simp -implicitDefEqProofs (disch := omega) only [go_sem, ht, en, hHb, hH]) (fun j hj1 hj2 hj3 => by simp -implicitDefEqProofs (disch := omega) only [go_sem, ht, en, hHb]; exact hfr j hj2)⟩
        · have hdl : (cells.drop k).length = cells.length - k := List.length_drop
          have fs := fill_step (cells := cells) (k := k) (m := mkB 0) (by omega)
          simp -implicitDefEqProofs (disch := omega) only [go_sem, ht, h0, h5, h6, h7, hH, fs, en]
          exact ⟨⟨k + 1, by omega, rfl, rfl, fun j hj => by rw [upd_ne _ _ hj]; exact hfr j hj⟩, by omega⟩
  · have hln := hB.lt _ g4
    have hmn := hB.lt _ g5
    have hli : idl ≠ id := fun e => hid (e ▸ g4)
    have hmi : idm ≠ id := fun e => hid (e ▸ g5)
    by_cases h4 : 4096 < cap
    · have hN3 : N = 4096 := by rw [hN]; exact Nat.min_eq_right (by omega)
      refine PCalls.enter (n := 54) (rs := [.tmp 4]) (tb := []) Tryz.func43 rfl rfl rfl (by kernel_rfl) (by kernel_rfl) (by simp) fun c hc ht => ?_
      simp -implicitDefEqProofs (disch := omega) only [go_sem, ht, g7]
      refine LW.loopW hc ht (by kernel_rfl) (fun t => t.sl 0 = .ptr idb 0 ∧ t.sl 5 = .ref id 0 N cap 1 ∧ t.sl 6 = .val (.int .u32 (mkB es.length : Nat)) ∧ t.nx = nx ∧ ∃ k : Nat, k ≤ N ∧ t.sl 7 = .val (.int .i64 k) ∧ t.H id = some ((List.replicate k (mkB es.length)).map U ++ cells.drop k) ∧ ∀ j, j ≠ id → t.H j = H j)
        (fun t => match t.sl 7 with | .val (.int _ k) => N - k.toNat | _ => 0) ?_ ?_
      · simp -implicitDefEqProofs (disch := omega) only [go_sem, ht, g7]
        exact ⟨by rw [hN3], rfl, 0, Nat.zero_le _, rfl, hc0, fun _ _ => trivial⟩
      · rintro t ⟨h0, h5, h6, en, k, hk, h7, hH, hfr⟩
        by_cases hkN : k = N
        · have hHb : t.H idb = some [.ref idl 0 es.length capl 1, .ref idm 0 es.length capm 1] := by rw [hfr _ (by omega)]; exact g7
          have hHl : t.H idl = some (bkCells es ++ restl.map .val) := by rw [hfr _ hli]; exact g8
          have hHm : t.H idm = some ((bkMarks es.length).map U ++ restm.map .val) := by rw [hfr _ hmi]; exact g10
          rw [hkN] at hH
          simp -implicitDefEqProofs (disch := omega) only [go_sem, ht, h0, h5, h6, h7, hHb, en]
          (refine append_ownX (by refine ⟨?_, ?_, ?_, ?_, ?_, ?_, ?_, ?_⟩ <;> (simp -implicitDefEqProofs (disch := omega) only [srcP_ref, srcP_sl, srcP_nil, Option.isSome_some, hHl, en, go_sem, ht] <;> rfl)) (by simp <;> omega) (by first | assumption | (simp <;> omega)) (by first | rfl | simp) (by first | omega | (simp <;> omega)) ?_; intro id1 cap1 rest1 H1 nx1 hH1 hcap1 hid1 hnx1 hfr1 hfs1; simp only [put_nx, withH_nx, put_H, withH_H] at hid1 hnx1 hfr1 hfs1; (try simp only [app_U, ← List.map_append] at hH1))
          have hHb1 : H1 idb = some [.ref idl 0 es.length capl 1, .ref idm 0 es.length capm 1] := by rw [hfr1 _ (by omega) (by omega)]; simp -implicitDefEqProofs (disch := omega) only [go_sem, ht, hHb]
          have hHm1 : H1 idm = some ((bkMarks es.length).map U ++ restm.map .val) := by rw [hfr1 _ (by omega) (by omega)]; simp -implicitDefEqProofs (disch := omega) only [go_sem, ht, hHm]
          simp -implicitDefEqProofs (disch := omega) only [go_sem, ht, h0, h5, h6, h7, hHb1, en]
          (refine append_ownX (by refine ⟨?_, ?_, ?_, ?_, ?_, ?_, ?_, ?_⟩ <;> (simp -implicitDefEqProofs (disch := omega) only [srcP_ref, srcP_sl, srcP_nil, Option.isSome_some, hHm1, en, go_sem, ht] <;> rfl)) (by simp <;> omega) (by first | assumption | (simp <;> omega)) (by first | rfl | simp) (by first | omega | (simp <;> omega)) ?_; intro id2 cap2 rest2 H2 nx2 hH2 hcap2 hid2 hnx2 hfr2 hfs2; simp only [put_nx, withH_nx, put_H, withH_H] at hid2 hnx2 hfr2 hfs2; (try simp only [app_U, ← List.map_append] at hH2))
          have hHb2 : H2 idb = some [.ref id1 0 (es.length + 1) cap1 1, .ref idm 0 es.length capm 1] := by rw [hfr2 _ (by omega) (by omega)]; simp -implicitDefEqProofs (disch := omega) only [go_sem, ht, hHb1]
          have hHl2 : H2 id1 = some (bkCells es ++ [PV.ref id 0 N cap 1] ++ List.map PV.val rest1) := by rw [hfr2 _ (by omega) (by omega)]; simp -implicitDefEqProofs (disch := omega) only [go_sem, ht, hH1]
          have hHi2 : H2 id = some ((List.replicate N (mkB es.length)).map U ++ cells.drop N) := by rw [hfr2 _ (by omega) (by omega)]; simp -implicitDefEqProofs (disch := omega) only [go_sem, ht]; rw [hfr1 _ (by omega) (by omega)]; simp -implicitDefEqProofs (disch := omega) only [go_sem, ht, hH]
          have hFr2 : ∀ j, j ≠ idb → j ≠ idl → j ≠ idm → j ≠ id → j < nx → H2 j = H j := fun j j1 j2 j3 j4 j5 => by
            rw [hfr2 _ (by omega) (by omega)]; simp -implicitDefEqProofs (disch := omega) only [go_sem, ht]; rw [hfr1 _ (by omega) (by omega)]; simp -implicitDefEqProofs (disch := omega) only [go_sem, ht]; exact hfr j j4
          simp -implicitDefEqProofs (disch := omega) only [go_sem, ht, h0, h5, h6, h7, hHb2, en]
          refine end_plain (by simp -implicitDefEqProofs (disch := omega) only [go_sem, ht] <;> rfl) ?_
          simp only [tupP_1]
          refine ⟨trivial, own_next (il := id1) (im := id2) (restl := rest1) (restm := rest2) (capl := cap1) (capm := cap2) (rest := cells.drop N) hB he hid hidn hN2 (by simp -implicitDefEqProofs (disch := omega) only [go_sem, ht, en] <;> omega) g1 g2 g3 g4 g5 g6 (by omega) (by simp -implicitDefEqProofs (disch := omega) only [go_sem, ht, en] <;> omega) (by omega) (by simp -implicitDefEqProofs (disch := omega) only [go_sem, ht, en] <;> omega) (by omega) (by simp -implicitDefEqProofs (disch := omega) only [go_sem, ht, en, hHb2]) (by simp -implicitDefEqProofs (disch := omega) only [go_sem, ht, en, hHl2]) (by omega) (by simp -implicitDefEqProofs (disch := omega) only [go_sem, ht, en]; exact hH2) (by omega) (by simp -implicitDefEqProofs (disch := omega) only [go_sem, ht, en, hHi2]) (fun j j1 j2 j3 j4 j5 => by simp -implicitDefEqProofs (disch := omega) only [go_sem, ht, en]; exact hFr2 j j1 j2 j3 j4 j5)⟩
        · have hdl : (cells.drop k).length = cells.length - k := List.length_drop
          have fs := fill_step (cells := cells) (k := k) (m := mkB es.length) (by omega)
          simp -implicitDefEqProofs (disch := omega) only [go_sem, ht, h0, h5, h6, h7, hH, fs, en]
          exact ⟨⟨k + 1, by omega, rfl, rfl, fun j hj => by rw [upd_ne _ _ hj]; exact hfr j hj⟩, by omega⟩
    · have hN3 : N = cap := by rw [hN]; exact Nat.min_eq_left (by omega)
      refine PCalls.enter (n := 54) (rs := [.tmp 4]) (tb := []) Tryz.func43 rfl rfl rfl (by kernel_rfl) (by kernel_rfl) (by simp) fun c hc ht => ?_
      simp -implicitDefEqProofs (disch := omega) only [go_sem, ht, g7]
      refine LW.loopW hc ht (by kernel_rfl) (fun t => t.sl 0 = .ptr idb 0 ∧ t.sl 5 = .ref id 0 N cap 1 ∧ t.sl 6 = .val (.int .u32 (mkB es.length : Nat)) ∧ t.nx = nx ∧ ∃ k : Nat, k ≤ N ∧ t.sl 7 = .val (.int .i64 k) ∧ t.H id = some ((List.replicate k (mkB es.length)).map U ++ cells.drop k) ∧ ∀ j, j ≠ id → t.H j = H j)
        (fun t => match t.sl 7 with | .val (.int _ k) => N - k.toNat | _ => 0) ?_ ?_
      · simp -implicitDefEqProofs (disch := omega) only [go_sem, ht, g7]
        exact ⟨by rw [hN3], rfl, 0, Nat.zero_le _, rfl, hc0, fun _ _ => trivial⟩
      · rintro t ⟨h0, h5, h6, en, k, hk, h7, hH, hfr⟩
        by_cases hkN : k = N
        · have hHb : t.H idb = some [.ref idl 0 es.length capl 1, .ref idm 0 es.length capm 1] := by rw [hfr _ (by omega)]; exact g7
          have hHl : t.H idl = some (bkCells es ++ restl.map .val) := by rw [hfr _ hli]; exact g8
          have hHm : t.H idm = some ((bkMarks es.length).map U ++ restm.map .val) := by rw [hfr _ hmi]; exact g10
          rw [hkN] at hH
          simp -implicitDefEqProofs (disch := omega) only [go_sem, ht, h0, h5, h6, h7, hHb, en]
          (refine append_ownX (by refine ⟨?_, ?_, ?_, ?_, ?_, ?_, ?_, ?_⟩ <;> (simp -implicitDefEqProofs (disch := omega) only [srcP_ref, srcP_sl, srcP_nil, Option.isSome_some, hHl, en, go_sem, ht] <;> rfl)) (by simp <;> omega) (by first | assumption | (simp <;> omega)) (by first | rfl | simp) (by first | omega | (simp <;> omega)) ?_; intro id1 cap1 rest1 H1 nx1 hH1 hcap1 hid1 hnx1 hfr1 hfs1; simp only [put_nx, withH_nx, put_H, withH_H] at hid1 hnx1 hfr1 hfs1; (try simp only [app_U, ← List.map_append] at hH1))
          have hHb1 : H1 idb = some [.ref idl 0 es.length capl 1, .ref idm 0 es.length capm 1] := by rw [hfr1 _ (by omega) (by omega)]; simp -implicitDefEqProofs (disch := omega) only [go_sem, ht, hHb]
          have hHm1 : H1 idm = some ((bkMarks es.length).map U ++ restm.map .val) := by rw [hfr1 _ (by omega) (by omega)]; simp -implicitDefEqProofs (disch := omega) only [go_sem, ht, hHm]
          simp -implicitDefEqProofs (disch := omega) only [go_sem, ht, h0, h5, h6, h7, hHb1, en]
          (refine append_ownX (by refine ⟨?_, ?_, ?_, ?_, ?_, ?_, ?_, ?_⟩ <;> (simp -implicitDefEqProofs (disch := omega) only [srcP_ref, srcP_sl, srcP_nil, Option.isSome_some, hHm1, en, go_sem, ht] <;> rfl)) (by simp <;> omega) (by first | assumption | (simp <;> omega)) (by first | rfl | simp) (by first | omega | (simp <;> omega)) ?_; intro id2 cap2 rest2 H2 nx2 hH2 hcap2 hid2 hnx2 hfr2 hfs2; simp only [put_nx, withH_nx, put_H, withH_H] at hid2 hnx2 hfr2 hfs2; (try simp only [app_U, ← List.map_append] at hH2))
          have hHb2 : H2 idb = some [.ref id1 0 (es.length + 1) cap1 1, .ref idm 0 es.length capm 1] := by rw [hfr2 _ (by omega) (by omega)]; simp -implicitDefEqProofs (disch := omega) only [go_sem, ht, hHb1]
          have hHl2 : H2 id1 = some (bkCells es ++ [PV.ref id 0 N cap 1] ++ List.map PV.val rest1) := by rw [hfr2 _ (by omega) (by omega)]; simp -implicitDefEqProofs (disch := omega) only [go_sem, ht, hH1]
          have hHi2 : H2 id = some ((List.replicate N (mkB es.length)).map U ++ cells.drop N) := by rw [hfr2 _ (by omega) (by omega)]; simp -implicitDefEqProofs (disch := omega) only [go_sem, ht]; rw [hfr1 _ (by omega) (by omega)]; simp -implicitDefEqProofs (disch := omega) only [go_sem, ht, hH]
          have hFr2 : ∀ j, j ≠ idb → j ≠ idl → j ≠ idm → j ≠ id → j < nx → H2 j = H j := fun j j1 j2 j3 j4 j5 => by
            rw [hfr2 _ (by omega) (by omega)]; simp -implicitDefEqProofs (disch := omega) only [go_sem, ht]; rw [hfr1 _ (by omega) (by omega)]; simp -implicitDefEqProofs (disch := omega) only [go_sem, ht]; exact hfr j j4
          simp -implicitDefEqProofs (disch := omega) only [go_sem, ht, h0, h5, h6, h7, hHb2, en]
          refine end_plain (by simp -implicitDefEqProofs (disch := omega) only [go_sem, ht] <;> rfl) ?_
          simp only [tupP_1]
          refine ⟨trivial, own_next (il := id1) (im := id2) (restl := rest1) (restm := rest2) (capl := cap1) (capm := cap2) (rest := cells.drop N) hB he hid hidn hN2 (by simp -implicitDefEqProofs (disch := omega) only [go_sem, ht, en] <;> omega) g1 g2 g3 g4 g5 g6 (by omega) (by simp -implicitDefEqProofs (disch := omega) only [go_sem, ht, en] <;> omega) (by omega) (by simp -implicitDefEqProofs (disch := omega) only [go_sem, ht, en] <;> omega) (by omega) (by simp -implicitDefEqProofs (disch := omega) only [go_sem, ht, en, hHb2]) (by simp -implicitDefEqProofs (disch := omega) only [go_sem, ht, en, hHl2]) (by omega) (by simp -implicitDefEqProofs (disch := omega) only [go_sem, ht, en]; exact hH2) (by omega) (by simp -implicitDefEqProofs (disch := omega) only [go_sem, ht, en, hHi2]) (fun j j1 j2 j3 j4 j5 => by simp -implicitDefEqProofs (disch := omega) only [go_sem, ht, en]; exact hFr2 j j1 j2 j3 j4 j5)⟩
        · have hdl : (cells.drop k).length = cells.length - k := List.length_drop
          have fs := fill_step (cells := cells) (k := k) (m := mkB es.length) (by omega)
          simp -implicitDefEqProofs (disch := omega) only [go_sem, ht, h0, h5, h6, h7, hH, fs, en]
          exact ⟨⟨k + 1, by omega, rfl, rfl, fun j hj => by rw [upd_ne _ _ hj]; exact hfr j hj⟩, by omega⟩
end Go.Proofs.YtfjdfnlkobeehaaGreat

namespace Go.Proofs.YtfjdfnlkobeehaaGreat

theorem bkCells_get {es : List (Nat × Nat × Nat)} {i : Nat} {e : Nat × Nat × Nat} (l : List PV) (h : es[i]? = some e) : (bkCells es ++ l)[i]? = some (.ref e.1 0 e.2.1 e.2.2 1) := by
  have hi : i < es.length := (List.getElem?_eq_some_iff.1 h).1
  rw [List.getElem?_append_left (by rw [bkCells_len]; exact hi)]
  unfold bkCells
  rw [List.getElem?_map, h]; rfl
theorem repl_get {n m k : Nat} (h : k < n) : (List.replicate n m).getD k 0 = m := by
  rw [List.getD_eq_getElem?_getD, List.getElem?_replicate, if_pos h]; rfl

theorem done_calls {H : Nat → Option (List PV)} {nx idb : Nat} {es : List (Nat × Nat × Nat)} {B : Nat → Prop} (hB : BK H nx idb es B) (hes : es.length ≤ 100000) :
    PCalls Tryz.prog 13 [.ptr idb 0] H nx (memQ (.val (.bool true)) H nx) := by
  rcases hB.top with ⟨he, hH0⟩ | ⟨he, idl, capl, restl, idm, capm, restm, g1, g2, g3, g4, g5, g6, g7, g8, g9, g10, g11⟩
  · refine PCalls.enter (n := 44) (rs := [.tmp 2]) (tb := [(7, [(0, []), (1, []), (2, []), (3, []), (4, []), (5, []), (6, []), (7, []), (8, []), (9, []), (10, []), (11, []), (12, []), (13, []), (14, []), (15, []), (16, []), (17, [])]), (1000007, [(0, []), (1, []), (3, []), (7, []), (0, []), (31, []), (63, []), (0, []), (255, []), (511, []), (0, []), (1024, []), (3072, []), (7168, []), (0, []), (31744, []), (64512, []), (131071, [])])]) Tryz.func13 rfl rfl rfl (by kernel_rfl) (by kernel_rfl) (by simp) fun c hc ht => ?_
    simp -implicitDefEqProofs (disch := omega) only [go_sem, ht]
    refine LW.loopW hc ht (by kernel_rfl) (fun t => t.sl 0 = .ptr idb 0 ∧ t.H = H ∧ t.nx = nx ∧ t.sl 3 = .val (.int .i64 0)) (fun _ => 0) ?_ ?_
    · simp -implicitDefEqProofs (disch := omega) only [go_sem, ht]
    · rintro t ⟨h0, eH, en, h3⟩
      simp -implicitDefEqProofs (disch := omega) only [go_sem, ht, h0, eH, en, h3, hH0]
      (refine end_plain (by simp -implicitDefEqProofs (disch := omega) only [eH, en, go_sem, ht] <;> rfl) ?_; simp only [tupP_1, tupP_2]; refine ⟨?_, ?_, ?_⟩ <;> try simp -implicitDefEqProofs (disch := omega) only [eH, en, go_sem, ht])
  · refine PCalls.enter (n := 44) (rs := [.tmp 2]) (tb := [(7, [(0, []), (1, []), (2, []), (3, []), (4, []), (5, []), (6, []), (7, []), (8, []), (9, []), (10, []), (11, []), (12, []), (13, []), (14, []), (15, []), (16, []), (17, [])]), (1000007, [(0, []), (1, []), (3, []), (7, []), (0, []), (31, []), (63, []), (0, []), (255, []), (511, []), (0, []), (1024, []), (3072, []), (7168, []), (0, []), (31744, []), (64512, []), (131071, [])])]) Tryz.func13 rfl rfl rfl (by kernel_rfl) (by kernel_rfl) (by simp) fun c hc ht => ?_
    simp -implicitDefEqProofs (disch := omega) only [go_sem, ht]
    refine LW.loopW hc ht (by kernel_rfl) (fun t => t.sl 0 = .ptr idb 0 ∧ t.H = H ∧ t.nx = nx ∧ ∃ i : Nat, i ≤ es.length ∧ t.sl 3 = .val (.int .i64 i)) (fun t => match t.sl 3 with | .val (.int _ i) => es.length - i.toNat | _ => 0) ?_ ?_
    · simp -implicitDefEqProofs (disch := omega) only [go_sem, ht]
      exact ⟨0, Nat.zero_le _, rfl⟩
    · rintro t ⟨h0, eH, en, i, hi, h3⟩
      by_cases hil : i = es.length
      · simp -implicitDefEqProofs (disch := omega) only [go_sem, ht, h0, eH, en, h3, g7]
        (refine end_plain (by simp -implicitDefEqProofs (disch := omega) only [eH, en, go_sem, ht] <;> rfl) ?_; simp only [tupP_1, tupP_2]; refine ⟨?_, ?_, ?_⟩ <;> try simp -implicitDefEqProofs (disch := omega) only [eH, en, go_sem, ht])
      · obtain ⟨e, hei⟩ : ∃ e, es[i]? = some e := ⟨_, List.getElem?_eq_getElem (by omega)⟩
        obtain ⟨p1, p2, p3, rest, p4⟩ := hB.mem i e hei
        have hgi := bkCells_get (List.map PV.val restl) hei
        have hmi := bkMarks_get (n := es.length) (i := i) (by omega)
        simp -implicitDefEqProofs (disch := omega) only [go_sem, ht, h0, eH, en, h3, g7, g8, g10]
        refine LW.loopW hc ht (by kernel_rfl) (fun s => s.sl 0 = .ptr idb 0 ∧ s.H = H ∧ s.nx = nx ∧ s.sl 3 = .val (.int .i64 i) ∧ ∃ k : Nat, k ≤ e.2.1 ∧ s.sl 4 = .val (.int .i64 k)) (fun s => match s.sl 4 with | .val (.int _ k) => e.2.1 - k.toNat | _ => 0) ?_ ?_
        · simp -implicitDefEqProofs (disch := omega) only [go_sem, ht, h0, eH, en, h3]
          exact ⟨0, Nat.zero_le _, rfl⟩
        · clear h0 eH en
          rintro s ⟨h0, eH, en, h3', k, hk, h4⟩
          by_cases hkn : k = e.2.1
          · simp -implicitDefEqProofs (disch := omega) only [go_sem, ht, h0, eH, en, h3', h4, g7, g8, hgi]
            exact ⟨⟨i + 1, by omega, rfl⟩, by first | omega | (simp only [h3]; omega)⟩
          · have hlr : (List.replicate e.2.1 (mkB i)).length = e.2.1 := List.length_replicate
            have hml := bkMarks_len es.length
            have hgk := repl_get (n := e.2.1) (m := mkB i) (k := k) (by omega)
            simp -implicitDefEqProofs (disch := omega) only [go_sem, ht, h0, eH, en, h3', h4, g7, g8, g10, hgi, p4, hgk, hmi]
            exact ⟨⟨k + 1, by omega, rfl⟩, by omega⟩
end Go.Proofs.YtfjdfnlkobeehaaGreat
end

section
set_option maxRecDepth 100000
set_option linter.unusedVariables false
set_option linter.unusedSimpArgs false
namespace Go.Proofs.YtfjdfnlkobeehaaGreat

theorem BK.mono {H H' : Nat → Option (List PV)} {nx nx' idb : Nat} {es : List (Nat × Nat × Nat)} {B : Nat → Prop} (h : BK H nx idb es B) (hn : nx ≤ nx') (hf : ∀ j, j < nx → H' j = H j) : BK H' nx' idb es B := by
  refine ⟨h.self, fun j hj => Nat.lt_of_lt_of_le (h.lt j hj) hn, fun i e he => ?_, ?_⟩
  · obtain ⟨p1, p2, p3, r, p4⟩ := h.mem i e he
    exact ⟨p1, p2, p3, r, by rw [hf _ (h.lt _ p1)]; exact p4⟩
  · rcases h.top with ⟨he, h0⟩ | ⟨he, idl, capl, restl, idm, capm, restm, g1, g2, g3, g4, g5, g6, g7, g8, g9, g10, g11⟩
    · exact .inl ⟨he, by rw [hf _ (h.lt _ h.self)]; exact h0⟩
    · exact .inr ⟨he, idl, capl, restl, idm, capm, restm, g1, g2, g3, g4, g5, g6, by rw [hf _ (h.lt _ h.self)]; exact g7, by rw [hf _ (h.lt _ g4)]; exact g8, g9, by rw [hf _ (h.lt _ g5)]; exact g10, g11⟩
theorem BK.start {H : Nat → Option (List PV)} {nx idb : Nat} (h : H idb = some [.val (.slice none 0 0), .val (.slice none 0 0)]) (hn : idb < nx) : BK H nx idb [] (fun j => j = idb) :=
  ⟨rfl, fun j hj => hj ▸ hn, fun i e he => by simp at he, .inl ⟨rfl, h⟩⟩

end Go.Proofs.YtfjdfnlkobeehaaGreat
end

section
set_option maxRecDepth 100000
set_option linter.unusedVariables false
set_option linter.unusedSimpArgs false
namespace Go.Proofs.YtfjdfnlkobeehaaGreat

def OF (H : Nat → Option (List PV)) (lo b id : Nat) (x : List Rat) : Prop :=
  ∃ i1 c1 i2 c2 : Nat → Nat, H id = some (FOc (fv x) i1 c1 i2 c2 x.length) ∧ lo ≤ id ∧ id < b ∧ FL H lo b id x.length (fv x) i1 c1 i2 c2

def ofQ (x : List Rat) (r : PV) (H' : Nat → Option (List PV)) (nx' : Nat) : Prop :=
  ∃ id, r = .tup [.ref id 0 x.length x.length 3, .val (.bool true), .val (.int .i64 0)] ∧ OF H' 0 nx' id x
section
variable {m : List (List (Bool × List Nat))} {r : List (Bool × List Nat)} {B n : Nat}
set_option maxHeartbeats 16000000 in
theorem solve_L (hA : r.length = m.length → Mx (augL m r) B) (hm : ∀ l ∈ m, ∀ p ∈ l, Lm p.2) (hB : B ≤ 2000) (hw' : wrongM m n = false) (hrl : r.length = m.length) (hnP : n ∉ (echW ((augL m r).map vals) (n + 1)).2)
    (h32 : ∀ c, c < n → ¬ 32 < limQ (fv (solL (echT ((augL m r).map vals) (n + 1)) (echW ((augL m r).map vals) (n + 1)).2 n (echW ((augL m r).map vals) (n + 1)).2.length) c)) :
    PCalls Tryz.prog 16 [SM m, .val (.int .i64 n), SW r] (fun _ => none) 0 (ofQ (solL (echT ((augL m r).map vals) (n + 1)) (echW ((augL m r).map vals) (n + 1)).2 n (echW ((augL m r).map vals) (n + 1)).2.length)) := by
  have hw := wrong_calls (m := m) (cn := n)
  rw [hw'] at hw
  obtain ⟨n', e, hn, hml, hlc⟩ := wrongM_false hw'
  obtain rfl : n = n' := by omega
  have hA := hA hrl
  have hac := aug_row hrl hlc
  have hac' : ∀ z ∈ (augL m r).map vals, z.length = n + 1 := fun z hz => by
    obtain ⟨l, hl, rfl⟩ := List.mem_map.1 hz
    rw [vals_len]; exact hac l hl
  have hec := hA.ech hac (by omega) (by rw [augL_len hrl]; omega)
  have hEW := (EW.all hac' (n + 1)).tle
  obtain ⟨hRE, hs1, hs2⟩ := echT_RE hA hac
  have hzz := hA.echZ hac
  have hal := augL_len hrl
  rw [List.length_map, hal] at hEW
  rw [SM_def, hal] at hec
  generalize echT ((augL m r).map vals) (n + 1) = T at *
  generalize (echW ((augL m r).map vals) (n + 1)).2 = P at *
  have hTl := hRE.len
  have hT : ∀ k, k < P.length → (T.getD k []).length = n + 1 := fun k hk => hRE.row k (by omega)
  have hz : ∀ k, k < P.length → ∀ y ∈ T.getD k [], Z (B + 1) y := fun k hk y hy => hzz _ (getD_mem (by omega)) y hy
  have hPg : ∀ k (hk : k < P.length), P.getD k 0 = P[k] := fun k hk => by simp [hk]
  have hpc : ∀ k, k < P.length → vc (T.getD k []) (P.getD k 0) ≠ 0 := fun k hk => by
    rw [hPg k hk]
    have := hRE.pos k hk
    omega
  have hpn : ∀ k, k < P.length → P.getD k 0 < n := fun k hk => by
    rw [hPg k hk]
    have h1 := hRE.col _ (List.getElem_mem hk)
    have h2 : P[k] ≠ n := fun e => hnP (e ▸ List.getElem_mem hk)
    omega
  have hxz := fun c => solL_zq (n := n) (K := B + 1) (by omega) (fun k hk => vc_z (hz k hk)) hpc c P.length (Nat.le_refl _)
  have hxl := solL_len (T := T) (P := P) (n := n) P.length
  have hm2 : ∀ l ∈ m, (∀ p ∈ l, Lm p.2) ∧ l.length = n := fun l hl => ⟨hm l hl, hlc l hl⟩
  clear hs1 hs2 hzz hac hA hRE hac' hPg hnP
  refine PCalls.enter (n := 118) (rs := [.tmp 6, .tmp 7, .tmp 8]) (tb := [(7, [(0, []), (1, []), (2, []), (3, []), (5, []), (7, []), (8, []), (9, []), (10, []), (4, [0, 1, 5, 7, 8, 9, 10]), (6, [0, 1, 7, 8, 9, 10]), (11, [0, 1, 2, 3, 5]), (12, [0, 1]), (13, []), (14, [])]), (1000007, [(0, []), (0, []), (0, []), (4, []), (12, []), (0, []), (60, []), (0, []), (0, []), (384, []), (896, []), (1920, []), (4092, []), (8191, []), (16383, [])]), (21, [(0, []), (1, []), (2, []), (3, []), (4, []), (5, []), (6, []), (7, []), (8, []), (9, []), (10, []), (11, []), (12, []), (13, []), (14, []), (15, []), (16, [0, 1]), (17, []), (18, []), (19, []), (20, []), (21, [19])]), (1000021, [(0, []), (0, []), (0, []), (0, []), (12, []), (28, []), (0, []), (124, []), (252, []), (0, []), (0, []), (1536, []), (3584, []), (0, []), (15872, []), (32256, []), (65532, []), (131068, []), (262140, []), (262140, []), (524287, []), (1572863, [])])]) Tryz.func16 rfl rfl rfl (by kernel_rfl) (by kernel_rfl) (by simp) fun c hc ht => ?_
  simp -implicitDefEqProofs (disch := omega) only [go_sem, ht]
  (refine pCall_vw (by refine ⟨⟨?_, ?_⟩, ?_, ?_⟩; rotate_left 2; (first | (right; rintro r rfl; rfl) | left); all_goals ((try simp -implicitDefEqProofs (disch := omega) only [hrl, go_sem, ht]) <;> rfl)) (hw) ?_; rintro _ nx - rfl hnx; simp -implicitDefEqProofs (disch := omega) only [hrl, go_sem, ht])
  refine solve0 (m := m) (r := r) (n := n) (b := nx) hc ht hm2 hrl hml hn ⟨by simp -implicitDefEqProofs (disch := omega) only [go_sem, ht], by simp -implicitDefEqProofs (disch := omega) only [go_sem, ht], by simp -implicitDefEqProofs (disch := omega) only [go_sem, ht], by simp -implicitDefEqProofs (disch := omega) only [go_sem, ht], by simp -implicitDefEqProofs (disch := omega) only [go_sem, ht], by simp -implicitDefEqProofs (disch := omega) only [go_sem, ht], by first | omega | (simp -implicitDefEqProofs (disch := omega) only [go_sem, ht]; done) | (simp -implicitDefEqProofs (disch := omega) only [go_sem, ht]; omega), by simp -implicitDefEqProofs (disch := omega) only [go_sem, ht] <;> rfl, by simp -implicitDefEqProofs (disch := omega) only [go_sem, ht, upd_self, repl_one]⟩ ?_
  intro t h1 h9 hH hbn
  have hml2 : ((augL m r).map SW).length = m.length := by rw [List.length_map, hal]
  have htk : List.take m.length ((augL m r).map SW) = (augL m r).map SW := List.take_of_length_le (by omega)
  have hle : m.length ≤ ((augL m r).map SW).length := by omega
  have hfl := frzL_flat (fun _ => true) t.H 0 (SM_flat (augL m r))
  have hle2 : m.length ≤ (augL m r).length := by omega
  have hfl0 := SM_flat (augL m r)
  simp -implicitDefEqProofs (disch := omega) only [go_sem, ht, h1, h9]
  (refine pCall_frz (fun _ => true) 1 (by simp -implicitDefEqProofs (disch := omega) only [hH, htk, hle, hfl, hle2, hfl0, go_sem, ht] <;> rfl) (by simp -implicitDefEqProofs (disch := omega) only [hH, htk, hle, hfl, hle2, hfl0, go_sem, ht]) (by simp -implicitDefEqProofs (disch := omega) only [hH, htk, hle, hfl, hle2, hfl0, go_sem, ht] <;> rfl) (by simp -implicitDefEqProofs (disch := omega) only [hH, htk, hle, hfl, hle2, hfl0, go_sem, ht]) (hec) ?_; rintro _ nx - rfl hnx; (try simp only [put_nx, withH_nx, begP_nx] at hnx); simp -implicitDefEqProofs (disch := omega) only [hH, htk, hle, hfl, hle2, hfl0, go_sem, ht])
  simp -implicitDefEqProofs (disch := omega) only [go_sem, ht, h1, h9]
  have hrl3 : (repl n [PV.val (.bool false), PV.val (.slice none 0 0), PV.val (.slice none 0 0)]).length = n * 3 := by unfold repl; simp
  obtain ⟨b, eb⟩ : ∃ b, nx = b := ⟨_, rfl⟩
  rw [eb]
  refine solve1L (n := n) (b := b) (e := .sl T.length ((T.map CZ).map SW)) (p := .sl P.length (P.map Ref.I)) hc ht hn rfrom0F ⟨by simp -implicitDefEqProofs (disch := omega) only [go_sem, ht, h1], by simp -implicitDefEqProofs (disch := omega) only [go_sem, ht] <;> rfl, by simp -implicitDefEqProofs (disch := omega) only [go_sem, ht] <;> rfl, by simp -implicitDefEqProofs (disch := omega) only [go_sem, ht], by simp -implicitDefEqProofs (disch := omega) only [go_sem, ht], by simp -implicitDefEqProofs (disch := omega) only [go_sem, ht] <;> rfl, by first | omega | (simp -implicitDefEqProofs (disch := omega) only [go_sem, ht]; done) | (simp -implicitDefEqProofs (disch := omega) only [go_sem, ht]; omega), ⟨_, by simp -implicitDefEqProofs (disch := omega) only [go_sem, ht, upd_self] <;> rfl, hrl3⟩⟩ ?_
  intro t2 j1 d1 j2 d2 g1 g12 g13 g14 gH gb gF
  have e0 : (fun _ => (0 : Rat)) = fv (solL T P n 0) := by
    funext c
    have h0 : fv (solL T P n 0) c = 0 := solL_no 0 fun i hi => by omega
    rw [h0]
  rw [e0] at gH gF
  simp -implicitDefEqProofs (disch := omega) only [go_sem, ht, g1, g12, g13, g14]
  refine solve2L (n := n) (b := b) (K := B + 1) (T := T) (P := P) (j1 := j1) (d1 := d1) (j2 := j2) (d2 := d2) hc ht hn (by omega) hTl hT hz (by omega) (by omega) hpc hpn ⟨by simp -implicitDefEqProofs (disch := omega) only [go_sem, ht, g1], by simp -implicitDefEqProofs (disch := omega) only [go_sem, ht, g12], by simp -implicitDefEqProofs (disch := omega) only [go_sem, ht, g14], by simp -implicitDefEqProofs (disch := omega) only [go_sem, ht, g13], by simp -implicitDefEqProofs (disch := omega) only [go_sem, ht] <;> simp, by simp -implicitDefEqProofs (disch := omega) only [go_sem, ht] <;> rfl, by simp -implicitDefEqProofs (disch := omega) only [go_sem, ht]; exact gb, by simp -implicitDefEqProofs (disch := omega) only [go_sem, ht, gH], by simp -implicitDefEqProofs (disch := omega) only [go_sem, ht]; exact gF⟩ ?_
  intro t3 i1 c1 i2 c2 u14 uH ub uF
  simp -implicitDefEqProofs (disch := omega) only [go_sem, ht, u14]
  refine solve3L (n := n) (b := b) (K := B + 1) (x := solL T P n P.length) (i1 := i1) (c1 := c1) (i2 := i2) (c2 := c2) hc ht hn (fun c _ => hxz c) (by omega) (by omega) h32 ⟨by simp -implicitDefEqProofs (disch := omega) only [go_sem, ht, u14], by simp -implicitDefEqProofs (disch := omega) only [go_sem, ht], by simp -implicitDefEqProofs (disch := omega) only [go_sem, ht], by simp -implicitDefEqProofs (disch := omega) only [go_sem, ht] <;> rfl, by simp -implicitDefEqProofs (disch := omega) only [go_sem, ht]; exact ub, by simp -implicitDefEqProofs (disch := omega) only [go_sem, ht, uH], by simp -implicitDefEqProofs (disch := omega) only [go_sem, ht]; exact uF⟩ ?_
  intro t4 v14 vb vH vF
  generalize solL T P n P.length = x at *
  simp -implicitDefEqProofs (disch := omega) only [go_sem, ht, v14]
  refine end_plain (by simp -implicitDefEqProofs (disch := omega) only [go_sem, ht, v14] <;> rfl) ?_
  simp only [tupP_2]
  rw [← hxl] at vH vF
  exact ⟨b, by rw [hxl], i1, c1, i2, c2, by simp -implicitDefEqProofs (disch := omega) only [go_sem, ht, vH], Nat.zero_le _, by simp -implicitDefEqProofs (disch := omega) only [go_sem, ht]; exact vb, by simp -implicitDefEqProofs (disch := omega) only [go_sem, ht]; exact vF⟩
end
theorem FOc_shift (z : Nat → Rat) (i1 c1 i2 c2 : Nat → Nat) (k : Nat) : ∀ n, shiftL k (FOc z i1 c1 i2 c2 n) = FOc z (fun i => i1 i + k) c1 (fun i => i2 i + k) c2 n
  | 0 => rfl
  | n + 1 => by
    rw [FOc_succ, FOc_succ, shiftL_app, FOc_shift z i1 c1 i2 c2 k n]
    simp [shiftL, YtfjdfnlkobeehaaGreat.shift]
theorem OF.shift {H G : Nat → Option (List PV)} {lo b id k : Nat} {x : List Rat} (h : OF G lo b id x) : OF (joinH H k G) (lo + k) (b + k) (id + k) x := by
  obtain ⟨i1, c1, i2, c2, h0, h1, h2, h3⟩ := h
  refine ⟨fun i => i1 i + k, c1, fun i => i2 i + k, c2, by rw [joinH_ge, h0, Option.map_some, FOc_shift], by omega, by omega, fun i hi => ?_, fun i hi => ?_, fun i hi => ?_, fun i j hi hj => ?_⟩
  · obtain ⟨r, hr, hc⟩ := h3.l1 i hi
    exact ⟨r, by rw [joinH_ge, hr]; simp only [Option.map_some, shiftL_app, shiftL_U, shiftL_val], hc⟩
  · obtain ⟨r, hr, hc⟩ := h3.l2 i hi
    exact ⟨r, by rw [joinH_ge, hr]; simp only [Option.map_some, shiftL_app, shiftL_U, shiftL_val], hc⟩
  · have := h3.lt i hi
    exact ⟨by omega, by omega, by omega, by omega, by omega, by omega⟩
  · have := h3.ne i j hi hj
    exact ⟨fun e => this.1 (by omega), fun e => this.2.1 (by omega), fun e => this.2.2 (by omega)⟩

def owrQ (H : Nat → Option (List PV)) (nx idb k : Nat) (B : Nat → Prop) (a c : Nat) (r : PV) (H' : Nat → Option (List PV)) (nx' : Nat) : Prop :=
  r = .val (.bool true) ∧ ∃ es' B', BK H' nx' idb es' B' ∧ es'.length = k ∧ (∀ j, B' j → B j ∨ j = a ∨ j = c ∨ nx ≤ j) ∧ ∀ j, ¬ B j → j ≠ a → j ≠ c → j < nx → H' j = H j
theorem ownratio_L {H : Nat → Option (List PV)} {nx idb : Nat} {es : List (Nat × Nat × Nat)} {B : Nat → Prop} {id n cap id2 n2 cap2 : Nat} {cells cells2 : List PV} {b : Bool} (hB : BK H nx idb es B) (hes : es.length + 2 ≤ 100000) (h1 : ¬ B id) (h2 : id < nx) (h3 : H id = some cells)
    (k1 : ¬ B id2) (k2 : id2 < nx) (k3 : H id2 = some cells2) (hne : id2 ≠ id) (hlen : cells.length = cap) (hn : n ≤ cap) (hlen2 : cells2.length = cap2) (hn2 : n2 ≤ cap2) :
    PCalls Tryz.prog 19 [.ptr idb 0, .agg [.val (.bool b), .ref id 0 n cap 1, .ref id2 0 n2 cap2 1]] H nx (owrQ H nx idb (es.length + 2) B id id2) := by
  have hB1 := hB.mono (H' := upd H nx (some [.val (.bool b), .ref id 0 n cap 1, .ref id2 0 n2 cap2 1])) (nx' := nx + 1) (by omega) (fun j hj => upd_ne _ _ (by omega))
  have hBn := hB.lt
  have hcall := own_calls (n := n) hB1 (by omega) h1 (show id < nx + 1 by omega) (by rw [upd_ne _ _ (by omega)]; exact h3) hlen hn
  refine PCalls.enter (n := 16) (rs := [.tmp 4]) (tb := []) Tryz.func19 rfl rfl rfl (by kernel_rfl) (by kernel_rfl) (by simp) fun c hc ht => ?_
  simp -implicitDefEqProofs (disch := omega) only [go_sem, ht]
  apply pCall_mem
  exact hcall
  rintro _ H6 n6 ⟨rfl, B6, hB6, hb6, hF6⟩ hn6
  (try simp only [put_nx, withH_nx, put_H, withH_H, begP_nx, begP_H] at hn6)
  (try simp only [put_nx, withH_nx, put_H, withH_H, begP_nx, begP_H] at hF6)
  (try simp only [put_nx, withH_nx, put_H, withH_H, begP_nx, begP_H] at hb6)
  have hbx : H6 nx = some [.val (.bool b), .ref id 0 n cap 1, .ref id2 0 n2 cap2 1] := by
    rw [hF6 nx (fun h => by have := hBn _ h; omega) (by omega) (by omega), upd_self]
  have hc2 : H6 id2 = some cells2 := by rw [hF6 id2 k1 hne (by omega), upd_ne _ _ (by omega)]; exact k3
  have hnB : ¬ B6 id2 := fun h => by rcases hb6 _ h with h | h | h; exact k1 h; exact hne h; omega
  simp -implicitDefEqProofs (disch := omega) only [go_sem, ht, hbx]
  apply pCall_mem
  exact own_calls (n := n2) (B := B6) (by simp -implicitDefEqProofs (disch := omega) only [go_sem, ht]; exact hB6) (by simp; omega) hnB (by simp -implicitDefEqProofs (disch := omega) only [go_sem, ht]; omega) (by simp -implicitDefEqProofs (disch := omega) only [go_sem, ht, hc2]) hlen2 hn2
  rintro _ H7 n7 ⟨rfl, B7, hB7, hb7, hF7⟩ hn7
  (try simp only [put_nx, withH_nx, put_H, withH_H, begP_nx, begP_H] at hn7)
  (try simp only [put_nx, withH_nx, put_H, withH_H, begP_nx, begP_H] at hF7)
  (try simp only [put_nx, withH_nx, put_H, withH_H, begP_nx, begP_H] at hb7)
  simp -implicitDefEqProofs (disch := omega) only [go_sem, ht]
  refine end_plain (by simp -implicitDefEqProofs (disch := omega) only [go_sem, ht] <;> rfl) ?_
  simp only [tupP_1]
  refine ⟨rfl, _, B7, by simp -implicitDefEqProofs (disch := omega) only [go_sem, ht]; exact hB7, by simp, fun j hj => ?_, fun j g1 g2 g3 g4 => ?_⟩
  · rcases hb7 j hj with h | h | h
    · rcases hb6 j h with h | h | h
      · exact .inl h
      · exact .inr (.inl h)
      · exact .inr (.inr (.inr (by omega)))
    · exact .inr (.inr (.inl h))
    · exact .inr (.inr (.inr (by omega)))
  · have hb6' : ¬ B6 j := fun h => by rcases hb6 j h with h | h | h; exact g1 h; exact g2 h; omega
    simp -implicitDefEqProofs (disch := omega) only [go_sem, ht]
    rw [hF7 j hb6' g3 (by omega), hF6 j g1 g2 (by omega), upd_ne _ _ (by omega)]
end Go.Proofs.YtfjdfnlkobeehaaGreat
end
