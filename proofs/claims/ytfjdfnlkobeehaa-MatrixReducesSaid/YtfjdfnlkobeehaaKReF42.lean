/- Part 42 of the way to the statement: the walk and what it needs. -/
import Derived.Test.YtfjdfnlkobeehaaKReF29
import Derived.Test.YtfjdfnlkobeehaaKReF32
import Derived.Test.YtfjdfnlkobeehaaKReF41
section
set_option maxRecDepth 100000
set_option linter.unusedVariables false
set_option linter.unusedSimpArgs false
namespace Go.Proofs.Ytfjdfnlkobeehaa


def mkB (i : Nat) : Nat := 1358954496 + i
def bkCells (es : List (Nat × Nat × Nat)) : List PV := es.map fun e => .ref e.1 0 e.2.1 e.2.2 1
def bkMarks (n : Nat) : List Nat := (List.range n).map mkB
theorem bkCells_len (es : List (Nat × Nat × Nat)) : (bkCells es).length = es.length := by simp [bkCells]
theorem bkMarks_len (n : Nat) : (bkMarks n).length = n := by simp [bkMarks]
attribute [simp] bkCells_len bkMarks_len
attribute [go_sem] bkCells_len bkMarks_len
theorem bkMarks_get {n i : Nat} (h : i < n) : (bkMarks n).getD i 0 = mkB i := by
  unfold bkMarks
  rw [List.getD_eq_getElem?_getD, List.getElem?_map, List.getElem?_range h]; rfl
structure BK (H : Nat → Option (List PV)) (nx idb : Nat) (es : List (Nat × Nat × Nat)) (B : Nat → Prop) : Prop where
  self : B idb
  lt : ∀ j, B j → j < nx
  mem : ∀ (i : Nat) (e : Nat × Nat × Nat), es[i]? = some e → B e.1 ∧ e.1 ≠ idb ∧ e.2.1 ≤ 4096 ∧ ∃ rest : List PV, H e.1 = some ((List.replicate e.2.1 (mkB i)).map U ++ rest)
  top : (es = [] ∧ H idb = some [.val (.slice none 0 0), .val (.slice none 0 0)]) ∨
    (0 < es.length ∧ ∃ (idl capl : Nat) (restl : List Value) (idm capm : Nat) (restm : List Value), idl ≠ idb ∧ idm ≠ idb ∧ idl ≠ idm ∧ B idl ∧ B idm ∧ (∀ e ∈ es, e.1 ≠ idl ∧ e.1 ≠ idm) ∧
      H idb = some [.ref idl 0 es.length capl 1, .ref idm 0 es.length capm 1] ∧ H idl = some (bkCells es ++ restl.map .val) ∧ es.length + restl.length = capl ∧ H idm = some ((bkMarks es.length).map U ++ restm.map .val) ∧ es.length + restm.length = capm)


def ownQ (H : Nat → Option (List PV)) (nx idb : Nat) (es : List (Nat × Nat × Nat)) (B : Nat → Prop) (id cap : Nat) (r : PV) (H' : Nat → Option (List PV)) (nx' : Nat) : Prop :=
  r = .val (.bool true) ∧ ∃ B' : Nat → Prop, BK H' nx' idb (es ++ [(id, Nat.min cap 4096, cap)]) B' ∧ (∀ j, B' j → B j ∨ j = id ∨ nx ≤ j) ∧ ∀ j, ¬ B j → j ≠ id → j < nx → H' j = H j

theorem fill_step {cells : List PV} {k m : Nat} (h : k < cells.length) : spl ((List.replicate k m).map U ++ cells.drop k) k [PV.val (.int .u32 m)] = (List.replicate (k + 1) m).map U ++ cells.drop (k + 1) := by
  have e : ((List.replicate k m).map U).length = k := by simp
  unfold spl
  rw [List.length_singleton, List.take_append_of_le_length (by omega), List.take_of_length_le (by omega), List.drop_append, e, List.drop_of_length_le (by omega), show k + 1 - k = 1 by omega, List.drop_drop]
  rw [List.replicate_succ']
  simp [U]

theorem own_first {H F : Nat → Option (List PV)} {nx nx' idb id cap N il im capl capm : Nat} {B : Nat → Prop} {restl restm : List Value} {rest : List PV} (hB : BK H nx idb [] B) (hid : ¬ B id) (hidn : id < nx) (hN : N ≤ 4096) (hnx : nx ≤ nx')
    (hil : nx ≤ il) (hil2 : il < nx') (him : nx ≤ im) (him2 : im < nx') (hne : il ≠ im)
    (e1 : F idb = some [.ref il 0 1 capl 1, .ref im 0 1 capm 1]) (e2 : F il = some (PV.ref id 0 N cap 1 :: restl.map .val)) (q1 : 1 + restl.length = capl) (e3 : F im = some (PV.val (.int .u32 (mkB 0 : Nat)) :: restm.map .val)) (q2 : 1 + restm.length = capm)
    (e4 : F id = some ((List.replicate N (mkB 0)).map U ++ rest)) (e5 : ∀ j, j ≠ idb → j ≠ id → j < nx → F j = H j) :
    ∃ B' : Nat → Prop, BK F nx' idb [(id, N, cap)] B' ∧ (∀ j, B' j → B j ∨ j = id ∨ nx ≤ j) ∧ ∀ j, ¬ B j → j ≠ id → j < nx → F j = H j := by
  have hib : idb ≠ id := fun e => hid (e ▸ hB.self)
  have hibn := hB.lt _ hB.self
  refine ⟨fun j => B j ∨ j = id ∨ j = il ∨ j = im, ⟨.inl hB.self, fun j hj => ?_, fun i e he => ?_, .inr ⟨Nat.one_pos, il, capl, restl, im, capm, restm, by omega, by omega, hne, .inr (.inr (.inl rfl)), .inr (.inr (.inr rfl)), fun e he => ?_, e1, e2, q1, e3, q2⟩⟩, fun j hj => ?_, fun j h1 h2 h3 => e5 j (fun e => h1 (e ▸ hB.self)) h2 h3⟩
  · rcases hj with h | rfl | rfl | rfl
    · have := hB.lt _ h; omega
    · omega
    · exact hil2
    · exact him2
  · cases i with
    | zero =>
      have : e = (id, N, cap) := by simpa using he.symm
      subst this
      exact ⟨.inr (.inl rfl), Ne.symm hib, hN, rest, e4⟩
    | succ i => simp at he
  · have : e = (id, N, cap) := by simpa using he
    subst this
    exact ⟨by simp; omega, by simp; omega⟩
  · rcases hj with h | rfl | rfl | rfl
    · exact .inl h
    · exact .inr (.inl rfl)
    · exact .inr (.inr hil)
    · exact .inr (.inr him)
theorem own_next {H F : Nat → Option (List PV)} {nx nx' idb id cap N idl idm il im capl capm : Nat} {es : List (Nat × Nat × Nat)} {B : Nat → Prop} {restl restm : List Value} {rest : List PV} (hB : BK H nx idb es B) (h0 : 0 < es.length) (hid : ¬ B id) (hidn : id < nx) (hN : N ≤ 4096) (hnx : nx ≤ nx')
    (g1 : idl ≠ idb) (g2 : idm ≠ idb) (g3 : idl ≠ idm) (g4 : B idl) (g5 : B idm) (g6 : ∀ e ∈ es, e.1 ≠ idl ∧ e.1 ≠ idm)
    (hil : il = idl ∨ nx ≤ il) (hil2 : il < nx') (him : im = idm ∨ nx ≤ im) (him2 : im < nx') (hne : il ≠ im)
    (e1 : F idb = some [.ref il 0 (es.length + 1) capl 1, .ref im 0 (es.length + 1) capm 1]) (e2 : F il = some ((bkCells es ++ [PV.ref id 0 N cap 1]) ++ restl.map .val)) (q1 : es.length + 1 + restl.length = capl)
    (e3 : F im = some ((bkMarks es.length ++ [mkB es.length]).map U ++ restm.map .val)) (q2 : es.length + 1 + restm.length = capm)
    (e4 : F id = some ((List.replicate N (mkB es.length)).map U ++ rest)) (e5 : ∀ j, j ≠ idb → j ≠ idl → j ≠ idm → j ≠ id → j < nx → F j = H j) :
    ∃ B' : Nat → Prop, BK F nx' idb (es ++ [(id, N, cap)]) B' ∧ (∀ j, B' j → B j ∨ j = id ∨ nx ≤ j) ∧ ∀ j, ¬ B j → j ≠ id → j < nx → F j = H j := by
  have hib : idb ≠ id := fun e => hid (e ▸ hB.self)
  have hibn := hB.lt _ hB.self
  have hln := hB.lt _ g4
  have hmn := hB.lt _ g5
  have hli : idl ≠ id := fun e => hid (e ▸ g4)
  have hmi : idm ≠ id := fun e => hid (e ▸ g5)
  have hes : ∀ e ∈ es, B e.1 ∧ e.1 ≠ idb := fun e he => by
    obtain ⟨i, hi⟩ := List.getElem?_of_mem he
    exact ⟨(hB.mem i e hi).1, (hB.mem i e hi).2.1⟩
  refine ⟨fun j => B j ∨ j = id ∨ j = il ∨ j = im, ⟨.inl hB.self, fun j hj => ?_, fun i e he => ?_, .inr ⟨by simp, il, capl, restl, im, capm, restm, by omega, by omega, hne, .inr (.inr (.inl rfl)), .inr (.inr (.inr rfl)), fun e he => ?_, by simpa using e1, ?_, by simpa using q1, ?_, by simpa using q2⟩⟩, fun j hj => ?_,
    fun j h1 h2 h3 => e5 j (fun e => h1 (e ▸ hB.self)) (fun e => h1 (e ▸ g4)) (fun e => h1 (e ▸ g5)) h2 h3⟩
  · rcases hj with h | rfl | rfl | rfl
    · have := hB.lt _ h; omega
    · omega
    · exact hil2
    · exact him2
  · rcases Nat.lt_or_ge i es.length with hi | hi
    · rw [List.getElem?_append_left hi] at he
      obtain ⟨p1, p2, p3, r, p4⟩ := hB.mem i e he
      have hm := List.mem_of_getElem? he
      refine ⟨.inl p1, p2, p3, r, ?_⟩
      rw [e5 _ p2 (g6 e hm).1 (g6 e hm).2 (fun h => hid (h ▸ p1)) (hB.lt _ p1), p4]
    · rw [List.getElem?_append_right hi] at he
      have hi0 : i - es.length = 0 := by
        rcases Nat.eq_zero_or_pos (i - es.length) with h | h
        · exact h
        · rw [List.getElem?_eq_none (by simp; omega)] at he; simp at he
      rw [hi0] at he
      have : e = (id, N, cap) := by simpa using he.symm
      subst this
      have : i = es.length := by omega
      subst this
      exact ⟨.inr (.inl rfl), Ne.symm hib, hN, rest, e4⟩
  · rcases List.mem_append.1 he with he | he
    · have h1 := hes e he
      have h2 := g6 e he
      have h3 := hB.lt _ h1.1
      exact ⟨by rcases hil with rfl | h; exact h2.1; omega, by rcases him with rfl | h; exact h2.2; omega⟩
    · have : e = (id, N, cap) := by simpa using he
      subst this
      exact ⟨by simp; rcases hil with rfl | h <;> omega, by simp; rcases him with rfl | h <;> omega⟩
  · rw [e2]; simp [bkCells]
  · rw [e3]
    have : bkMarks (es ++ [(id, N, cap)]).length = bkMarks es.length ++ [mkB es.length] := by
      unfold bkMarks
      rw [List.length_append, List.length_singleton, List.range_succ, List.map_append]; rfl
    rw [this]
  · rcases hj with h | rfl | rfl | rfl
    · exact .inl h
    · exact .inr (.inl rfl)
    · rcases hil with rfl | h
      · exact .inl g4
      · exact .inr (.inr h)
    · rcases him with rfl | h
      · exact .inl g5
      · exact .inr (.inr h)

set_option maxHeartbeats 4000000 in
theorem own_calls {H : Nat → Option (List PV)} {nx idb : Nat} {es : List (Nat × Nat × Nat)} {B : Nat → Prop} {id n cap : Nat} {cells : List PV} (hB : BK H nx idb es B) (hes : es.length ≤ 100000) (hid : ¬ B id) (hidn : id < nx)
    (hc0 : H id = some cells) (hlen : cells.length = cap) (hn : n ≤ cap) : PCalls Try.prog 100 [.ptr idb 0, .ref id 0 n cap 1] H nx (ownQ H nx idb es B id cap) := by
  have hib : idb ≠ id := fun e => hid (e ▸ hB.self)
  have hibn := hB.lt _ hB.self
  obtain ⟨N, hN⟩ : ∃ N, N = Nat.min cap 4096 := ⟨_, rfl⟩
  have hN1 : N ≤ cap := by rw [hN]; exact Nat.min_le_left _ _
  have hN2 : N ≤ 4096 := by rw [hN]; exact Nat.min_le_right _ _
  unfold ownQ
  rw [← hN]
  rcases hB.top with ⟨he, hH0⟩ | ⟨he, idl, capl, restl, idm, capm, restm, g1, g2, g3, g4, g5, g6, g7, g8, g9, g10, g11⟩
  · subst he
    by_cases h4 : 4096 < cap
    · have hN3 : N = 4096 := by rw [hN]; exact Nat.min_eq_right (by omega)
      refine PCalls.enter (n := 54) (rs := [.tmp 4]) (tb := []) Try.func100 rfl rfl rfl (by kernel_rfl) (by kernel_rfl) (by simp) fun c hc ht => ?_
      simp -implicitDefEqProofs (disch := omega) only [go_sem, ht, hH0]
      refine LW.loopW hc ht (by kernel_rfl) (fun t => t.sl 0 = .ptr idb 0 ∧ t.sl 5 = .ref id 0 N cap 1 ∧ t.sl 6 = .val (.int .u32 (mkB 0 : Nat)) ∧ t.nx = nx ∧ ∃ k : Nat, k ≤ N ∧ t.sl 7 = .val (.int .i64 k) ∧ t.H id = some ((List.replicate k (mkB 0)).map U ++ cells.drop k) ∧ ∀ j, j ≠ id → t.H j = H j)
        (fun t => match t.sl 7 with | .val (.int _ k) => N - k.toNat | _ => 0) ?_ ?_
      · simp -implicitDefEqProofs (disch := omega) only [go_sem, ht, hH0]
        exact ⟨by rw [hN3], rfl, 0, Nat.zero_le _, rfl, hc0, fun _ _ => trivial⟩
      · rintro t ⟨h0, h5, h6, en, k, hk, h7, hH, hfr⟩
        by_cases hkN : k = N
        · have hHb : t.H idb = some [.val (.slice none 0 0), .val (.slice none 0 0)] := by rw [hfr _ (by omega)]; exact hH0
          rw [hkN] at hH
          simp -implicitDefEqProofs (disch := omega) only [go_sem, ht, h0, h5, h6, h7, hHb, en]
          refine append_nil (e := 28) (b := 24) (m := 1) (z := .slice none 0 0) (ys := [.ref id 0 N cap 1]) T39_elem rfl T28_size T28_bytes T28_zero (by simp -implicitDefEqProofs (disch := omega) only [go_sem, ht, srcP_ref]) (by simp -implicitDefEqProofs (disch := omega) only [go_sem, ht]) (by omega) (fun h0 => absurd h0 (by decide)) fun capl restl q1 q2 => ?_
          simp -implicitDefEqProofs (disch := omega) only [go_sem, ht, h0, h5, h6, h7, hHb, en]
          refine append_nil (e := 93) (b := 4) (m := 1) (z := .int .u32 0) (ys := [.val (.int .u32 (mkB 0 : Nat))]) T28_elem rfl T93_size T93_bytes T93_zero (by simp -implicitDefEqProofs (disch := omega) only [go_sem, ht, srcP_ref]) (by simp -implicitDefEqProofs (disch := omega) only [go_sem, ht]) (by omega) (fun h0 => absurd h0 (by decide)) fun capm restm q3 q4 => ?_
          simp -implicitDefEqProofs (disch := omega) only [go_sem, ht, h0, h5, h6, h7, hHb, en]
          refine end_plain (by simp -implicitDefEqProofs (disch := omega) only [go_sem, ht] <;> rfl) ?_
          simp only [tupP_1]
          refine ⟨trivial, own_first (il := nx + 1) (im := nx + 1 + 1 + 1) (restl := restl) (restm := restm) (capl := capl) (capm := capm) (rest := cells.drop N) hB hid hidn hN2 (by simp -implicitDefEqProofs (disch := omega) only [go_sem, ht, en] <;> omega) (by omega) (by simp -implicitDefEqProofs (disch := omega) only [go_sem, ht, en] <;> omega) (by omega) (by simp -implicitDefEqProofs (disch := omega) only [go_sem, ht, en] <;> omega) (by omega) (by simp -implicitDefEqProofs (disch := omega) only [go_sem, ht, en, hHb]) (by simp -implicitDefEqProofs (disch := omega) only [go_sem, ht, en, hHb]) (by omega) (by simp -implicitDefEqProofs (disch := omega) only [go_sem, ht, en, hHb]) (by omega) (by simp -implicitDefEqProofs (disch := omega) only [go_sem, ht, en, hHb, hH]) (fun j hj1 hj2 hj3 => by simp -implicitDefEqProofs (disch := omega) only [go_sem, ht, en, hHb]; exact hfr j hj2)⟩
        · have hdl : (cells.drop k).length = cells.length - k := List.length_drop
          have fs := fill_step (cells := cells) (k := k) (m := mkB 0) (by omega)
          simp -implicitDefEqProofs (disch := omega) only [go_sem, ht, h0, h5, h6, h7, hH, fs, en]
          exact ⟨⟨k + 1, by omega, rfl, rfl, fun j hj => by rw [upd_ne _ _ hj]; exact hfr j hj⟩, by omega⟩
    · have hN3 : N = cap := by rw [hN]; exact Nat.min_eq_left (by omega)
      refine PCalls.enter (n := 54) (rs := [.tmp 4]) (tb := []) Try.func100 rfl rfl rfl (by kernel_rfl) (by kernel_rfl) (by simp) fun c hc ht => ?_
      simp -implicitDefEqProofs (disch := omega) only [go_sem, ht, hH0]
      refine LW.loopW hc ht (by kernel_rfl) (fun t => t.sl 0 = .ptr idb 0 ∧ t.sl 5 = .ref id 0 N cap 1 ∧ t.sl 6 = .val (.int .u32 (mkB 0 : Nat)) ∧ t.nx = nx ∧ ∃ k : Nat, k ≤ N ∧ t.sl 7 = .val (.int .i64 k) ∧ t.H id = some ((List.replicate k (mkB 0)).map U ++ cells.drop k) ∧ ∀ j, j ≠ id → t.H j = H j)
        (fun t => match t.sl 7 with | .val (.int _ k) => N - k.toNat | _ => 0) ?_ ?_
      · simp -implicitDefEqProofs (disch := omega) only [go_sem, ht, hH0]
        exact ⟨by rw [hN3], rfl, 0, Nat.zero_le _, rfl, hc0, fun _ _ => trivial⟩
      · rintro t ⟨h0, h5, h6, en, k, hk, h7, hH, hfr⟩
        by_cases hkN : k = N
        · have hHb : t.H idb = some [.val (.slice none 0 0), .val (.slice none 0 0)] := by rw [hfr _ (by omega)]; exact hH0
          rw [hkN] at hH
          simp -implicitDefEqProofs (disch := omega) only [go_sem, ht, h0, h5, h6, h7, hHb, en]
          refine append_nil (e := 28) (b := 24) (m := 1) (z := .slice none 0 0) (ys := [.ref id 0 N cap 1]) T39_elem rfl T28_size T28_bytes T28_zero (by simp -implicitDefEqProofs (disch := omega) only [go_sem, ht, srcP_ref]) (by simp -implicitDefEqProofs (disch := omega) only [go_sem, ht]) (by omega) (fun h0 => absurd h0 (by decide)) fun capl restl q1 q2 => ?_
          simp -implicitDefEqProofs (disch := omega) only [go_sem, ht, h0, h5, h6, h7, hHb, en]
          refine append_nil (e := 93) (b := 4) (m := 1) (z := .int .u32 0) (ys := [.val (.int .u32 (mkB 0 : Nat))]) T28_elem rfl T93_size T93_bytes T93_zero (by simp -implicitDefEqProofs (disch := omega) only [go_sem, ht, srcP_ref]) (by simp -implicitDefEqProofs (disch := omega) only [go_sem, ht]) (by omega) (fun h0 => absurd h0 (by decide)) fun capm restm q3 q4 => ?_
          simp -implicitDefEqProofs (disch := omega) only [go_sem, ht, h0, h5, h6, h7, hHb, en]
          refine end_plain (by simp -implicitDefEqProofs (disch := omega) only [go_sem, ht] <;> rfl) ?_
          simp only [tupP_1]
          refine ⟨trivial, own_first (il := nx + 1) (im := nx + 1 + 1 + 1) (restl := restl) (restm := restm) (capl := capl) (capm := capm) (rest := cells.drop N) hB hid hidn hN2 (by simp -implicitDefEqProofs (disch := omega) only [go_sem, ht, en] <;> omega) (by omega) (by simp -implicitDefEqProofs (disch := omega) only [go_sem, ht, en] <;> omega) (by omega) (by simp -implicitDefEqProofs (disch := omega) only [go_sem, ht, en] <;> omega) (by omega) (by simp -implicitDefEqProofs (disch := omega) only [go_sem, ht, en, hHb]) (by simp -implicitDefEqProofs (disch := omega) only [go_sem, ht, en, hHb]) (by omega) (by simp -implicitDefEqProofs (disch := omega) only [go_sem, ht, en, hHb]) (by omega) (by simp -implicitDefEqProofs (disch := omega) only [go_sem, ht, en, hHb, hH]) (fun j hj1 hj2 hj3 => by simp -implicitDefEqProofs (disch := omega) only [go_sem, ht, en, hHb]; exact hfr j hj2)⟩
        · have hdl : (cells.drop k).length = cells.length - k := List.length_drop
          have fs := fill_step (cells := cells) (k := k) (m := mkB 0) (by omega)
          simp -implicitDefEqProofs (disch := omega) only [go_sem, ht, h0, h5, h6, h7, hH, fs, en]
          exact ⟨⟨k + 1, by omega, rfl, rfl, fun j hj => by rw [upd_ne _ _ hj]; exact hfr j hj⟩, by omega⟩
  · have hln := hB.lt _ g4
    have hmn := hB.lt _ g5
    have hli : idl ≠ id := fun e => hid (e ▸ g4)
    have hmi : idm ≠ id := fun e => hid (e ▸ g5)
    by_cases h4 : 4096 < cap
    · have hN3 : N = 4096 := by rw [hN]; exact Nat.min_eq_right (by omega)
      refine PCalls.enter (n := 54) (rs := [.tmp 4]) (tb := []) Try.func100 rfl rfl rfl (by kernel_rfl) (by kernel_rfl) (by simp) fun c hc ht => ?_
      simp -implicitDefEqProofs (disch := omega) only [go_sem, ht, g7]
      refine LW.loopW hc ht (by kernel_rfl) (fun t => t.sl 0 = .ptr idb 0 ∧ t.sl 5 = .ref id 0 N cap 1 ∧ t.sl 6 = .val (.int .u32 (mkB es.length : Nat)) ∧ t.nx = nx ∧ ∃ k : Nat, k ≤ N ∧ t.sl 7 = .val (.int .i64 k) ∧ t.H id = some ((List.replicate k (mkB es.length)).map U ++ cells.drop k) ∧ ∀ j, j ≠ id → t.H j = H j)
        (fun t => match t.sl 7 with | .val (.int _ k) => N - k.toNat | _ => 0) ?_ ?_
      · simp -implicitDefEqProofs (disch := omega) only [go_sem, ht, g7]
        exact ⟨by rw [hN3], rfl, 0, Nat.zero_le _, rfl, hc0, fun _ _ => trivial⟩
      · rintro t ⟨h0, h5, h6, en, k, hk, h7, hH, hfr⟩
        by_cases hkN : k = N
        · have hHb : t.H idb = some [.ref idl 0 es.length capl 1, .ref idm 0 es.length capm 1] := by rw [hfr _ (by omega)]; exact g7
          have hHl : t.H idl = some (bkCells es ++ restl.map .val) := by rw [hfr _ hli]; exact g8
          have hHm : t.H idm = some ((bkMarks es.length).map U ++ restm.map .val) := by rw [hfr _ hmi]; exact g10
          rw [hkN] at hH
          simp -implicitDefEqProofs (disch := omega) only [go_sem, ht, h0, h5, h6, h7, hHb, en]
          (refine append_ownX (by refine ⟨?_, ?_, ?_, ?_, ?_, ?_, ?_, ?_⟩ <;> (simp -implicitDefEqProofs (disch := omega) only [srcP_ref, srcP_sl, srcP_nil, Option.isSome_some, hHl, en, go_sem, ht] <;> rfl)) (by simp <;> omega) (by first | assumption | (simp <;> omega)) (by first | rfl | simp) (by first | omega | (simp <;> omega)) ?_; intro id1 cap1 rest1 H1 nx1 hH1 hcap1 hid1 hnx1 hfr1 hfs1; simp only [put_nx, withH_nx, put_H, withH_H] at hid1 hnx1 hfr1 hfs1; (try simp only [app_U, ← List.map_append] at hH1))
          have hHb1 : H1 idb = some [.ref idl 0 es.length capl 1, .ref idm 0 es.length capm 1] := by rw [hfr1 _ (by omega) (by omega)]; simp -implicitDefEqProofs (disch := omega) only [go_sem, ht, hHb]
          have hHm1 : H1 idm = some ((bkMarks es.length).map U ++ restm.map .val) := by rw [hfr1 _ (by omega) (by omega)]; simp -implicitDefEqProofs (disch := omega) only [go_sem, ht, hHm]
          simp -implicitDefEqProofs (disch := omega) only [go_sem, ht, h0, h5, h6, h7, hHb1, en]
          (refine append_ownX (by refine ⟨?_, ?_, ?_, ?_, ?_, ?_, ?_, ?_⟩ <;> (simp -implicitDefEqProofs (disch := omega) only [srcP_ref, srcP_sl, srcP_nil, Option.isSome_some, hHm1, en, go_sem, ht] <;> rfl)) (by simp <;> omega) (by first | assumption | (simp <;> omega)) (by first | rfl | simp) (by first | omega | (simp <;> omega)) ?_; intro id2 cap2 rest2 H2 nx2 hH2 hcap2 hid2 hnx2 hfr2 hfs2; simp only [put_nx, withH_nx, put_H, withH_H] at hid2 hnx2 hfr2 hfs2; (try simp only [app_U, ← List.map_append] at hH2))
          have hHb2 : H2 idb = some [.ref id1 0 (es.length + 1) cap1 1, .ref idm 0 es.length capm 1] := by rw [hfr2 _ (by omega) (by omega)]; simp -implicitDefEqProofs (disch := omega) only [go_sem, ht, hHb1]
          have hHl2 : H2 id1 = some (bkCells es ++ [PV.ref id 0 N cap 1] ++ List.map PV.val rest1) := by rw [hfr2 _ (by omega) (by omega)]; simp -implicitDefEqProofs (disch := omega) only [go_sem, ht, hH1]
          have hHi2 : H2 id = some ((List.replicate N (mkB es.length)).map U ++ cells.drop N) := by rw [hfr2 _ (by omega) (by omega)]; simp -implicitDefEqProofs (disch := omega) only [go_sem, ht]; rw [hfr1 _ (by omega) (by omega)]; simp -implicitDefEqProofs (disch := omega) only [go_sem, ht, hH]
          have hFr2 : ∀ j, j ≠ idb → j ≠ idl → j ≠ idm → j ≠ id → j < nx → H2 j = H j := fun j j1 j2 j3 j4 j5 => by
            rw [hfr2 _ (by omega) (by omega)]; simp -implicitDefEqProofs (disch := omega) only [go_sem, ht]; rw [hfr1 _ (by omega) (by omega)]; simp -implicitDefEqProofs (disch := omega) only [go_sem, ht]; exact hfr j j4
          simp -implicitDefEqProofs (disch := omega) only [go_sem, ht, h0, h5, h6, h7, hHb2, en]
          refine end_plain (by simp -implicitDefEqProofs (disch := omega) only [go_sem, ht] <;> rfl) ?_
          simp only [tupP_1]
          refine ⟨trivial, own_next (il := id1) (im := id2) (restl := rest1) (restm := rest2) (capl := cap1) (capm := cap2) (rest := cells.drop N) hB he hid hidn hN2 (by simp -implicitDefEqProofs (disch := omega) only [go_sem, ht, en] <;> omega) g1 g2 g3 g4 g5 g6 (by omega) (by simp -implicitDefEqProofs (disch := omega) only [go_sem, ht, en] <;> omega) (by omega) (by simp -implicitDefEqProofs (disch := omega) only [go_sem, ht, en] <;> omega) (by omega) (by simp -implicitDefEqProofs (disch := omega) only [go_sem, ht, en, hHb2]) (by simp -implicitDefEqProofs (disch := omega) only [go_sem, ht, en, hHl2]) (by omega) (by simp -implicitDefEqProofs (disch := omega) only [go_sem, ht, en]; exact hH2) (by omega) (by simp -implicitDefEqProofs (disch := omega) only [go_sem, ht, en, hHi2]) (fun j j1 j2 j3 j4 j5 => by simp -implicitDefEqProofs (disch := omega) only [go_sem, ht, en]; exact hFr2 j j1 j2 j3 j4 j5)⟩
        · have hdl : (cells.drop k).length = cells.length - k := List.length_drop
          have fs := fill_step (cells := cells) (k := k) (m := mkB es.length) (by omega)
          simp -implicitDefEqProofs (disch := omega) only [go_sem, ht, h0, h5, h6, h7, hH, fs, en]
          exact ⟨⟨k + 1, by omega, rfl, rfl, fun j hj => by rw [upd_ne _ _ hj]; exact hfr j hj⟩, by omega⟩
    · have hN3 : N = cap := by rw [hN]; exact Nat.min_eq_left (by omega)
      refine PCalls.enter (n := 54) (rs := [.tmp 4]) (tb := []) Try.func100 rfl rfl rfl (by kernel_rfl) (by kernel_rfl) (by simp) fun c hc ht => ?_
      simp -implicitDefEqProofs (disch := omega) only [go_sem, ht, g7]
      refine LW.loopW hc ht (by kernel_rfl) (fun t => t.sl 0 = .ptr idb 0 ∧ t.sl 5 = .ref id 0 N cap 1 ∧ t.sl 6 = .val (.int .u32 (mkB es.length : Nat)) ∧ t.nx = nx ∧ ∃ k : Nat, k ≤ N ∧ t.sl 7 = .val (.int .i64 k) ∧ t.H id = some ((List.replicate k (mkB es.length)).map U ++ cells.drop k) ∧ ∀ j, j ≠ id → t.H j = H j)
        (fun t => match t.sl 7 with | .val (.int _ k) => N - k.toNat | _ => 0) ?_ ?_
      · simp -implicitDefEqProofs (disch := omega) only [go_sem, ht, g7]
        exact ⟨by rw [hN3], rfl, 0, Nat.zero_le _, rfl, hc0, fun _ _ => trivial⟩
      · rintro t ⟨h0, h5, h6, en, k, hk, h7, hH, hfr⟩
        by_cases hkN : k = N
        · have hHb : t.H idb = some [.ref idl 0 es.length capl 1, .ref idm 0 es.length capm 1] := by rw [hfr _ (by omega)]; exact g7
          have hHl : t.H idl = some (bkCells es ++ restl.map .val) := by rw [hfr _ hli]; exact g8
          have hHm : t.H idm = some ((bkMarks es.length).map U ++ restm.map .val) := by rw [hfr _ hmi]; exact g10
          rw [hkN] at hH
          simp -implicitDefEqProofs (disch := omega) only [go_sem, ht, h0, h5, h6, h7, hHb, en]
          (refine append_ownX (by refine ⟨?_, ?_, ?_, ?_, ?_, ?_, ?_, ?_⟩ <;> (simp -implicitDefEqProofs (disch := omega) only [srcP_ref, srcP_sl, srcP_nil, Option.isSome_some, hHl, en, go_sem, ht] <;> rfl)) (by simp <;> omega) (by first | assumption | (simp <;> omega)) (by first | rfl | simp) (by first | omega | (simp <;> omega)) ?_; intro id1 cap1 rest1 H1 nx1 hH1 hcap1 hid1 hnx1 hfr1 hfs1; simp only [put_nx, withH_nx, put_H, withH_H] at hid1 hnx1 hfr1 hfs1; (try simp only [app_U, ← List.map_append] at hH1))
          have hHb1 : H1 idb = some [.ref idl 0 es.length capl 1, .ref idm 0 es.length capm 1] := by rw [hfr1 _ (by omega) (by omega)]; simp -implicitDefEqProofs (disch := omega) only [go_sem, ht, hHb]
          have hHm1 : H1 idm = some ((bkMarks es.length).map U ++ restm.map .val) := by rw [hfr1 _ (by omega) (by omega)]; simp -implicitDefEqProofs (disch := omega) only [go_sem, ht, hHm]
          simp -implicitDefEqProofs (disch := omega) only [go_sem, ht, h0, h5, h6, h7, hHb1, en]
          (refine append_ownX (by refine ⟨?_, ?_, ?_, ?_, ?_, ?_, ?_, ?_⟩ <;> (simp -implicitDefEqProofs (disch := omega) only [srcP_ref, srcP_sl, srcP_nil, Option.isSome_some, hHm1, en, go_sem, ht] <;> rfl)) (by simp <;> omega) (by first | assumption | (simp <;> omega)) (by first | rfl | simp) (by first | omega | (simp <;> omega)) ?_; intro id2 cap2 rest2 H2 nx2 hH2 hcap2 hid2 hnx2 hfr2 hfs2; simp only [put_nx, withH_nx, put_H, withH_H] at hid2 hnx2 hfr2 hfs2; (try simp only [app_U, ← List.map_append] at hH2))
          have hHb2 : H2 idb = some [.ref id1 0 (es.length + 1) cap1 1, .ref idm 0 es.length capm 1] := by rw [hfr2 _ (by omega) (by omega)]; simp -implicitDefEqProofs (disch := omega) only [go_sem, ht, hHb1]
          have hHl2 : H2 id1 = some (bkCells es ++ [PV.ref id 0 N cap 1] ++ List.map PV.val rest1) := by rw [hfr2 _ (by omega) (by omega)]; simp -implicitDefEqProofs (disch := omega) only [go_sem, ht, hH1]
          have hHi2 : H2 id = some ((List.replicate N (mkB es.length)).map U ++ cells.drop N) := by rw [hfr2 _ (by omega) (by omega)]; simp -implicitDefEqProofs (disch := omega) only [go_sem, ht]; rw [hfr1 _ (by omega) (by omega)]; simp -implicitDefEqProofs (disch := omega) only [go_sem, ht, hH]
          have hFr2 : ∀ j, j ≠ idb → j ≠ idl → j ≠ idm → j ≠ id → j < nx → H2 j = H j := fun j j1 j2 j3 j4 j5 => by
            rw [hfr2 _ (by omega) (by omega)]; simp -implicitDefEqProofs (disch := omega) only [go_sem, ht]; rw [hfr1 _ (by omega) (by omega)]; simp -implicitDefEqProofs (disch := omega) only [go_sem, ht]; exact hfr j j4
          simp -implicitDefEqProofs (disch := omega) only [go_sem, ht, h0, h5, h6, h7, hHb2, en]
          refine end_plain (by simp -implicitDefEqProofs (disch := omega) only [go_sem, ht] <;> rfl) ?_
          simp only [tupP_1]
          refine ⟨trivial, own_next (il := id1) (im := id2) (restl := rest1) (restm := rest2) (capl := cap1) (capm := cap2) (rest := cells.drop N) hB he hid hidn hN2 (by simp -implicitDefEqProofs (disch := omega) only [go_sem, ht, en] <;> omega) g1 g2 g3 g4 g5 g6 (by omega) (by simp -implicitDefEqProofs (disch := omega) only [go_sem, ht, en] <;> omega) (by omega) (by simp -implicitDefEqProofs (disch := omega) only [go_sem, ht, en] <;> omega) (by omega) (by simp -implicitDefEqProofs (disch := omega) only [go_sem, ht, en, hHb2]) (by simp -implicitDefEqProofs (disch := omega) only [go_sem, ht, en, hHl2]) (by omega) (by simp -implicitDefEqProofs (disch := omega) only [go_sem, ht, en]; exact hH2) (by omega) (by simp -implicitDefEqProofs (disch := omega) only [go_sem, ht, en, hHi2]) (fun j j1 j2 j3 j4 j5 => by simp -implicitDefEqProofs (disch := omega) only [go_sem, ht, en]; exact hFr2 j j1 j2 j3 j4 j5)⟩
        · have hdl : (cells.drop k).length = cells.length - k := List.length_drop
          have fs := fill_step (cells := cells) (k := k) (m := mkB es.length) (by omega)
          simp -implicitDefEqProofs (disch := omega) only [go_sem, ht, h0, h5, h6, h7, hH, fs, en]
          exact ⟨⟨k + 1, by omega, rfl, rfl, fun j hj => by rw [upd_ne _ _ hj]; exact hfr j hj⟩, by omega⟩
end Go.Proofs.Ytfjdfnlkobeehaa

namespace Go.Proofs.Ytfjdfnlkobeehaa

theorem bkCells_get {es : List (Nat × Nat × Nat)} {i : Nat} {e : Nat × Nat × Nat} (l : List PV) (h : es[i]? = some e) : (bkCells es ++ l)[i]? = some (.ref e.1 0 e.2.1 e.2.2 1) := by
  have hi : i < es.length := (List.getElem?_eq_some_iff.1 h).1
  rw [List.getElem?_append_left (by rw [bkCells_len]; exact hi)]
  unfold bkCells
  rw [List.getElem?_map, h]; rfl
theorem repl_get {n m k : Nat} (h : k < n) : (List.replicate n m).getD k 0 = m := by
  rw [List.getD_eq_getElem?_getD, List.getElem?_replicate, if_pos h]; rfl

theorem done_calls {H : Nat → Option (List PV)} {nx idb : Nat} {es : List (Nat × Nat × Nat)} {B : Nat → Prop} (hB : BK H nx idb es B) (hes : es.length ≤ 100000) :
    PCalls Try.prog 25 [.ptr idb 0] H nx (memQ (.val (.bool true)) H nx) := by
  rcases hB.top with ⟨he, hH0⟩ | ⟨he, idl, capl, restl, idm, capm, restm, g1, g2, g3, g4, g5, g6, g7, g8, g9, g10, g11⟩
  · refine PCalls.enter (n := 44) (rs := [.tmp 2]) (tb := [(7, [(0, []), (1, []), (2, []), (3, []), (4, []), (5, []), (6, []), (7, []), (8, []), (9, []), (10, []), (11, []), (12, []), (13, []), (14, []), (15, []), (16, []), (17, [])]), (1000007, [(0, []), (1, []), (3, []), (7, []), (0, []), (31, []), (63, []), (0, []), (255, []), (511, []), (0, []), (1024, []), (3072, []), (7168, []), (0, []), (31744, []), (64512, []), (131071, [])])]) Try.func25 rfl rfl rfl (by kernel_rfl) (by kernel_rfl) (by simp) fun c hc ht => ?_
    simp -implicitDefEqProofs (disch := omega) only [go_sem, ht]
    refine LW.loopW hc ht (by kernel_rfl) (fun t => t.sl 0 = .ptr idb 0 ∧ t.H = H ∧ t.nx = nx ∧ t.sl 3 = .val (.int .i64 0)) (fun _ => 0) ?_ ?_
    · simp -implicitDefEqProofs (disch := omega) only [go_sem, ht]
    · rintro t ⟨h0, eH, en, h3⟩
      simp -implicitDefEqProofs (disch := omega) only [go_sem, ht, h0, eH, en, h3, hH0]
      (refine end_plain (by simp -implicitDefEqProofs (disch := omega) only [eH, en, go_sem, ht] <;> rfl) ?_; simp only [tupP_1, tupP_2]; refine ⟨?_, ?_, ?_⟩ <;> try simp -implicitDefEqProofs (disch := omega) only [eH, en, go_sem, ht])
  · refine PCalls.enter (n := 44) (rs := [.tmp 2]) (tb := [(7, [(0, []), (1, []), (2, []), (3, []), (4, []), (5, []), (6, []), (7, []), (8, []), (9, []), (10, []), (11, []), (12, []), (13, []), (14, []), (15, []), (16, []), (17, [])]), (1000007, [(0, []), (1, []), (3, []), (7, []), (0, []), (31, []), (63, []), (0, []), (255, []), (511, []), (0, []), (1024, []), (3072, []), (7168, []), (0, []), (31744, []), (64512, []), (131071, [])])]) Try.func25 rfl rfl rfl (by kernel_rfl) (by kernel_rfl) (by simp) fun c hc ht => ?_
    simp -implicitDefEqProofs (disch := omega) only [go_sem, ht]
    refine LW.loopW hc ht (by kernel_rfl) (fun t => t.sl 0 = .ptr idb 0 ∧ t.H = H ∧ t.nx = nx ∧ ∃ i : Nat, i ≤ es.length ∧ t.sl 3 = .val (.int .i64 i)) (fun t => match t.sl 3 with | .val (.int _ i) => es.length - i.toNat | _ => 0) ?_ ?_
    · simp -implicitDefEqProofs (disch := omega) only [go_sem, ht]
      exact ⟨0, Nat.zero_le _, rfl⟩
    · rintro t ⟨h0, eH, en, i, hi, h3⟩
      by_cases hil : i = es.length
      · simp -implicitDefEqProofs (disch := omega) only [go_sem, ht, h0, eH, en, h3, g7]
        (refine end_plain (by simp -implicitDefEqProofs (disch := omega) only [eH, en, go_sem, ht] <;> rfl) ?_; simp only [tupP_1, tupP_2]; refine ⟨?_, ?_, ?_⟩ <;> try simp -implicitDefEqProofs (disch := omega) only [eH, en, go_sem, ht])
      · obtain ⟨e, hei⟩ : ∃ e, es[i]? = some e := ⟨_, List.getElem?_eq_getElem (by omega)⟩
        obtain ⟨p1, p2, p3, rest, p4⟩ := hB.mem i e hei
        have hgi := bkCells_get (List.map PV.val restl) hei
        have hmi := bkMarks_get (n := es.length) (i := i) (by omega)
        simp -implicitDefEqProofs (disch := omega) only [go_sem, ht, h0, eH, en, h3, g7, g8, g10]
        refine LW.loopW hc ht (by kernel_rfl) (fun s => s.sl 0 = .ptr idb 0 ∧ s.H = H ∧ s.nx = nx ∧ s.sl 3 = .val (.int .i64 i) ∧ ∃ k : Nat, k ≤ e.2.1 ∧ s.sl 4 = .val (.int .i64 k)) (fun s => match s.sl 4 with | .val (.int _ k) => e.2.1 - k.toNat | _ => 0) ?_ ?_
        · simp -implicitDefEqProofs (disch := omega) only [go_sem, ht, h0, eH, en, h3]
          exact ⟨0, Nat.zero_le _, rfl⟩
        · clear h0 eH en
          rintro s ⟨h0, eH, en, h3', k, hk, h4⟩
          by_cases hkn : k = e.2.1
          · simp -implicitDefEqProofs (disch := omega) only [go_sem, ht, h0, eH, en, h3', h4, g7, g8, hgi]
            exact ⟨⟨i + 1, by omega, rfl⟩, by first | omega | (simp only [h3]; omega)⟩
          · have hlr : (List.replicate e.2.1 (mkB i)).length = e.2.1 := List.length_replicate
            have hml := bkMarks_len es.length
            have hgk := repl_get (n := e.2.1) (m := mkB i) (k := k) (by omega)
            simp -implicitDefEqProofs (disch := omega) only [go_sem, ht, h0, eH, en, h3', h4, g7, g8, g10, hgi, p4, hgk, hmi]
            exact ⟨⟨k + 1, by omega, rfl⟩, by omega⟩
end Go.Proofs.Ytfjdfnlkobeehaa
end

section
set_option maxRecDepth 100000
set_option linter.unusedVariables false
set_option linter.unusedSimpArgs false
namespace Go.Proofs.Ytfjdfnlkobeehaa

theorem BK.mono {H H' : Nat → Option (List PV)} {nx nx' idb : Nat} {es : List (Nat × Nat × Nat)} {B : Nat → Prop} (h : BK H nx idb es B) (hn : nx ≤ nx') (hf : ∀ j, j < nx → H' j = H j) : BK H' nx' idb es B := by
  refine ⟨h.self, fun j hj => Nat.lt_of_lt_of_le (h.lt j hj) hn, fun i e he => ?_, ?_⟩
  · obtain ⟨p1, p2, p3, r, p4⟩ := h.mem i e he
    exact ⟨p1, p2, p3, r, by rw [hf _ (h.lt _ p1)]; exact p4⟩
  · rcases h.top with ⟨he, h0⟩ | ⟨he, idl, capl, restl, idm, capm, restm, g1, g2, g3, g4, g5, g6, g7, g8, g9, g10, g11⟩
    · exact .inl ⟨he, by rw [hf _ (h.lt _ h.self)]; exact h0⟩
    · exact .inr ⟨he, idl, capl, restl, idm, capm, restm, g1, g2, g3, g4, g5, g6, by rw [hf _ (h.lt _ h.self)]; exact g7, by rw [hf _ (h.lt _ g4)]; exact g8, g9, by rw [hf _ (h.lt _ g5)]; exact g10, g11⟩
theorem BK.start {H : Nat → Option (List PV)} {nx idb : Nat} (h : H idb = some [.val (.slice none 0 0), .val (.slice none 0 0)]) (hn : idb < nx) : BK H nx idb [] (fun j => j = idb) :=
  ⟨rfl, fun j hj => hj ▸ hn, fun i e he => by simp at he, .inl ⟨rfl, h⟩⟩

end Go.Proofs.Ytfjdfnlkobeehaa
end

section
set_option maxRecDepth 100000
set_option linter.unusedVariables false
set_option linter.unusedSimpArgs false
namespace Go.Proofs.Ytfjdfnlkobeehaa

theorem LC_drop {z : Nat → Int} {ids caps : Nat → Nat} {i : Nat} (r : List PV) : ∀ {n : Nat}, i < n → ∃ r', (LC z ids caps n ++ r).drop (i * 2) = .val (.bool (decide (z i < 0))) :: .ref (ids i) 0 (D (z i).natAbs).length (caps i) 1 :: r'
  | 0, h => by omega
  | n + 1, h => by
    rw [LC_succ, List.append_assoc]
    by_cases hi : i = n
    · subst hi
      refine ⟨r, ?_⟩
      rw [List.drop_append, LC_len, List.drop_of_length_le (by rw [LC_len]; omega), Nat.sub_self]; rfl
    · exact LC_drop _ (by omega)
theorem LC_get {z : Nat → Int} {ids caps : Nat → Nat} {i n : Nat} (r : List PV) (h : i < n) : (LC z ids caps n ++ r)[i * 2 + 1]? = some (.ref (ids i) 0 (D (z i).natAbs).length (caps i) 1) := by
  obtain ⟨r', e⟩ := LC_drop (z := z) (ids := ids) (caps := caps) r h
  have := congrArg (fun l => l[1]?) e
  simp only [List.getElem?_drop] at this
  simpa using this

def orQ (H : Nat → Option (List PV)) (nx idb : Nat) (k : Nat) (B : Nat → Prop) (lo hi : Nat) (r : PV) (H' : Nat → Option (List PV)) (nx' : Nat) : Prop :=
  r = .val (.bool true) ∧ ∃ es' B', BK H' nx' idb es' B' ∧ es'.length = k ∧ (∀ j, B' j → B j ∨ (lo ≤ j ∧ j < hi) ∨ nx ≤ j) ∧ ∀ j, ¬ B j → ¬ (lo ≤ j ∧ j < hi) → j < nx → H' j = H j
set_option maxHeartbeats 4000000 in
theorem ownrow_L {H : Nat → Option (List PV)} {nx idb lo hi id n cap : Nat} {es : List (Nat × Nat × Nat)} {B : Nat → Prop} {z : Nat → Int} {ids caps : Nat → Nat} (hO : OR H lo hi id n z ids caps) (hB : BK H nx idb es B) (hdis : ∀ j, lo ≤ j → j < hi → ¬ B j) (hnx : hi ≤ nx)
    (hes : es.length + n ≤ 100000) : PCalls Try.prog 60 [.ptr idb 0, .ref id 0 n cap 2] H nx (orQ H nx idb (es.length + n) B lo hi) := by
  obtain ⟨rest, hout⟩ := hO.out
  have hid := hO.id
  refine PCalls.enter (n := 19) (rs := [.tmp 4]) (tb := []) Try.func60 rfl rfl rfl (by kernel_rfl) (by kernel_rfl) (by simp) fun c hc ht => ?_
  simp -implicitDefEqProofs (disch := omega) only [go_sem, ht]
  refine LW.loopW hc ht (by kernel_rfl) (fun t => t.sl 0 = .ptr idb 0 ∧ t.sl 1 = .ref id 0 n cap 2 ∧ ∃ i : Nat, i ≤ n ∧ t.sl 5 = .val (.int .i64 i) ∧ nx ≤ t.nx ∧ ∃ es' B', BK t.H t.nx idb es' B' ∧ es'.length = es.length + i ∧
      (∀ j, B' j → B j ∨ (∃ k, k < i ∧ j = ids k) ∨ nx ≤ j) ∧ ∀ j, ¬ B j → (∀ k, k < i → j ≠ ids k) → j < nx → t.H j = H j)
    (fun t => match t.sl 5 with | .val (.int _ k) => n - k.toNat | _ => 0) ?_ ?_
  · simp -implicitDefEqProofs (disch := omega) only [go_sem, ht]
    exact ⟨0, Nat.zero_le _, rfl, Nat.le_refl _, es, B, hB, rfl, fun j hj => .inl hj, fun _ _ _ _ => by first | rfl | trivial⟩
  · rintro t ⟨h0, h1, i, hi', h5, hn, es', B', hB', hel, hb', hfr⟩
    by_cases hil : i = n
    · subst hil
      simp -implicitDefEqProofs (disch := omega) only [go_sem, ht, h0, h1, h5]
      refine end_plain (by simp -implicitDefEqProofs (disch := omega) only [go_sem, ht] <;> rfl) ?_
      simp only [tupP_1]
      refine ⟨rfl, es', B', hB', hel, fun j hj => ?_, fun j h1 h2 h3 => hfr j h1 (fun k hk e => h2 (by have := hO.lt k hk; omega)) h3⟩
      rcases hb' j hj with h | ⟨k, hk, rfl⟩ | h
      · exact .inl h
      · have := hO.lt k hk
        exact .inr (.inl ⟨this.1, this.2.1⟩)
      · exact .inr (.inr h)
    · have hlt : i < n := by omega
      have hrow : t.H id = some (LC z ids caps n ++ rest.map .val) := by
        rw [hfr id (hdis id hid.1 hid.2) (fun k hk e => (hO.lt k (by omega)).2.2 e.symm) (by omega)]; exact hout
      have hget := LC_get (z := z) (ids := ids) (caps := caps) (rest.map .val) hlt
      have hll := LC_len z ids caps n
      obtain ⟨rl, hrl, hcl⟩ := hO.leaf i hlt
      obtain ⟨q1, q2, q3⟩ := hO.lt i hlt
      have hleaf : t.H (ids i) = some ((D (z i).natAbs).map U ++ rl.map .val) := by
        rw [hfr (ids i) (hdis _ q1 q2) (fun k hk e => by have := hO.inj i k hlt (by omega) e; omega) (by omega)]; exact hrl
      have hnB : ¬ B' (ids i) := fun h => by
        rcases hb' _ h with h | ⟨k, hk, e⟩ | h
        · exact hdis _ q1 q2 h
        · have := hO.inj i k hlt (by omega) e; omega
        · omega
      have hcall := own_calls (n := (D (z i).natAbs).length) (cap := caps i) hB' (by omega) hnB (by omega) hleaf (by simp; omega) (by omega)
      generalize D (z i).natAbs = dz at *
      simp -implicitDefEqProofs (disch := omega) only [go_sem, ht, h0, h1, h5, hrow, hget]
      apply pCall_mem
      exact hcall
      rintro _ H6 n6 ⟨rfl, B6, hB6, hb6, hF6⟩ hn6
      (try simp only [put_nx, withH_nx, put_H, withH_H] at hn6)
      (try simp only [put_nx, withH_nx, put_H, withH_H] at hF6)
      (try simp only [put_nx, withH_nx, put_H, withH_H] at hb6)
      simp -implicitDefEqProofs (disch := omega) only [go_sem, ht, h0, h1, h5]
      refine ⟨⟨i + 1, by omega, rfl, by omega, _, B6, hB6, by simp; omega, fun j hj => ?_, fun j h1 h2 h3 => ?_⟩, by omega⟩
      · rcases hb6 j hj with h | h | h
        · rcases hb' j h with h | ⟨k, hk, e⟩ | h
          · exact .inl h
          · exact .inr (.inl ⟨k, by omega, e⟩)
          · exact .inr (.inr h)
        · exact .inr (.inl ⟨i, by omega, h⟩)
        · exact .inr (.inr (by omega))
      · rw [hF6 j (fun h => ?_) (h2 i (by omega)) (by omega)]
        · exact hfr j h1 (fun k hk => h2 k (by omega)) h3
        · rcases hb' j h with h | ⟨k, hk, e⟩ | h
          · exact h1 h
          · exact h2 k (by omega) e
          · omega

def omBQ (idb k : Nat) (r : PV) (H' : Nat → Option (List PV)) (nx' : Nat) : Prop := r = .val (.bool true) ∧ ∃ es' B', BK H' nx' idb es' B' ∧ es'.length = k
theorem own_L {H : Nat → Option (List PV)} {nx idb lo b idM cols capM : Nat} {es : List (Nat × Nat × Nat)} {B : Nat → Prop} {W : List (List Int)} (hM : OM H lo b idM W cols) (hB : BK H nx idb es B) (hdis : ∀ j, lo ≤ j → j < b → ¬ B j) (hnx : b ≤ nx)
    (hes : es.length + W.length * cols ≤ 100000) (hW : W.length ≤ 100000) : PCalls Try.prog 24 [.ptr idb 0, .ref idM 0 W.length capM 1] H nx (omBQ idb (es.length + W.length * cols)) := by
  obtain ⟨hcols, rid, rcap, lw, hg, ids, caps, hT⟩ := hM
  generalize W.length = n at *
  obtain ⟨rest, hout⟩ := hT.out
  have hid := hT.idM
  refine PCalls.enter (n := 19) (rs := [.tmp 4]) (tb := []) Try.func24 rfl rfl rfl (by kernel_rfl) (by kernel_rfl) (by simp) fun c hc ht => ?_
  simp -implicitDefEqProofs (disch := omega) only [go_sem, ht]
  refine LW.loopW hc ht (by kernel_rfl) (fun t => t.sl 0 = .ptr idb 0 ∧ t.sl 1 = .ref idM 0 n capM 1 ∧ ∃ i : Nat, i ≤ n ∧ t.sl 5 = .val (.int .i64 i) ∧ nx ≤ t.nx ∧ ∃ es' B', BK t.H t.nx idb es' B' ∧ es'.length = es.length + i * cols ∧
      (∀ j, B' j → B j ∨ (∃ k, k < i ∧ lw k ≤ j ∧ j < hg k) ∨ nx ≤ j) ∧ ∀ j, ¬ B j → (∀ k, k < i → ¬ (lw k ≤ j ∧ j < hg k)) → j < nx → t.H j = H j)
    (fun t => match t.sl 5 with | .val (.int _ k) => n - k.toNat | _ => 0) ?_ ?_
  · simp -implicitDefEqProofs (disch := omega) only [go_sem, ht]
    exact ⟨0, Nat.zero_le _, rfl, Nat.le_refl _, es, B, hB, by omega, fun j hj => .inl hj, fun _ _ _ _ => by first | rfl | trivial⟩
  · rintro t ⟨h0, h1, i, hi', h5, hn, es', B', hB', hel, hb', hfr⟩
    by_cases hil : i = n
    · subst hil
      simp -implicitDefEqProofs (disch := omega) only [go_sem, ht, h0, h1, h5]
      refine end_plain (by simp -implicitDefEqProofs (disch := omega) only [go_sem, ht] <;> rfl) ?_
      simp only [tupP_1]
      exact ⟨rfl, es', B', hB', hel⟩
    · have hlt : i < n := by omega
      have hle : es.length + (i * cols + cols) ≤ es.length + n * cols := by
        have : (i + 1) * cols ≤ n * cols := Nat.mul_le_mul_right _ hlt
        rw [Nat.add_mul, Nat.one_mul] at this
        omega
      have hrow : t.H idM = some (MC rid rcap cols n ++ rest.map .val) := by
        rw [hfr idM (hdis idM hid.1 hid.2) (fun k hk e => by have := hT.bd k (by omega); omega) (by omega)]; exact hout
      have hget := MC_get (ids := rid) (caps := rcap) (cols := cols) (rest.map .val) hlt
      have hml := MC_len rid rcap cols n
      obtain ⟨b1, b2, b3⟩ := hT.bd i hlt
      have hO := (hT.row i hlt).mono (H' := t.H) (Nat.le_refl _) fun j h1 h2 => hfr j (hdis j (by omega) (by omega)) (fun k hk e => by have := hT.ord k i hk hlt; omega) (by omega)
      have hcall := ownrow_L (cap := rcap i) hO hB' (fun j h1 h2 h => by
        rcases hb' _ h with h | ⟨k, hk, e⟩ | h
        · exact hdis _ (by omega) (by omega) h
        · have := hT.ord k i hk hlt; omega
        · omega) (by omega) (by omega)
      simp -implicitDefEqProofs (disch := omega) only [go_sem, ht, h0, h1, h5, hrow, hget]
      apply pCall_mem
      exact hcall
      rintro _ H6 n6 ⟨rfl, es6, B6, hB6, hl6, hb6, hF6⟩ hn6
      (try simp only [put_nx, withH_nx, put_H, withH_H] at hn6)
      (try simp only [put_nx, withH_nx, put_H, withH_H] at hF6)
      (try simp only [put_nx, withH_nx, put_H, withH_H] at hb6)
      simp -implicitDefEqProofs (disch := omega) only [go_sem, ht, h0, h1, h5]
      refine ⟨⟨i + 1, by omega, rfl, by omega, es6, B6, hB6, by rw [Nat.add_mul]; omega, fun j hj => ?_, fun j h1 h2 h3 => ?_⟩, by omega⟩
      · rcases hb6 j hj with h | h | h
        · rcases hb' j h with h | ⟨k, hk, e⟩ | h
          · exact .inl h
          · exact .inr (.inl ⟨k, by omega, e⟩)
          · exact .inr (.inr h)
        · exact .inr (.inl ⟨i, by omega, h⟩)
        · exact .inr (.inr (by omega))
      · rw [hF6 j (fun h => ?_) (h2 i (by omega)) (by omega)]
        · exact hfr j h1 (fun k hk => h2 k (by omega)) h3
        · rcases hb' j h with h | ⟨k, hk, e⟩ | h
          · exact h1 h
          · exact h2 k (by omega) e
          · omega
end Go.Proofs.Ytfjdfnlkobeehaa
end
