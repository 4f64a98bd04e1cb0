/- From a contract to the row: lists of numbers, and lists of such, as a law's arguments. What they hold together is bounded. -/
import Derived.Test.YtfjdfnlkobeehaaLawB
import Derived.Test.YtfjdfnlkobeehaaListW
import Derived.Deep.SlicePairs
import Derived.Deep.CondSized
import Derived.JoinedCond
set_option maxRecDepth 100000
set_option linter.unusedVariables false
set_option linter.unusedSimpArgs false
namespace Go.Proofs.Ytfjdfnlkobeehaa
open Go.ChangeShapes Go.WideShapes Go.ChangeAt Go.RowKit Go.Deep

section
variable {H : Type} {enc : TypeId × Value → H} {w : World} {P : Program}

theorem bulk_all {α : Type} {f : α → Nat} {g : α → DataW H} : ∀ (is : List α), (∀ i ∈ is, f i ≤ Rows.uptoBulk (g i)) → (is.map f).sum ≤ Rows.uptoBulkAll (is.map g)
  | [], _ => by simp
  | i :: is, h => by
    have h1 := h i (List.mem_cons_self ..)
    have h2 := bulk_all is fun j hj => h j (List.mem_cons_of_mem _ hj)
    simp only [List.map_cons, List.sum_cons, Rows.uptoBulkAll]
    omega
theorem bulk_len : ∀ (l : List (DataW H)), l.length ≤ Rows.uptoBulkAll l
  | [] => by simp
  | d :: l => by
    have h2 := bulk_len l
    have : 1 ≤ Rows.uptoBulk d := by
      cases d with
      | lit x => cases x <;> simp [Rows.uptoBulk]
      | _ => simp [Rows.uptoBulk]
    simp only [List.length_cons, Rows.uptoBulkAll]
    omega
theorem bulk_slice (es sp : List (DataW H)) : Rows.uptoBulkAll es + 1 ≤ Rows.uptoBulk (.slice es sp) := by simp only [Rows.uptoBulk]; omega
theorem row_ones {b : Nat} : ∀ (l : List PV) (o : Nat), (∀ i (h : i < l.length), ∃ v, w.cell? ⟨b, o + i, none⟩ = some v ∧ Rep (E0 w) l[i] v) → Row (E0 w) b o l
  | [], _, _ => by simp [Row]
  | p :: l, o, h => by
    simp only [Row]
    refine ⟨by have := h 0 (by simp); simpa using this, row_ones l (o + 1) fun i hi => ?_⟩
    obtain ⟨v, h1, h2⟩ := h (i + 1) (by simpa using hi)
    exact ⟨v, by rw [← h1]; congr 2; omega, by simpa using h2⟩
theorem row_pairs {b : Nat} : ∀ (l : List (Bool × List Nat)) (o : Nat), (∀ i (h : i < l.length), (∃ v, w.cell? ⟨b, o + i * 2, none⟩ = some v ∧ Rep (E0 w) (.val (.bool l[i].1)) v) ∧ ∃ v, w.cell? ⟨b, o + (i * 2 + 1), none⟩ = some v ∧ Rep (E0 w) (SU l[i].2) v) → Row (E0 w) b o (SWc l)
  | [], _, _ => by simp [Row, SWc]
  | p :: l, o, h => by
    rw [SWc_cons]
    simp only [Row]
    obtain ⟨h1, h2⟩ := h 0 (by simp)
    refine ⟨by simpa using h1, by simpa using h2, row_pairs l (o + 1 + 1) fun i hi => ?_⟩
    obtain ⟨⟨v, h1, h2⟩, u, h3, h4⟩ := h (i + 1) (by simpa using hi)
    exact ⟨⟨v, by rw [← h1]; congr 2; omega, by simpa using h2⟩, u, by rw [← h3]; congr 2; omega, by simpa using h4⟩
theorem not_A0 (b : Nat) : ¬ (E0 w).A b := by
  rintro (h | ⟨i, ⟨cs, hcs, _⟩ | hi, _⟩)
  · exact h
  · simp at hcs
  · simp at hi
theorem add_eq {a : Addr} (h : a.spot = none) (i : Nat) : a.add i = ⟨a.block, a.off + i, none⟩ := by
  obtain ⟨b, o, s⟩ := a
  simp only at h; subst h
  unfold Addr.add
  split
  · subst i; rfl
  · rfl
theorem cell_limbsS {t e : TypeId} {fuel : Nat} {v : Value} {x : DataW H × List MemPlace} (ht : P.underlying t = some (.slice e)) (he : P.underlying e = some (.int .u32)) (hc : P.cellsOf e = 1)
    (hf : DataW.trod enc P w 0 (fun _ => true) true fuel t [v] = some x) :
    ∃ xs : List Nat, Lm xs ∧ xs.length + 1 ≤ Rows.uptoBulk x.1 ∧ Rep (E0 w) (SU xs) v := by
  rcases open_ints ht he hc hf with ⟨hcs, hx⟩ | ⟨a, len, cap, zs, hcs, _, hl, hm, hz, hx, hcell, hwz⟩
  · obtain rfl : v = .slice none 0 0 := by simpa using hcs
    exact ⟨[], Lm_nil, by rw [hx]; simp [Rows.uptoBulk], by simp [SU_def, Rep]⟩
  · obtain rfl : v = .slice (some a) len cap := by simpa using hcs
    simp only [if_true] at hz
    have hrange : ∀ z ∈ zs, 0 ≤ z ∧ z < 4294967296 := fun z hz => by
      have h1 := hwz z hz
      have h1 : (decide (IntKind.u32.min ≤ z) && decide (z ≤ IntKind.u32.max)) = true := h1
      have h2 : IntKind.u32.min ≤ z ∧ z ≤ IntKind.u32.max := by simpa using h1
      have h3 : IntKind.u32.min = 0 := rfl
      have h4 : IntKind.u32.max = 4294967295 := rfl
      omega
    have hln : ((zs.take len).map Int.toNat).length = len := by simp [hz, hl]
    refine ⟨(zs.take len).map Int.toNat, fun y hy => ?_, ?_, ?_⟩
    · obtain ⟨z, hz1, rfl⟩ := List.mem_map.1 hy
      have := hrange z (List.mem_of_mem_take hz1)
      omega
    · rw [hln, hx]
      have h1 := bulk_slice (lits (H := H) .u32 (zs.take len)) (lits .u32 (zs.drop len))
      have h2 := bulk_len (lits (H := H) .u32 (zs.take len))
      have h3 : (lits (H := H) .u32 (zs.take len)).length = len := by simp [lits, hz, hl]
      simp only at h1 ⊢
      omega
    · rw [SU_def, hln]
      simp only [Rep]
      by_cases h0 : cap = 0
      · subst h0
        obtain rfl : len = 0 := by omega
        exact .inl ⟨rfl, by simp, some a, rfl⟩
      · have hs : a.spot = none := by
          have := World.cell?_spot (hcell 0 (by omega))
          simpa [Addr.add] using this
        refine .inr ⟨a.block, a.off, cap, ?_, hl, .inr ⟨not_A0 (w := w) _, row_ones _ _ fun i hi => ?_⟩⟩
        · obtain ⟨b, o, s⟩ := a
          simp only at hs; subst hs; rfl
        · have hi' : i < len := by simpa [hz, hl] using hi
          have h1 := hcell i (by omega)
          rw [add_eq hs] at h1
          refine ⟨_, h1, ?_⟩
          have h2 := hrange (zs.getD i 0) (by rw [List.getD_eq_getElem?_getD, List.getElem?_eq_getElem (by omega)]; exact List.getElem_mem _)
          simp only [List.getElem_map, List.getElem_take, U, Rep]
          congr 1
          rw [List.getD_eq_getElem?_getD, List.getElem?_eq_getElem (by omega)] at h2 ⊢
          simp only [Option.getD_some] at h2 ⊢
          omega
theorem lenW_sum (l : List (Bool × List Nat)) : lenW l = (l.map fun p => 1 + p.2.length).sum := by
  induction l with
  | nil => rfl
  | cons p l ih => simp only [lenW, List.map_cons, List.sum_cons, ih]
theorem cell_wholesS {t e u : TypeId} {f0 f1 : Field} {fuel : Nat} {v : Value} {x : DataW H × List MemPlace} (ht : P.underlying t = some (.slice e)) (he : P.underlying e = some (.struct #[f0, f1])) (ce : P.cellsOf e = 2)
    (o0 : f0.offset = 0) (o1 : f1.offset = 1) (n0 : P.cellsOf f0.type = 1) (n1 : P.cellsOf f1.type = 1) (hb : P.underlying f0.type = some .bool)
    (hs : P.underlying f1.type = some (.slice u)) (hu : P.underlying u = some (.int .u32)) (hc : P.cellsOf u = 1)
    (hf : DataW.trod enc P w 0 (fun _ => true) true fuel t [v] = some x) :
    ∃ l : List (Bool × List Nat), (∀ p ∈ l, Lm p.2) ∧ lenW l + 1 ≤ Rows.uptoBulk x.1 ∧ Rep (E0 w) (SW l) v := by
  rcases open_slice_pairs ht he ce o0 o1 n0 n1 hf with ⟨hcs, hx⟩ | ⟨a, len, cap, m, n, V0, V1, D0, D1, P0, P1, hcs, _, hl, _, hm, hx, hall⟩
  · obtain rfl : v = .slice none 0 0 := by simpa using hcs
    exact ⟨[], fun p hp => by simp at hp, by rw [hx]; simp [Rows.uptoBulk, lenW], by simp [SW_def, SWc, Rep]⟩
  · obtain rfl : v = .slice (some a) len cap := by simpa using hcs
    simp only [if_true] at hm
    obtain rfl : cap = m := hm.symm
    have each : ∀ i, i < cap → ∃ p : Bool × List Nat, Rep (E0 w) (.val (.bool p.1)) (V0 i) ∧ Lm p.2 ∧ p.2.length + 1 ≤ Rows.uptoBulk (D1 i) ∧ Rep (E0 w) (SU p.2) (V1 i) := fun i hi => by
      obtain ⟨_, _, h3, h4⟩ := hall i hi
      obtain ⟨neg, g1, _⟩ := DataW.trod_bool hb h3
      obtain ⟨xs, g2, g3, g4⟩ := cell_limbsS hs hu hc h4
      simp only [List.cons.injEq, and_true] at g1
      exact ⟨(neg, xs), by simp [Rep, g1], g2, g3, g4⟩
    obtain ⟨q, hq⟩ := choose_lt each
    have hln : ((List.range len).map q).length = len := by simp
    refine ⟨(List.range len).map q, fun p hp => ?_, ?_, ?_⟩
    · obtain ⟨i, hi, rfl⟩ := List.mem_map.1 hp
      exact (hq i (by have := List.mem_range.1 hi; omega)).2.1
    · rw [hx, lenW_sum, List.map_map]
      have h1 := bulk_all (H := H) (f := (fun p : Bool × List Nat => 1 + p.2.length) ∘ q) (g := fun i => DataW.agg [D0 i, D1 i]) (List.range len) fun i hi => by
        have := (hq i (by have := List.mem_range.1 hi; omega)).2.2.1
        simp only [Rows.uptoBulk, Rows.uptoBulkAll, Function.comp]; omega
      have h2 := bulk_slice (H := H) ((List.range len).map fun i => DataW.agg [D0 i, D1 i]) ((List.range (cap - len)).map fun j => DataW.agg [D0 (len + j), D1 (len + j)])
      simp only at h2 ⊢
      omega
    · rw [SW_def, hln]
      simp only [Rep]
      by_cases h0 : cap = 0
      · subst h0
        obtain rfl : len = 0 := by omega
        exact .inl ⟨rfl, rfl, some a, rfl⟩
      · have hsp : a.spot = none := by
          have := World.cell?_spot (hall 0 (by omega)).1
          simpa [Addr.add] using this
        refine .inr ⟨a.block, a.off, cap, ?_, hl, .inr ⟨not_A0 (w := w) _, row_pairs _ _ fun i hi => ?_⟩⟩
        · obtain ⟨b, o, s⟩ := a
          simp only at hsp; subst hsp; rfl
        · have hi' : i < cap := by rw [hln] at hi; omega
          obtain ⟨h1, h2, _⟩ := hall i hi'
          rw [add_eq hsp] at h1 h2
          obtain ⟨g1, _, _, g2⟩ := hq i hi'
          simp only [List.getElem_map, List.getElem_range]
          exact ⟨⟨_, h1, g1⟩, _, h2, g2⟩
/-- Rows of numbers. -/
def SM (m : List (List (Bool × List Nat))) : PV := .sl m.length (m.map SW)
theorem SM_def (m : List (List (Bool × List Nat))) : SM m = .sl m.length (m.map SW) := rfl
def lenM (m : List (List (Bool × List Nat))) : Nat := (m.map fun l => 1 + lenW l).sum
theorem cell_rowsS {r t e u : TypeId} {f0 f1 : Field} {fuel : Nat} {v : Value} {x : DataW H × List MemPlace} (hr : P.underlying r = some (.slice t)) (cr : P.cellsOf t = 1) (ht : P.underlying t = some (.slice e)) (he : P.underlying e = some (.struct #[f0, f1])) (ce : P.cellsOf e = 2)
    (o0 : f0.offset = 0) (o1 : f1.offset = 1) (n0 : P.cellsOf f0.type = 1) (n1 : P.cellsOf f1.type = 1) (hb : P.underlying f0.type = some .bool)
    (hs : P.underlying f1.type = some (.slice u)) (hu : P.underlying u = some (.int .u32)) (hc : P.cellsOf u = 1)
    (hf : DataW.trod enc P w 0 (fun _ => true) true fuel r [v] = some x) :
    ∃ m : List (List (Bool × List Nat)), (∀ l ∈ m, ∀ p ∈ l, Lm p.2) ∧ lenM m + 1 ≤ Rows.uptoBulk x.1 ∧ Rep (E0 w) (SM m) v := by
  rcases open_slice1 hr cr hf with ⟨hcs, hx⟩ | ⟨a, len, cap, m, n, V, D, Pl, hcs, _, hl, _, hm, hx, hall⟩
  · obtain rfl : v = .slice none 0 0 := by simpa using hcs
    exact ⟨[], fun p hp => by simp at hp, by rw [hx]; simp [Rows.uptoBulk, lenM], by simp [SM_def, Rep]⟩
  · obtain rfl : v = .slice (some a) len cap := by simpa using hcs
    simp only [if_true] at hm
    obtain rfl : cap = m := hm.symm
    have each : ∀ i, i < cap → ∃ l : List (Bool × List Nat), (∀ p ∈ l, Lm p.2) ∧ lenW l + 1 ≤ Rows.uptoBulk (D i) ∧ Rep (E0 w) (SW l) (V i) := fun i hi => by
      obtain ⟨_, h4⟩ := hall i hi
      exact cell_wholesS ht he ce o0 o1 n0 n1 hb hs hu hc h4
    obtain ⟨q, hq⟩ := choose_lt each
    have hln : ((List.range len).map q).length = len := by simp
    refine ⟨(List.range len).map q, fun p hp => ?_, ?_, ?_⟩
    · obtain ⟨i, hi, rfl⟩ := List.mem_map.1 hp
      exact (hq i (by have := List.mem_range.1 hi; omega)).1
    · rw [hx]
      unfold lenM
      rw [List.map_map]
      have h1 := bulk_all (H := H) (f := (fun l : List (Bool × List Nat) => 1 + lenW l) ∘ q) (g := D) (List.range len) fun i hi => by
        have := (hq i (by have := List.mem_range.1 hi; omega)).2.1
        simp only [Function.comp]; omega
      have h2 := bulk_slice (H := H) ((List.range len).map D) ((List.range (cap - len)).map fun j => D (len + j))
      simp only at h2 ⊢
      omega
    · rw [SM_def, hln]
      simp only [Rep]
      by_cases h0 : cap = 0
      · subst h0
        obtain rfl : len = 0 := by omega
        exact .inl ⟨rfl, rfl, some a, rfl⟩
      · have hsp : a.spot = none := by
          have := World.cell?_spot (hall 0 (by omega)).1
          simpa [Addr.add] using this
        refine .inr ⟨a.block, a.off, cap, ?_, hl, .inr ⟨not_A0 (w := w) _, row_ones _ _ fun i hi => ?_⟩⟩
        · obtain ⟨b, o, s⟩ := a
          simp only at hsp; subst hsp; rfl
        · have hi' : i < cap := by rw [List.length_map, hln] at hi; omega
          obtain ⟨h1, _⟩ := hall i hi'
          rw [add_eq hsp] at h1
          simp only [List.getElem_map, List.getElem_range]
          exact ⟨_, h1, (hq i hi').2.2⟩
/-- Ints. -/
theorem cell_intsS {t e : TypeId} {fuel : Nat} {v : Value} {x : DataW H × List MemPlace} (ht : P.underlying t = some (.slice e)) (he : P.underlying e = some (.int .i64)) (hc : P.cellsOf e = 1)
    (hf : DataW.trod enc P w 0 (fun _ => true) true fuel t [v] = some x) :
    ∃ zs : List Int, (∀ z ∈ zs, -9223372036854775808 ≤ z ∧ z ≤ 9223372036854775807) ∧ zs.length + 1 ≤ Rows.uptoBulk x.1 ∧ Rep (E0 w) (.sl zs.length (zs.map fun z => .val (.int .i64 z))) v := by
  rcases open_ints ht he hc hf with ⟨hcs, hx⟩ | ⟨a, len, cap, zs, hcs, _, hl, hm, hz, hx, hcell, hwz⟩
  · obtain rfl : v = .slice none 0 0 := by simpa using hcs
    exact ⟨[], fun z hz => by simp at hz, by rw [hx]; simp [Rows.uptoBulk], by simp [Rep]⟩
  · obtain rfl : v = .slice (some a) len cap := by simpa using hcs
    simp only [if_true] at hz
    have hln : (zs.take len).length = len := by simp [hz, hl]
    refine ⟨zs.take len, fun z hz => ?_, ?_, ?_⟩
    · have h1 := hwz z (List.mem_of_mem_take hz)
      have h1 : (decide (IntKind.i64.min ≤ z) && decide (z ≤ IntKind.i64.max)) = true := h1
      simpa [IntKind.min, IntKind.max, IntKind.signed, IntKind.bits] using h1
    · rw [hln, hx]
      have h1 := bulk_slice (lits (H := H) .i64 (zs.take len)) (lits .i64 (zs.drop len))
      have h2 := bulk_len (lits (H := H) .i64 (zs.take len))
      have h3 : (lits (H := H) .i64 (zs.take len)).length = len := by simp [lits, hz, hl]
      simp only at h1 ⊢
      omega
    · rw [hln]
      simp only [Rep]
      by_cases h0 : cap = 0
      · subst h0
        obtain rfl : len = 0 := by omega
        exact .inl ⟨rfl, by simp, some a, rfl⟩
      · have hs : a.spot = none := by
          have := World.cell?_spot (hcell 0 (by omega))
          simpa [Addr.add] using this
        refine .inr ⟨a.block, a.off, cap, ?_, hl, .inr ⟨not_A0 (w := w) _, row_ones _ _ fun i hi => ?_⟩⟩
        · obtain ⟨b, o, s⟩ := a
          simp only at hs; subst hs; rfl
        · have hi' : i < len := by simpa [hz, hl] using hi
          have h1 := hcell i (by omega)
          rw [add_eq hs] at h1
          refine ⟨_, h1, ?_⟩
          simp only [List.getElem_map, List.getElem_take, Rep]
          congr 1
          rw [List.getD_eq_getElem?_getD, List.getElem?_eq_getElem (by omega)]; rfl
theorem value_cells {t e : TypeId} {b0 : Nat} {v : Value} {d : DataW H} {p : List MemPlace} (ht : P.underlying t = some (.slice e)) (hv : Value.okWide P w .any b0 t v) (hd : DataW.Trod enc P w 0 (fun _ => true) true t v d p) :
    ∃ fuel, DataW.trod enc P w 0 (fun _ => true) true fuel t [v] = some (d, p) := by
  obtain ⟨a, len, cap, rfl⟩ := okWide_slice ht hv
  exact hd
end
end Go.Proofs.Ytfjdfnlkobeehaa
