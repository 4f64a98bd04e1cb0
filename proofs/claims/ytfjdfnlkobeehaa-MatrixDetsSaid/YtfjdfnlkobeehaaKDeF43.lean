/- Part 43 of the way to the statement: the walk and what it needs. -/
import Derived.Test.YtfjdfnlkobeehaaKDeF34
import Derived.Test.YtfjdfnlkobeehaaKDeF35
section
set_option maxRecDepth 100000
set_option linter.unusedVariables false
set_option linter.unusedSimpArgs false
namespace Go.Proofs.Ytfjdfnlkobeehaa

def anyI (s : Nat) (r : PV) : Prop := ∃ k : Int, r = .val (.int .i64 k) ∧ -9223372036854775808 ≤ k ∧ k ≤ 9223372036854775807 ∧ (s ≤ 9223372036854775807 → k = s)

def FW (l : List (Bool × List Nat)) : Prop := l.length ≤ 4398046510976 ∧ ∀ p ∈ l, Lm p.2 ∧ p.2.length ≤ 35184372087808
def FM (m : List (List (Bool × List Nat))) : Prop := m.length ≤ 5864062014634 ∧ ∀ l ∈ m, FW l
section
variable {l : List (Bool × List Nat)} {m : List (List (Bool × List Nat))}
theorem wrap_exact {z : Int} (h : -9223372036854775808 ≤ z ∧ z ≤ 9223372036854775807) : IntKind.i64.wrap z = z := wrap_of_range rfl h
theorem len_wholes_any (hl : FW l) : PT Try.prog 26 [SW l] (anyI (lenW l)) := by
  have hl0 := hl.1
  refine PCalls.enter (n := 19) (rs := [.tmp 2]) (tb := []) Try.func26 rfl rfl rfl (by kernel_rfl) (by kernel_rfl) (by simp) fun c hc ht => ?_
  simp -implicitDefEqProofs (disch := omega) only [go_sem, ht]
  refine LW.loopW hc ht (by kernel_rfl) (fun t => t.sl 0 = .sl l.length (SWc l) ∧ ∃ i : Nat, i ≤ l.length ∧ t.sl 4 = .val (.int .i64 i) ∧ ∃ k : Int, t.sl 3 = .val (.int .i64 k) ∧ -9223372036854775808 ≤ k ∧ k ≤ 9223372036854775807 ∧ (lenW (l.take i) ≤ 9223372036854775807 → k = lenW (l.take i)))
    (fun t => match t.sl 4 with | .val (.int _ k) => l.length - k.toNat | _ => 0) ?_ ?_
  · simp -implicitDefEqProofs (disch := omega) only [go_sem, ht]
    exact ⟨0, Nat.zero_le _, rfl, 0, rfl, by omega, by omega, fun _ => rfl⟩
  · rintro t ⟨h0, i, hi, h4, k, h3, hk1, hk2, hk3⟩
    by_cases hil : i = l.length
    · subst hil
      rw [List.take_length] at hk3
      simp -implicitDefEqProofs (disch := omega) only [go_sem, ht, h0, h3, h4]
      (refine end_treeM 2 ?_; simp -implicitDefEqProofs (disch := omega) only [go_sem, ht, h3])
      exact ⟨k, rfl, hk1, hk2, hk3⟩
    · have hlt : i < l.length := by omega
      have hat := SWc_at hlt
      have hxi := (hl.2 _ (List.getElem_mem hlt)).2
      have htk := lenW_take hlt
      have hlw := len_whole (b := l[i].1) (xs := l[i].2) (by omega)
      obtain ⟨z, ez⟩ : ∃ z : Int, k + ((1 + l[i].2.length : Nat) : Int) = z := ⟨_, rfl⟩
      by_cases hr : -9223372036854775808 ≤ z ∧ z ≤ 9223372036854775807
      · simp -implicitDefEqProofs (disch := omega) only [go_sem, ht, h0, h3, h4, hat]
        (refine pCall_vw (by refine ⟨⟨?_, ?_⟩, ?_, ?_⟩; rotate_left 2; (first | (right; rintro r rfl; rfl) | left); all_goals ((try simp -implicitDefEqProofs (disch := omega) only [h0, h3, h4, hat, ez, go_sem, ht]) <;> rfl)) (hlw) ?_; rintro _ nx - rfl hnx; simp -implicitDefEqProofs (disch := omega) only [h0, h3, h4, hat, ez, go_sem, ht])
        exact ⟨⟨i + 1, by omega, rfl, z, rfl, by omega, by omega, fun h => by have := hk3 (by omega); omega⟩, by omega⟩
      · have hwb := wrap_bd z
        simp -implicitDefEqProofs (disch := omega) only [go_sem, ht, h0, h3, h4, hat]
        (refine pCall_vw (by refine ⟨⟨?_, ?_⟩, ?_, ?_⟩; rotate_left 2; (first | (right; rintro r rfl; rfl) | left); all_goals ((try simp -implicitDefEqProofs (disch := omega) only [h0, h3, h4, hat, ez, go_sem, ht]) <;> rfl)) (hlw) ?_; rintro _ nx - rfl hnx; simp -implicitDefEqProofs (disch := omega) only [h0, h3, h4, hat, ez, go_sem, ht])
        exact ⟨⟨i + 1, by omega, rfl, _, rfl, by omega, by omega, fun h => by exfalso; have := hk3 (by omega); omega⟩, by omega⟩
theorem len_rows_any (hm : FM m) : PT Try.prog 12 [SM m] (anyI (lenM m)) := by
  have hl0 := hm.1
  refine PCalls.enter (n := 20) (rs := [.tmp 2]) (tb := []) Try.func12 rfl rfl rfl (by kernel_rfl) (by kernel_rfl) (by simp) fun c hc ht => ?_
  simp -implicitDefEqProofs (disch := omega) only [go_sem, ht]
  refine LW.loopW hc ht (by kernel_rfl) (fun t => t.sl 0 = .sl m.length (m.map SW) ∧ ∃ i : Nat, i ≤ m.length ∧ t.sl 4 = .val (.int .i64 i) ∧ ∃ k : Int, t.sl 3 = .val (.int .i64 k) ∧ -9223372036854775808 ≤ k ∧ k ≤ 9223372036854775807 ∧ (lenM (m.take i) ≤ 9223372036854775807 → k = lenM (m.take i)))
    (fun t => match t.sl 4 with | .val (.int _ k) => m.length - k.toNat | _ => 0) ?_ ?_
  · simp -implicitDefEqProofs (disch := omega) only [go_sem, ht]
    exact ⟨0, Nat.zero_le _, rfl, 0, rfl, by omega, by omega, fun _ => rfl⟩
  · rintro t ⟨h0, i, hi, h4, k, h3, hk1, hk2, hk3⟩
    by_cases hil : i = m.length
    · subst hil
      rw [List.take_length] at hk3
      simp -implicitDefEqProofs (disch := omega) only [go_sem, ht, h0, h3, h4]
      (refine end_treeM 2 ?_; simp -implicitDefEqProofs (disch := omega) only [go_sem, ht, h3])
      exact ⟨k, rfl, hk1, hk2, hk3⟩
    · have hlt : i < m.length := by omega
      have hgi := get_SM' hlt
      have htk := lenM_take hlt
      have hlw := len_wholes_any (hm.2 _ (getD_mem (d := []) hlt))
      generalize hlen : lenW (m.getD i []) = sl at *
      generalize m.getD i [] = l0 at *
      have hwb := wrap_bd (k + 1)
      have hwe := fun h => wrap_exact (z := k + 1) h
      obtain ⟨z1, ez1⟩ : ∃ z : Int, IntKind.i64.wrap (k + 1) = z := ⟨_, rfl⟩
      rw [ez1] at hwb hwe
      have ear : arithV .i64 (k + 1) = some (.int .i64 z1) := by rw [← ez1]; rfl
      simp -implicitDefEqProofs (disch := omega) only [go_sem, ht, h0, h3, h4, hgi, ear]
      refine pCall_view (by simp -implicitDefEqProofs (disch := omega) only [go_sem, ht, h0, h3, h4, hgi] <;> rfl) (by simp -implicitDefEqProofs (disch := omega) only [go_sem, ht, h0, h3, h4, hgi]) (by apply Or.inl; simp -implicitDefEqProofs (disch := omega) only [go_sem, ht, h0, h3, h4, hgi]; done) hlw ?_
      rintro _ nx - ⟨k2, rfl, hq1, hq2, hq3⟩ hnx
      have hwb2 := wrap_bd (z1 + k2)
      have hwe2 := fun h => wrap_exact (z := z1 + k2) h
      obtain ⟨z2, ez2⟩ : ∃ z : Int, IntKind.i64.wrap (z1 + k2) = z := ⟨_, rfl⟩
      rw [ez2] at hwb2 hwe2
      have ear2 : arithV .i64 (z1 + k2) = some (.int .i64 z2) := by rw [← ez2]; rfl
      simp -implicitDefEqProofs (disch := omega) only [go_sem, ht, h0, h3, h4, hgi, ear2]
      exact ⟨⟨i + 1, by omega, rfl, z2, rfl, by omega, by omega, fun h => by
        have h1 := hk3 (by omega)
        have h2 := hq3 (by omega)
        have h3 := hwe (by omega)
        have h4 := hwe2 (by omega)
        omega⟩, by omega⟩
theorem FW.sum (hl : FW l) : lenW l ≤ l.length * 35184372087809 := by
  have h := hl.2
  clear hl
  induction l with
  | nil => simp [lenW]
  | cons p l ih =>
    have h1 := (h p (List.mem_cons_self ..)).2
    have h2 := ih fun q hq => h q (List.mem_cons_of_mem _ hq)
    simp only [lenW, List.length_cons]
    omega

theorem FM.small {cn : Int} (hm : FM m) (hw : wrongM m cn = false) : lenM m ≤ 9223372036854775807 := by
  obtain ⟨n, rfl, hn, hml, hlc⟩ := wrongM_false hw
  have h : ∀ m' : List (List (Bool × List Nat)), (∀ l ∈ m', FW l ∧ l.length = n) → lenM m' ≤ m'.length * (1 + 32 * 35184372087809) := by
    intro m'
    induction m' with
    | nil => intro _; simp [lenM]
    | cons l m' ih =>
      intro h
      have h1 := h l (List.mem_cons_self ..)
      have h2 := ih fun q hq => h q (List.mem_cons_of_mem _ hq)
      have h3 := h1.1.sum
      have h4 : l.length * 35184372087809 ≤ 32 * 35184372087809 := Nat.mul_le_mul_right _ (by omega)
      simp only [lenM, List.map_cons, List.sum_cons, List.length_cons] at h2 ⊢
      omega
  have h5 := h m fun l hl => ⟨hm.2 l hl, hlc l hl⟩
  have h6 : m.length * (1 + 32 * 35184372087809) ≤ 64 * (1 + 32 * 35184372087809) := Nat.mul_le_mul_right _ hml
  omega
theorem FM.lm (fm : FM m) : ∀ l ∈ m, ∀ p ∈ l, Lm p.2 := fun l hl p hp => ((fm.2 l hl).2 p hp).1
end
end Go.Proofs.Ytfjdfnlkobeehaa
end

section
set_option maxRecDepth 100000
set_option linter.unusedVariables false
set_option linter.unusedSimpArgs false
namespace Go.Proofs.Ytfjdfnlkobeehaa
open Go.ChangeShapes Go.WideShapes Go.ChangeAt Go.RowKit Go.Deep
section
variable {H : Type} {enc : TypeId × Value → H} {w : World} {P : Program}
theorem reachBytes_def : reachBytes = 140737488351232 := rfl
theorem weightsAll_mem {e : TypeId} {f : Nat → Bool} : ∀ {ds : List (DataW H)} {d : DataW H}, (DataW.weightsAll P e ds).all f = true → d ∈ ds → (d.weights P e).all f = true
  | [], d, _, hm => by simp at hm
  | x :: ds, d, h, hm => by
    simp only [DataW.weightsAll, List.all_append, Bool.and_eq_true] at h
    rcases List.mem_cons.1 hm with rfl | hm
    · exact h.1
    · exact weightsAll_mem h.2 hm
theorem rep_sl_len {E : En} {n len cap : Nat} {cs : List PV} {a : Option Addr} (h : Rep E (.sl n cs) (.slice a len cap)) : n = len := by
  simp only [Rep] at h
  rcases h with ⟨rfl, _, x, hx⟩ | ⟨b, o, c, hx, _⟩
  · simp only [Value.slice.injEq] at hx; exact hx.2.1.symm
  · simp only [Value.slice.injEq] at hx; exact hx.2.1.symm
theorem cell_limbsF {t e : TypeId} {fuel : Nat} {v : Value} {x : DataW H × List MemPlace} (ht : P.underlying t = some (.slice e)) (he : P.underlying e = some (.int .u32)) (hc : P.cellsOf e = 1) (hb : P.bytesOf e = 4)
    (hf : DataW.trod enc P w 0 (fun _ => true) true fuel t [v] = some x) (hsz : (x.1.weights P t).all (· ≤ reachBytes) = true) :
    ∃ xs : List Nat, Lm xs ∧ xs.length ≤ 35184372087808 ∧ Rep (E0 w) (SU xs) v := by
  obtain ⟨xs, h1, _, h3⟩ := cell_limbsS ht he hc hf
  refine ⟨xs, h1, ?_, h3⟩
  rw [SU_def] at h3
  rcases open_ints ht he hc hf with ⟨hcs, hx⟩ | ⟨a, len, cap, zs, hcs, _, hl, hm, hz, hx, hcell, hwz⟩
  · obtain rfl : v = .slice none 0 0 := by simpa using hcs
    have := rep_sl_len h3
    omega
  · obtain rfl : v = .slice (some a) len cap := by simpa using hcs
    have hn := rep_sl_len h3
    simp only [if_true] at hz
    rw [hx] at hsz
    simp only [DataW.weights, ht, List.all_cons, Bool.and_eq_true, decide_eq_true_eq, hb, reachBytes] at hsz
    have h1 := hsz.1
    simp [lits, hz] at h1
    omega
theorem cell_wholesF {t e u : TypeId} {f0 f1 : Field} {fuel : Nat} {v : Value} {x : DataW H × List MemPlace} (ht : P.underlying t = some (.slice e)) (he : P.underlying e = some (.struct #[f0, f1])) (ce : P.cellsOf e = 2)
    (o0 : f0.offset = 0) (o1 : f1.offset = 1) (n0 : P.cellsOf f0.type = 1) (n1 : P.cellsOf f1.type = 1) (hb : P.underlying f0.type = some .bool)
    (hs : P.underlying f1.type = some (.slice u)) (hu : P.underlying u = some (.int .u32)) (hc : P.cellsOf u = 1) (hbu : P.bytesOf u = 4) (hbe : P.bytesOf e = 32)
    (hf : DataW.trod enc P w 0 (fun _ => true) true fuel t [v] = some x) (hsz : (x.1.weights P t).all (· ≤ reachBytes) = true) :
    ∃ l : List (Bool × List Nat), FW l ∧ Rep (E0 w) (SW l) v := by
  rcases open_slice_pairs ht he ce o0 o1 n0 n1 hf with ⟨hcs, hx⟩ | ⟨a, len, cap, m, n, V0, V1, D0, D1, P0, P1, hcs, _, hl, _, hm, hx, hall⟩
  · obtain rfl : v = .slice none 0 0 := by simpa using hcs
    exact ⟨[], ⟨by simp, fun p hp => by simp at hp⟩, by simp [SW_def, SWc, Rep]⟩
  · obtain rfl : v = .slice (some a) len cap := by simpa using hcs
    simp only [if_true] at hm
    obtain rfl : cap = m := hm.symm
    rw [hx] at hsz
    simp only [DataW.weights, ht, List.all_cons, List.all_append, Bool.and_eq_true, hbe, List.length_map, List.length_range] at hsz
    obtain ⟨hz0, hz1, hz2⟩ := hsz
    have hz0 := of_decide_eq_true hz0
    rw [reachBytes_def] at hz0
    have hw1 : ∀ i, i < cap → ((D1 i).weights P f1.type).all (· ≤ reachBytes) = true := fun i hi => by
      have key : ((DataW.agg [D0 i, D1 i]).weights P e).all (· ≤ reachBytes) = true := by
        by_cases hil : i < len
        · exact weightsAll_mem hz1 (List.mem_map.2 ⟨i, List.mem_range.2 hil, rfl⟩)
        · exact weightsAll_mem hz2 (List.mem_map.2 ⟨i - len, List.mem_range.2 (by omega), by rw [show len + (i - len) = i by omega]⟩)
      simp only [DataW.weights, he, List.map_cons, List.map_nil, DataW.weightsEach, List.append_nil, List.all_append, Bool.and_eq_true] at key
      exact key.2
    have each : ∀ i, i < cap → ∃ p : Bool × List Nat, Rep (E0 w) (.val (.bool p.1)) (V0 i) ∧ Lm p.2 ∧ p.2.length ≤ 35184372087808 ∧ Rep (E0 w) (SU p.2) (V1 i) := fun i hi => by
      obtain ⟨_, _, h3, h4⟩ := hall i hi
      obtain ⟨neg, g1, _⟩ := DataW.trod_bool hb h3
      obtain ⟨xs, g2, g3, g4⟩ := cell_limbsF hs hu hc hbu h4 (hw1 i hi)
      simp only [List.cons.injEq, and_true] at g1
      exact ⟨(neg, xs), by simp [Rep, g1], g2, g3, g4⟩
    obtain ⟨q, hq⟩ := choose_lt each
    have hln : ((List.range len).map q).length = len := by simp
    refine ⟨(List.range len).map q, ⟨by rw [hln]; omega, fun p hp => ?_⟩, ?_⟩
    · obtain ⟨i, hi, rfl⟩ := List.mem_map.1 hp
      have := hq i (by have := List.mem_range.1 hi; omega)
      exact ⟨this.2.1, this.2.2.1⟩
    · rw [SW_def, hln]
      simp only [Rep]
      by_cases h0 : cap = 0
      · subst h0
        obtain rfl : len = 0 := by omega
        exact .inl ⟨rfl, rfl, some a, rfl⟩
      · have hsp : a.spot = none := by
          have := World.cell?_spot (hall 0 (by omega)).1
          simpa [Addr.add] using this
        refine .inr ⟨a.block, a.off, cap, ?_, hl, .inr ⟨not_A0 (w := w) _, row_pairs _ _ fun i hi => ?_⟩⟩
        · obtain ⟨b, o, s⟩ := a
          simp only at hsp; subst hsp; rfl
        · have hi' : i < cap := by rw [hln] at hi; omega
          obtain ⟨h1, h2, _⟩ := hall i hi'
          rw [add_eq hsp] at h1 h2
          obtain ⟨g1, _, _, g2⟩ := hq i hi'
          simp only [List.getElem_map, List.getElem_range]
          exact ⟨⟨_, h1, g1⟩, _, h2, g2⟩
theorem cell_rowsF {r t e u : TypeId} {f0 f1 : Field} {fuel : Nat} {v : Value} {x : DataW H × List MemPlace} (hr : P.underlying r = some (.slice t)) (cr : P.cellsOf t = 1) (ht : P.underlying t = some (.slice e)) (he : P.underlying e = some (.struct #[f0, f1])) (ce : P.cellsOf e = 2)
    (o0 : f0.offset = 0) (o1 : f1.offset = 1) (n0 : P.cellsOf f0.type = 1) (n1 : P.cellsOf f1.type = 1) (hb : P.underlying f0.type = some .bool)
    (hs : P.underlying f1.type = some (.slice u)) (hu : P.underlying u = some (.int .u32)) (hc : P.cellsOf u = 1) (hbu : P.bytesOf u = 4) (hbe : P.bytesOf e = 32) (hbt : P.bytesOf t = 24)
    (hf : DataW.trod enc P w 0 (fun _ => true) true fuel r [v] = some x) (hsz : (x.1.weights P r).all (· ≤ reachBytes) = true) :
    ∃ m : List (List (Bool × List Nat)), FM m ∧ Rep (E0 w) (SM m) v := by
  rcases open_slice1 hr cr hf with ⟨hcs, hx⟩ | ⟨a, len, cap, m, n, V, D, Pl, hcs, _, hl, _, hm, hx, hall⟩
  · obtain rfl : v = .slice none 0 0 := by simpa using hcs
    exact ⟨[], ⟨by simp, fun p hp => by simp at hp⟩, by simp [SM_def, Rep]⟩
  · obtain rfl : v = .slice (some a) len cap := by simpa using hcs
    simp only [if_true] at hm
    obtain rfl : cap = m := hm.symm
    rw [hx] at hsz
    simp only [DataW.weights, hr, List.all_cons, List.all_append, Bool.and_eq_true, hbt, List.length_map, List.length_range] at hsz
    obtain ⟨hz0, hz1, hz2⟩ := hsz
    have hz0 := of_decide_eq_true hz0
    rw [reachBytes_def] at hz0
    have hw1 : ∀ i, i < cap → ((D i).weights P t).all (· ≤ reachBytes) = true := fun i hi => by
      by_cases hil : i < len
      · exact weightsAll_mem hz1 (List.mem_map.2 ⟨i, List.mem_range.2 hil, rfl⟩)
      · exact weightsAll_mem hz2 (List.mem_map.2 ⟨i - len, List.mem_range.2 (by omega), by rw [show len + (i - len) = i by omega]⟩)
    have each : ∀ i, i < cap → ∃ l : List (Bool × List Nat), FW l ∧ Rep (E0 w) (SW l) (V i) := fun i hi => by
      obtain ⟨_, h4⟩ := hall i hi
      exact cell_wholesF ht he ce o0 o1 n0 n1 hb hs hu hc hbu hbe h4 (hw1 i hi)
    obtain ⟨q, hq⟩ := choose_lt each
    have hln : ((List.range len).map q).length = len := by simp
    refine ⟨(List.range len).map q, ⟨by rw [hln]; omega, fun p hp => ?_⟩, ?_⟩
    · obtain ⟨i, hi, rfl⟩ := List.mem_map.1 hp
      exact (hq i (by have := List.mem_range.1 hi; omega)).1
    · rw [SM_def, hln]
      simp only [Rep]
      by_cases h0 : cap = 0
      · subst h0
        obtain rfl : len = 0 := by omega
        exact .inl ⟨rfl, rfl, some a, rfl⟩
      · have hsp : a.spot = none := by
          have := World.cell?_spot (hall 0 (by omega)).1
          simpa [Addr.add] using this
        refine .inr ⟨a.block, a.off, cap, ?_, hl, .inr ⟨not_A0 (w := w) _, row_ones _ _ fun i hi => ?_⟩⟩
        · obtain ⟨b, o, s⟩ := a
          simp only at hsp; subst hsp; rfl
        · have hi' : i < cap := by rw [List.length_map, hln] at hi; omega
          obtain ⟨h1, _⟩ := hall i hi'
          rw [add_eq hsp] at h1
          simp only [List.getElem_map, List.getElem_range]
          exact ⟨_, h1, (hq i hi').2⟩
end
end Go.Proofs.Ytfjdfnlkobeehaa
end
