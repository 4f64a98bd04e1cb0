/- The statement MatrixDual holds of the given program in its second form: for all rows, columns and rows of numbers, where what they hold is bounded, the law answers true. Its conditions are those of the given statement, and no others. -/
import Derived.Test.YtfjdfnlkobeehaaKern
set_option maxRecDepth 100000
set_option linter.unusedVariables false
set_option linter.unusedSimpArgs false
namespace Go.Proofs.Ytfjdfnlkobeehaa

section
variable {T : List (List Int)} {Pv : List Nat} {cols : Nat}
theorem lcP_z {j : Nat} (hz : ∀ i c, Z j (vc (T.getD i []) c)) : ∀ n, Z (1 + n * j) (lcP T Pv n)
  | 0 => (Z2 (x := 1) (by decide)).mono (Nat.le_add_right _ _)
  | n + 1 => by
    have h := (lcP_z hz n).mul ((hz n (Pv.getD n 0)).div (y := ((Int.gcd (lcP T Pv n) (vc (T.getD n []) (Pv.getD n 0)) : Nat) : Int)))
    rw [show 1 + (n + 1) * j = 1 + n * j + j by rw [Nat.succ_mul]; omega]
    exact h
/-- Rows in echelon form with short numbers: their kernel's numbers are short. -/
theorem RE.kz (h : RE T Pv cols) (hcols : cols ≤ 32) (hz : ∀ z ∈ T, ∀ x ∈ z, Z 32 x) : KZ (T.map CZ) cols 1057 := by
  obtain ⟨hM, hc, hl⟩ := h.mx hcols hz
  obtain ⟨e1, e2⟩ := h.own hM
  have hz' : ∀ i c, Z 32 (vc (T.getD i []) c) := fun i c => by
    by_cases hi : i < T.length
    · exact vc_z (hz _ (getD_mem hi)) c
    · rw [show T.getD i [] = [] by simp [List.getD_eq_getElem?_getD, List.getElem?_eq_none (show T.length ≤ i by omega)]]
      exact Z.zero 32
  have hlen := h.len
  have hL : ∀ n, n ≤ Pv.length → Z 1025 (lcP T Pv n) := fun n hn => (lcP_z hz' n).mono (by omega)
  refine ⟨fun n hn => ?_, fun f i hi => ?_⟩
  · rw [map_vals_CZ, e1, e2] at *
    exact (hL n hn).mono (by omega)
  · rw [map_vals_CZ, e1, e2] at *
    exact (hL _ (Nat.le_refl _)).div.mul (hz' i f)
end
/-- The kernel's kernel. -/
theorem ker_ker {m : List (List (Bool × List Nat))} {cols B κ : Nat} (h : Mx m B) (hc : ∀ l ∈ m, l.length = cols) (hcols : cols ≤ 32) (hk : KZ m cols κ) (hκ : κ ≤ 1800) (hz : ∀ z ∈ kerT (m.map vals) cols, ∀ x ∈ z, Z 32 x) : kerT (kerT (m.map vals) cols) cols = echT (m.map vals) cols := by
  obtain ⟨hRE, _, _⟩ := echT_RE h hc
  obtain ⟨Q, hQ, hQn, _, _⟩ := kerT_RE h hc hcols hk hκ
  obtain ⟨hKM, hKc, hKl⟩ := hQ.mx hcols hz
  obtain ⟨e1, e2⟩ := hQ.own hKM
  have hkz := hQ.kz hcols hz
  obtain ⟨Q2, h2, h2n, _, _⟩ := kerT_RE hKM hKc hcols hkz (by omega)
  have hdot := fun {u} (hu : Sp (rowsOf (echT (((kerT (m.map vals) cols).map CZ).map vals) cols)) u) => ker_dot hKM hKc hcols hkz (by omega) hu
  rw [map_vals_CZ] at h2 h2n hdot
  rw [e1] at hdot
  rw [e2] at h2n
  have hsub : ∀ r, rowsOf (kerT (kerT (m.map vals) cols) cols) r → Sp (rowsOf (echT (m.map vals) cols)) r := fun r hr => by
    obtain ⟨z, hz2, rfl⟩ := rows_mem'.1 hr
    refine ker_spn h hc hcols hk hκ ?_ fun y hy => ?_
    · obtain ⟨i, hi, rfl⟩ := mem_getD (d := []) hz2
      exact h2.row i hi
    · rw [dotI_comm]
      exact hdot (.mem (rows_mem'.2 ⟨y, hy, rfl⟩)) z hz2
  refine (h2.uniq hRE hsub fun r hr => ?_).1
  obtain ⟨z, hz2, rfl⟩ := rows_mem'.1 hr
  refine h2.sp_all hRE hsub (by omega) ?_ (.mem hr)
  obtain ⟨i, hi, rfl⟩ := mem_getD (d := []) hz2
  exact hRE.row i hi
/-- Inside: the rank stays. -/
theorem ins_rank {m : List (List (Bool × List Nat))} {v : List (Bool × List Nat)} {cols B B' : Nat} (h : Mx m B) (hc : ∀ l ∈ m, l.length = cols) (h' : Mx (m ++ [v]) B') (hv : v.length = cols) :
    insB (echT (m.map vals) cols) (echW (m.map vals) cols).2 (vals v) = decide ((echW ((m ++ [v]).map vals) cols).2.length = (echW (m.map vals) cols).2.length) := by
  have hc' : ∀ l ∈ m ++ [v], l.length = cols := fun l hl => by
    rcases List.mem_append.1 hl with hl | hl
    · exact hc l hl
    · rw [List.mem_singleton.1 hl]; exact hv
  obtain ⟨a1, a2, a3⟩ := echT_RE h hc
  obtain ⟨b1, b2, b3⟩ := echT_RE h' hc'
  have hvl : (vals v).length = cols := by rw [vals_len]; exact hv
  have hi := insB_sp a1 hvl
  have hmv : rowsOf ((m ++ [v]).map vals) (vc (vals v)) := rows_mem'.2 ⟨vals v, List.mem_map_of_mem (List.mem_append_right _ (List.mem_singleton.2 rfl)), rfl⟩
  have hsub : ∀ r, rowsOf (m.map vals) r → rowsOf ((m ++ [v]).map vals) r := fun r hr => by
    obtain ⟨z, hz, rfl⟩ := rows_mem'.1 hr
    obtain ⟨l, hl, rfl⟩ := List.mem_map.1 hz
    exact rows_mem'.2 ⟨_, List.mem_map_of_mem (List.mem_append_left _ hl), rfl⟩
  rw [Bool.eq_iff_iff, decide_eq_true_iff, hi]
  constructor
  · intro hs
    have := ech_same h' h hc' hc (fun r hr => by
      obtain ⟨z, hz, rfl⟩ := rows_mem'.1 hr
      obtain ⟨l, hl, rfl⟩ := List.mem_map.1 hz
      rcases List.mem_append.1 hl with hl | hl
      · exact .mem (rows_mem'.2 ⟨_, List.mem_map_of_mem hl, rfl⟩)
      · rw [List.mem_singleton.1 hl]; exact Sp.trans a2 hs) (fun r hr => .mem (hsub r hr))
    rw [this.2]
  · intro hl
    exact a1.sp_all b1 (fun r hr => Sp.trans b3 (Sp.trans (fun r hr => .mem (hsub r hr)) (a2 r hr))) (by omega) hvl (b3 _ hmv)
end Go.Proofs.Ytfjdfnlkobeehaa
