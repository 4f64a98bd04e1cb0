/- Part 37 of the way to the statement: the walk and what it needs. -/
import Derived.Test.YtfjdfnlkobeehaaKTuF3
import Derived.Test.YtfjdfnlkobeehaaKTuF36
section
set_option linter.unusedVariables false
set_option linter.unusedSimpArgs false
namespace Go.Proofs.Ytfjdfnlkobeehaa


inductive Sp (I : Vc → Prop) : Vc → Prop
  | zero {w : Vc} : (∀ j, w j = 0) → Sp I w
  | mem {r : Vc} : I r → Sp I r
  | comb {u v w : Vc} {a b g : Int} : Sp I u → Sp I v → g ≠ 0 → (∀ j, g * w j = a * u j + b * v j) → Sp I w
theorem Sp.trans {I J : Vc → Prop} (h : ∀ r, I r → Sp J r) {u : Vc} (hu : Sp I u) : Sp J u := by
  induction hu with
  | zero h => exact .zero h
  | mem hm => exact h _ hm
  | comb _ _ hg hw ih1 ih2 => exact .comb ih1 ih2 hg hw
theorem Sp.scale {I : Vc → Prop} {u w : Vc} {a g : Int} (hu : Sp I u) (hg : g ≠ 0) (hw : ∀ j, g * w j = a * u j) : Sp I w :=
  .comb (a := a) (b := 0) hu hu hg fun j => by rw [hw j]; omega
def rowsOf (T : List (List Int)) (r : Vc) : Prop := ∃ i, i < T.length ∧ r = vc (T.getD i [])
end Go.Proofs.Ytfjdfnlkobeehaa
end

section
set_option linter.unusedVariables false
set_option linter.unusedSimpArgs false
namespace Go.Proofs.Ytfjdfnlkobeehaa


theorem step_cases {s : List (List Int) × List Nat} {n c : Nat} (hn : s.1.length = n) :
    (stepE c s = s ∧ ∀ i, s.2.length ≤ i → i < n → vc (s.1.getD i []) c = 0) ∨
    ∃ i, s.2.length ≤ i ∧ i < n ∧ vc (s.1.getD i []) c ≠ 0 ∧ (stepE c s).2 = s.2 ++ [c] ∧ (stepE c s).1.length = n ∧
      ∀ k, k < n → (stepE c s).1.getD k [] = if k = s.2.length then s.1.getD i [] else clearZ (s.1.getD (swp i s.2.length k) []) (s.1.getD i []) c := by
  unfold stepE
  by_cases hf : findP s.1 c s.2.length < s.1.length
  · right
    obtain ⟨hge, hne⟩ := findP_spec hf
    refine ⟨findP s.1 c s.2.length, hge, by omega, hne, by rw [if_pos hf], by rw [if_pos hf]; simp only [clearAll_len, swapL_len]; exact hn, fun k hk => ?_⟩
    rw [if_pos hf]
    have htn : s.2.length < n := by omega
    simp only
    rw [clearAll_get (by rw [swapL_len]; omega), swapL_get (by omega) hf (by omega), swapL_get (by omega) hf (by omega), swp_t]
    by_cases hkt : k = s.2.length
    · rw [if_pos hkt, if_pos hkt, hkt, swp_t]
    · rw [if_neg hkt, if_neg hkt]
  · left
    refine ⟨by rw [if_neg hf], fun i hi hin => ?_⟩
    have := findP_le (W := s.1) (c := c) (r := s.2.length)
    exact findP_none (by omega) i hi (by omega)
theorem swp_swp {i t k : Nat} : swp i t (swp i t k) = k := by
  unfold swp
  by_cases h1 : k = i
  · subst h1
    rw [if_pos rfl]
    by_cases h2 : t = k
    · rw [if_pos h2]; exact h2
    · rw [if_neg h2, if_pos rfl]
  · rw [if_neg h1]
    by_cases h2 : k = t
    · subst h2; rw [if_pos rfl, if_pos rfl]
    · rw [if_neg h2, if_neg h1, if_neg h2]

structure EW (rows : List (List Int)) (n cols c : Nat) (s : List (List Int) × List Nat) : Prop where
  len : s.1.length = n
  row : ∀ k, k < n → (s.1.getD k []).length = cols
  tle : s.2.length ≤ n
  sub : ∀ k, k < n → Sp (rowsOf rows) (vc (s.1.getD k []))
  sup : ∀ k, k < n → Sp (rowsOf s.1) (vc (rows.getD k []))
  low : ∀ k, s.2.length ≤ k → k < n → ∀ j, j < c → vc (s.1.getD k []) j = 0
  lead : ∀ k (hk : k < s.2.length), s.2[k] < c ∧ ∀ j, j < s.2[k] → vc (s.1.getD k []) j = 0
theorem EW.start {rows : List (List Int)} {cols : Nat} (hc : ∀ z ∈ rows, z.length = cols) : EW rows rows.length cols 0 (rows.map primZ, []) := by
  have hg : ∀ k, k < rows.length → (rows.map primZ).getD k [] = primZ (rows.getD k []) := fun k hk => by simp [List.getD_eq_getElem?_getD, hk]
  refine ⟨by simp, fun k hk => ?_, by simp, fun k hk => ?_, fun k hk => ?_, fun k _ _ j hj => by omega, fun k hk => by simp at hk⟩
  · simp only [hg k hk]
    rw [primZ_len]; exact hc _ (getD_mem hk)
  · simp only [hg k hk]
    by_cases h0 : gcdL (rows.getD k []) = 0
    · refine .zero fun j => ?_
      by_cases hj : j < (primZ (rows.getD k [])).length
      · have hj' := hj
        rw [primZ_len] at hj'
        rw [vc_lt hj]
        simp only [primZ, List.getElem_map]
        rw [gcdL_zero.1 h0 _ (List.getElem_mem hj')]; simp
      · rw [vc_ge (by omega)]
    · exact (Sp.mem ⟨k, hk, rfl⟩).scale (g := (gcdL (rows.getD k []) : Nat)) (a := 1) (by omega) fun j => by rw [primZ_vc]; omega
  · have hm : rowsOf (rows.map primZ) (vc (primZ (rows.getD k []))) := ⟨k, by simpa using hk, by rw [hg k hk]⟩
    exact (Sp.mem hm).scale (g := 1) (a := (gcdL (rows.getD k []) : Nat)) (by decide) fun j => by rw [primZ_vc]; omega
theorem EW.step {rows : List (List Int)} {n cols c : Nat} {s : List (List Int) × List Nat} (h : EW rows n cols c s) : EW rows n cols (c + 1) (stepE c s) := by
  rcases step_cases (c := c) h.len with ⟨e, hz⟩ | ⟨i, hi, hin, hne, eP, hl, hg⟩
  · rw [e]
    refine ⟨h.len, h.row, h.tle, h.sub, h.sup, fun k hk hkn j hj => ?_, fun k hk => ?_⟩
    · by_cases hjc : j = c
      · subst hjc; exact hz k hk hkn
      · exact h.low k hk hkn j (by omega)
    · have := h.lead k hk
      exact ⟨by omega, this.2⟩
  · have htn : s.2.length < n := by omega
    have hPl : (stepE c s).2.length = s.2.length + 1 := by rw [eP]; simp
    have hcl : ∀ k, k < n → k ≠ s.2.length → ∃ a b g : Int, a ≠ 0 ∧ g ≠ 0 ∧ (∀ j, g * vc ((stepE c s).1.getD k []) j = a * vc (s.1.getD (swp i s.2.length k) []) j - b * vc (s.1.getD i []) j) ∧ vc ((stepE c s).1.getD k []) c = 0 := fun k hk hkt => by
      rw [hg k hk, if_neg hkt]
      exact clearZ_line (by rw [h.row _ (swp_bd hin htn hk), h.row i hin]) hne
    have hgt : (stepE c s).1.getD s.2.length [] = s.1.getD i [] := by rw [hg _ htn, if_pos rfl]
    refine ⟨hl, fun k hk => ?_, by omega, fun k hk => ?_, fun k hk => ?_, fun k hk hkn j hj => ?_, fun k hk => ?_⟩
    · rw [hg k hk]
      split
      · exact h.row i hin
      · rw [clearZ_len (by rw [h.row _ (swp_bd hin htn hk), h.row i hin])]; exact h.row _ (swp_bd hin htn hk)
    · by_cases hkt : k = s.2.length
      · subst hkt; rw [hgt]; exact h.sub i hin
      · obtain ⟨a, b, g, _, hg0, hv, _⟩ := hcl k hk hkt
        exact .comb (a := a) (b := -b) (h.sub _ (swp_bd hin htn hk)) (h.sub i hin) hg0 fun j => by rw [hv j, Int.neg_mul]; omega
    · refine Sp.trans ?_ (h.sup k hk)
      rintro r ⟨p, hp, rfl⟩
      rw [h.len] at hp
      have hmt : rowsOf (stepE c s).1 (vc (s.1.getD i [])) := ⟨s.2.length, by omega, by rw [hgt]⟩
      by_cases hpt : swp i s.2.length p = s.2.length
      · have : p = i := by
          have := congrArg (swp i s.2.length) hpt
          rwa [swp_swp, swp_t] at this
        rw [this]; exact .mem hmt
      · obtain ⟨a, b, g, ha, _, hv, _⟩ := hcl _ (swp_bd hin htn hp) hpt
        simp only [swp_swp] at hv
        exact .comb (a := g) (b := b) (.mem ⟨_, by rw [hl]; exact swp_bd hin htn hp, rfl⟩) (.mem hmt) ha fun j => by have := hv j; omega
    · rw [hPl] at hk
      obtain ⟨a, b, g, _, hg0, hv, hvc⟩ := hcl k hkn (by omega)
      by_cases hjc : j = c
      · subst hjc; exact hvc
      · have h1 := hv j
        rw [h.low _ (swp_ge hi (by omega)) (swp_bd hin htn hkn) j (by omega), h.low i hi hin j (by omega), Int.mul_zero, Int.mul_zero] at h1
        exact (Int.mul_eq_zero.1 h1).resolve_left hg0
    · have hk' := hk
      rw [hPl] at hk'
      by_cases hkt : k < s.2.length
      · obtain ⟨a, b, g, _, hg0, hv, _⟩ := hcl k (by omega) (by omega)
        obtain ⟨h1, h2⟩ := h.lead k hkt
        have e : (stepE c s).2[k] = s.2[k] := by simp only [eP]; exact List.getElem_append_left hkt
        rw [e]
        refine ⟨by omega, fun j hj => ?_⟩
        have h3 := hv j
        rw [swp_lt hi hkt, h2 j hj, h.low i hi hin j (by omega), Int.mul_zero, Int.mul_zero] at h3
        exact (Int.mul_eq_zero.1 h3).resolve_left hg0
      · have hkeq : k = s.2.length := by omega
        have e : (stepE c s).2[k] = c := by simp only [eP]; rw [List.getElem_append_right (by omega)]; simp
        rw [e]
        refine ⟨by omega, fun j hj => ?_⟩
        rw [hkeq, hgt]
        exact h.low i hi hin j hj
theorem EW.all {rows : List (List Int)} {cols : Nat} (hc : ∀ z ∈ rows, z.length = cols) : ∀ c, EW rows rows.length cols c (echW rows c)
  | 0 => .start hc
  | c + 1 => (EW.all hc c).step
end Go.Proofs.Ytfjdfnlkobeehaa
end

section
set_option maxRecDepth 100000
set_option linter.unusedVariables false
set_option linter.unusedSimpArgs false
namespace Go.Proofs.Ytfjdfnlkobeehaa

theorem vc_z {z : List Int} {k : Nat} (h : ∀ x ∈ z, Z k x) (j : Nat) : Z k (vc z j) := by
  by_cases hj : j < z.length
  · rw [vc_lt hj]; exact h _ (List.getElem_mem hj)
  · rw [vc_ge (by omega)]; exact Z.zero k
def insW (T : List (List Int)) (Pv : List Nat) (v : List Int) : Nat → List Int
  | 0 => v
  | k + 1 => clearZ (insW T Pv v k) (T.getD k []) (Pv.getD k 0)
def insB (T : List (List Int)) (Pv : List Nat) (v : List Int) : Bool := zeroB (insW T Pv v Pv.length)
section
variable {e : List (List (Bool × List Nat))} {Pv : List Nat} {v : List (Bool × List Nat)} {cols j k : Nat}
theorem getD_vals {i : Nat} (h : i < e.length) : (e.map vals).getD i [] = vals (e.getD i []) := by simp [h]
end
end Go.Proofs.Ytfjdfnlkobeehaa

namespace Go.Proofs.Ytfjdfnlkobeehaa


theorem spl_set {z : List Int} {p : Nat} (h : p < z.length) (x : Int) : spl (SWc (CZ z)) (p * 2) [.val (.bool (decide (x < 0))), .sl (D x.natAbs).length ((D x.natAbs).map U)] = SWc (CZ (z.set p x)) := by
  have e1 : CZ z = CZ (z.take p) ++ CZ (z.drop p) := by rw [← CZ_app, List.take_append_drop]
  have e2 : z.set p x = z.take p ++ x :: z.drop (p + 1) := by rw [List.set_eq_take_append_cons_drop, if_pos h]
  have e3 : z.drop p = z[p] :: z.drop (p + 1) := List.drop_eq_getElem_cons h
  rw [e2, e1, SWc_app, spl_W (by rw [SWc_len, CZ_len, List.length_take]; omega), CZ_app, SWc_app, e3, List.append_assoc]
  rfl

end Go.Proofs.Ytfjdfnlkobeehaa

namespace Go.Proofs.Ytfjdfnlkobeehaa


end Go.Proofs.Ytfjdfnlkobeehaa

namespace Go.Proofs.Ytfjdfnlkobeehaa

theorem sub_len : ∀ {l m : List Nat}, l.Nodup → (∀ x ∈ l, x ∈ m) → l.length ≤ m.length
  | [], _, _, _ => Nat.zero_le _
  | x :: l, m, hn, hs => by
    rw [List.nodup_cons] at hn
    have hx := hs x (List.mem_cons_self ..)
    have h1 := sub_len (l := l) (m := m.erase x) hn.2 fun y hy => (List.mem_erase_of_ne (by rintro rfl; exact hn.1 hy)).2 (hs y (List.mem_cons_of_mem _ hy))
    rw [List.length_erase_of_mem hx] at h1
    have := List.length_pos_of_mem hx
    simp only [List.length_cons]
    omega
theorem sub_eq {l m : List Nat} (hn : l.Nodup) (hs : ∀ x ∈ l, x ∈ m) (hl : l.length = m.length) : ∀ y ∈ m, y ∈ l := by
  intro y hy
  apply Classical.byContradiction
  intro hno
  have h1 := sub_len (l := l) (m := m.erase y) hn fun x hx => (List.mem_erase_of_ne (by rintro rfl; exact hno hx)).2 (hs x hx)
  rw [List.length_erase_of_mem hy] at h1
  have := List.length_pos_of_mem hy
  omega
end Go.Proofs.Ytfjdfnlkobeehaa

namespace Go.Proofs.Ytfjdfnlkobeehaa

structure EP (rows : List (List Int)) (n cols : Nat) (s : List (List Int) × List Nat) : Prop where
  len : s.1.length = n
  row : ∀ k, k < n → (s.1.getD k []).length = cols
  st : ∃ (O : Nat → Vc) (σ : Nat → Nat), EI (fun k => vc (s.1.getD k [])) O n s.2 ∧ (∀ k, k < n → σ k < n ∧ O k = vc (rows.getD (σ k) [])) ∧ ∀ a b, a < n → b < n → σ a = σ b → a = b
theorem EP.start {rows : List (List Int)} {cols : Nat} (hc : ∀ z ∈ rows, z.length = cols) : EP rows rows.length cols (rows.map primZ, []) := by
  have h0 := EZ.start (β := 2) (B := sz (fun k => ((rows.map fun z => (z.map Int.natAbs).sum).sum)) rows.length) (rows := rows) (κ := fun k => ((rows.map fun z => (z.map Int.natAbs).sum).sum)) hc (fun k hk x hx => by
    have h1 : ∀ (l : List Nat) (a : Nat), a ∈ l → a ≤ l.sum := fun l a ha => by
      induction l with
      | nil => simp at ha
      | cons b l ih =>
        rw [List.sum_cons]
        rcases List.mem_cons.1 ha with rfl | ha
        · omega
        · have := ih ha; omega
    have h2 := h1 _ _ (List.mem_map_of_mem (f := Int.natAbs) hx)
    have h3 := h1 _ _ (List.mem_map_of_mem (f := fun z => (z.map Int.natAbs).sum) (getD_mem (d := []) hk))
    have h4 := Nat.lt_two_pow_self (n := (rows.map fun z => (z.map Int.natAbs).sum).sum)
    omega) (Nat.le_refl _)
  have hg : ∀ k, k < rows.length → (rows.map primZ).getD k [] = primZ (rows.getD k []) := fun k hk => by simp [List.getD_eq_getElem?_getD, hk]
  refine ⟨h0.len, fun k hk => (h0.row k hk).1, fun k => vc (rows.getD k []), fun k => k, EI.start fun k hk => ?_, fun k hk => ⟨hk, rfl⟩, fun a b _ _ h => h⟩
  simp only [hg k hk]
  by_cases h0 : gcdL (rows.getD k []) = 0
  · refine ⟨1, by decide, fun j => ?_⟩
    have h2 := gcdL_zero.1 h0
    have h1 := primZ_vc (rows.getD k []) j
    rw [h0] at h1
    rw [← h1]
    by_cases hj : j < (primZ (rows.getD k [])).length
    · have hj' := hj
      rw [primZ_len] at hj'
      rw [vc_lt hj]
      simp only [primZ, List.getElem_map]
      rw [h2 _ (List.getElem_mem hj')]; simp
    · rw [vc_ge (by omega)]; simp
  · exact ⟨(gcdL (rows.getD k []) : Nat), by omega, fun j => primZ_vc _ j⟩
theorem EP.step {rows : List (List Int)} {n cols c : Nat} {s : List (List Int) × List Nat} (h : EP rows n cols s) : EP rows n cols (stepE c s) := by
  obtain ⟨O, σ, hE, hO, hinj⟩ := h.st
  rcases step_cases (c := c) h.len with ⟨e, hz⟩ | ⟨i, hi, hin, hne, eP, hl, hg⟩
  · rw [e]; exact h
  · have htn : s.2.length < n := by omega
    have hS := hE.swap hi hin
    refine ⟨hl, fun k hk => ?_, fun k => O (swp i s.2.length k), fun k => σ (swp i s.2.length k), ?_, fun k hk => hO _ (swp_bd hin htn hk), fun a b ha hb hab => ?_⟩
    · rw [hg k hk]
      split
      · exact h.row i hin
      · rw [clearZ_len (by rw [h.row _ (swp_bd hin htn hk), h.row i hin])]; exact h.row _ (swp_bd hin htn hk)
    · rw [eP]
      refine EI.clear hS htn (c := c) ?_ ?_ ?_
      · simp only [swp_t]; exact hne
      · simp only [hg _ htn, if_pos, swp_t]
      · intro k hk hkt
        simp only [hg k hk, if_neg hkt, swp_t]
        exact clearZ_line (by rw [h.row _ (swp_bd hin htn hk), h.row i hin]) hne
    · have := hinj _ _ (swp_bd hin htn ha) (swp_bd hin htn hb) hab
      have := congrArg (swp i s.2.length) this
      rwa [swp_swp, swp_swp] at this
theorem EP.all {rows : List (List Int)} {cols : Nat} (hc : ∀ z ∈ rows, z.length = cols) : ∀ c, EP rows rows.length cols (echW rows c)
  | 0 => .start hc
  | c + 1 => (EP.all hc c).step

end Go.Proofs.Ytfjdfnlkobeehaa

namespace Go.Proofs.Ytfjdfnlkobeehaa

end Go.Proofs.Ytfjdfnlkobeehaa

namespace Go.Proofs.Ytfjdfnlkobeehaa


end Go.Proofs.Ytfjdfnlkobeehaa

namespace Go.Proofs.Ytfjdfnlkobeehaa

theorem fits_calls {m : List (List (Bool × List Nat))} {cn : Int} (hm : m.length ≤ 8796093022208) : PT Try.prog 13 [SM m, .val (.int .i64 cn)] (isV (.val (.bool (!wrongM m cn)))) := by
  by_cases h1 : cn < 0
  · rw [show wrongM m cn = true from decide_eq_true (.inl h1)]
    refine PCalls.enter (n := 30) (rs := [.tmp 4]) (tb := []) Try.func13 rfl rfl rfl (by kernel_rfl) (by kernel_rfl) (by simp) fun c hc ht => ?_
    simp -implicitDefEqProofs (disch := omega) only [go_sem, ht]
    (refine end_treeW 0 ?_; simp -implicitDefEqProofs (disch := omega) only [go_sem, ht, Bool.not_true])
  by_cases h2 : 32 < cn
  · rw [show wrongM m cn = true from decide_eq_true (.inr (.inl h2))]
    refine PCalls.enter (n := 30) (rs := [.tmp 4]) (tb := []) Try.func13 rfl rfl rfl (by kernel_rfl) (by kernel_rfl) (by simp) fun c hc ht => ?_
    simp -implicitDefEqProofs (disch := omega) only [go_sem, ht]
    (refine end_treeW 0 ?_; simp -implicitDefEqProofs (disch := omega) only [go_sem, ht, Bool.not_true])
  by_cases h3 : 64 < m.length
  · rw [show wrongM m cn = true from decide_eq_true (.inr (.inr (.inl h3)))]
    refine PCalls.enter (n := 30) (rs := [.tmp 4]) (tb := []) Try.func13 rfl rfl rfl (by kernel_rfl) (by kernel_rfl) (by simp) fun c hc ht => ?_
    simp -implicitDefEqProofs (disch := omega) only [go_sem, ht]
    (refine end_treeW 0 ?_; simp -implicitDefEqProofs (disch := omega) only [go_sem, ht, Bool.not_true])
  refine PCalls.enter (n := 30) (rs := [.tmp 4]) (tb := []) Try.func13 rfl rfl rfl (by kernel_rfl) (by kernel_rfl) (by simp) fun c hc ht => ?_
  simp -implicitDefEqProofs (disch := omega) only [go_sem, ht]
  refine LW.loopW hc ht (by kernel_rfl) (fun t => t.sl 0 = .sl m.length (m.map SW) ∧ t.sl 1 = .val (.int .i64 cn) ∧ ∃ i : Nat, i ≤ m.length ∧ t.sl 5 = .val (.int .i64 i) ∧ ∀ l ∈ m.take i, (l.length : Int) = cn)
    (fun t => match t.sl 5 with | .val (.int _ k) => m.length - k.toNat | _ => 0) ?_ ?_
  · simp -implicitDefEqProofs (disch := omega) only [go_sem, ht]
    exact ⟨0, Nat.zero_le _, rfl, by simp⟩
  · rintro t ⟨h0, h1', i, hi, h5, hall⟩
    by_cases hil : i = m.length
    · subst hil
      rw [List.take_length] at hall
      rw [show wrongM m cn = false from decide_eq_false (by
        rintro (h | h | h | ⟨l, hl, hne⟩)
        · exact h1 h
        · exact h2 h
        · exact h3 h
        · exact hne (hall l hl))]
      simp -implicitDefEqProofs (disch := omega) only [go_sem, ht, h0, h1', h5]
      (refine end_treeW 0 ?_; simp -implicitDefEqProofs (disch := omega) only [go_sem, ht, Bool.not_false])
    · have hlt : i < m.length := by omega
      have hgi := get_SM' hlt
      have hmem := getD_mem (d := []) hlt
      have hst := getD_take (d := []) hlt
      by_cases he : ((m.getD i []).length : Int) = cn
      · generalize m.getD i [] = l0 at *
        simp -implicitDefEqProofs (disch := omega) only [go_sem, ht, h0, h1', h5, hgi, he]
        refine ⟨⟨i + 1, by omega, rfl, fun l hl => ?_⟩, by omega⟩
        rw [hst] at hl
        rcases List.mem_append.1 hl with hl | hl
        · exact hall l hl
        · have : l = l0 := by simpa using hl
          rw [this]; exact he
      · rw [show wrongM m cn = true from decide_eq_true (.inr (.inr (.inr ⟨_, hmem, he⟩)))]
        generalize m.getD i [] = l0 at *
        simp -implicitDefEqProofs (disch := omega) only [go_sem, ht, h0, h1', h5, hgi, he]
        (refine end_treeW 0 ?_; simp -implicitDefEqProofs (disch := omega) only [go_sem, ht, Bool.not_true])

end Go.Proofs.Ytfjdfnlkobeehaa

namespace Go.Proofs.Ytfjdfnlkobeehaa

end Go.Proofs.Ytfjdfnlkobeehaa
end

section
set_option linter.unusedVariables false
set_option linter.unusedSimpArgs false
namespace Go.Proofs.Ytfjdfnlkobeehaa


def rw0 (W : List (List Int)) : Nat → Vc := fun i => vc (W.getD i [])

def detZ (W : List (List Int)) (n : Nat) : Int := dt (List.range n) ((List.range n).map (rw0 W))
theorem dt_set {cs : List Nat} {l : List Vc} {c p : Nat} (hcp : c < p) (hp : p < l.length) : dt cs ((l.set c (l[p])).set p (l[c]'(by omega))) = -dt cs l := by
  obtain ⟨pre, r, e1, e2⟩ : ∃ pre r, l = pre ++ r ∧ pre.length = c := ⟨l.take c, l.drop c, (List.take_append_drop c l).symm, by simp; omega⟩
  cases r with
  | nil => rw [e1, List.append_nil] at hp; omega
  | cons x r =>
    obtain ⟨mid, s, e3, e4⟩ : ∃ mid s, r = mid ++ s ∧ mid.length = p - c - 1 := ⟨r.take (p - c - 1), r.drop (p - c - 1), (List.take_append_drop _ r).symm, by
      rw [e1] at hp; simp at hp; simp; omega⟩
    cases s with
    | nil => rw [e1, e3, List.append_nil] at hp; simp at hp; omega
    | cons y post =>
      subst e3
      subst e1
      have h1 : (pre ++ x :: (mid ++ y :: post))[c]'(by simp; omega) = x := by
        rw [List.getElem_append_right (by omega)]; simp [e2]
      have h2 : (pre ++ x :: (mid ++ y :: post))[p] = y := by
        rw [List.getElem_append_right (by omega)]
        simp only [e2]
        obtain ⟨d, hd⟩ : ∃ d, p - c = d + 1 := ⟨p - c - 1, by omega⟩
        have e5 : mid.length = d := by omega
        simp only [hd, List.getElem_cons_succ]
        rw [List.getElem_append_right (by omega)]
        simp [e5]
      rw [h1, h2, List.set_append_right _ _ (by omega), e2, Nat.sub_self, List.set_cons_zero, List.set_append_right _ _ (by omega), e2]
      obtain ⟨d, hd⟩ : ∃ d, p - c = d + 1 := ⟨p - c - 1, by omega⟩
      have e5 : mid.length = d := by omega
      rw [hd, List.set_cons_succ, List.set_append_right _ _ (by omega), e5, Nat.sub_self, List.set_cons_zero]
      have := dt_exch cs pre mid post y x
      rw [this]
theorem dt_swp {cs : List Nat} {O : Nat → Vc} {n c p : Nat} (hcp : c ≤ p) (hp : p < n) : dt cs ((List.range n).map fun k => O (swp p c k)) = (if p = c then 1 else -1) * dt cs ((List.range n).map O) := by
  by_cases h : p = c
  · subst h
    rw [if_pos rfl, Int.one_mul]
    have : (fun k => O (swp p p k)) = O := funext fun k => by
      unfold swp
      by_cases hk : k = p
      · rw [if_pos hk, hk]
      · rw [if_neg hk, if_neg hk]
    rw [this]
  · rw [if_neg h]
    have hl : ((List.range n).map O).length = n := by simp
    have := dt_set (cs := cs) (l := (List.range n).map O) (c := c) (p := p) (by omega) (by omega)
    rw [show -1 * dt cs ((List.range n).map O) = -dt cs ((List.range n).map O) by omega, ← this]
    congr 1
    refine List.ext_getElem (by simp) fun k h1 h2 => ?_
    simp only [List.getElem_map, List.getElem_range, List.getElem_set]
    unfold swp
    by_cases hkp : k = p
    · subst hkp
      simp
    · have hpk : ¬ p = k := fun e => hkp e.symm
      by_cases hkc : k = c
      · subst hkc
        simp [hkp, hpk]
      · have hck : ¬ c = k := fun e => hkc e.symm
        simp [hkp, hpk, hkc, hck]

theorem perm_of {n : Nat} {σ : Nat → Nat} (h : ∀ k, k < n → σ k < n) (hi : ∀ a b, a < n → b < n → σ a = σ b → a = b) : ((List.range n).map σ).Perm (List.range n) := by
  have hnd : ((List.range n).map σ).Nodup := by
    rw [List.Nodup, List.pairwise_map]
    refine List.Pairwise.imp_of_mem ?_ (List.nodup_range (n := n))
    intro a b ha hb hab e
    exact hab (hi a b (List.mem_range.1 ha) (List.mem_range.1 hb) e)
  have hsub : ∀ x ∈ (List.range n).map σ, x ∈ List.range n := fun x hx => by
    obtain ⟨k, hk, rfl⟩ := List.mem_map.1 hx
    exact List.mem_range.2 (h k (List.mem_range.1 hk))
  have hall := sub_eq hnd hsub (by simp)
  rw [List.perm_iff_count]
  intro a
  rw [hnd.count, (List.nodup_range (n := n)).count]
  by_cases ha : a ∈ List.range n
  · rw [if_pos ha, if_pos (hall a ha)]
  · rw [if_neg ha, if_neg fun hx => ha (hsub a hx)]
section
variable {W : List (List Int)} {n : Nat}

theorem det_ech (hl : W.length = n) (hc : ∀ z ∈ W, z.length = n) :
    ∃ (V : Nat → Vc) (O : Nat → Vc), EI V O n (echW W n).2 ∧ (∀ k, k < n → ∃ j, j < n ∧ O k = rw0 W j) ∧ (∀ k, (echW W n).2.length ≤ k → k < n → ∀ j, V k j = 0) ∧ (∀ cs, dt cs ((List.range n).map O) = dt cs ((List.range n).map (rw0 W)) ∨ dt cs ((List.range n).map O) = -dt cs ((List.range n).map (rw0 W))) := by
  subst hl
  obtain ⟨O, σ, hE, hO, hinj⟩ := (EP.all hc W.length).st
  have hW := EW.all hc W.length
  refine ⟨_, O, hE, fun k hk => ⟨σ k, hO k hk⟩, fun k h1 h2 j => ?_, fun cs => ?_⟩
  · by_cases hj : j < W.length
    · exact hW.low k h1 h2 j hj
    · exact vc_ge (by rw [hW.row _ h2]; omega)
  · have hp := (perm_of (fun k hk => (hO k hk).1) hinj).map (rw0 W)
    have e : ((List.range W.length).map σ).map (rw0 W) = (List.range W.length).map O := by
      rw [List.map_map]
      exact List.map_congr_left fun k hk => ((hO k (List.mem_range.1 hk)).2).symm
    rw [e] at hp
    exact dt_perm cs hp []
theorem det_low (hl : W.length = n) (hc : ∀ z ∈ W, z.length = n) (hr : (echW W n).2.length < n) : detZ W n = 0 := by
  obtain ⟨V, O, hE, _, hz, hs⟩ := det_ech hl hc
  obtain ⟨⟨q, μ, m, hq, hμ, hm, h1⟩, _⟩ := hE.non _ (Nat.le_refl _) hr
  have hd : dt (List.range n) ((List.range n).map O) = 0 := by
    have e : (List.range n).map O = (List.range (echW W n).2.length).map O ++ O (echW W n).2.length :: ((List.range n).drop ((echW W n).2.length + 1)).map O := by
      conv => lhs; rw [← List.take_append_drop (echW W n).2.length (List.range n)]
      rw [List.map_append, List.drop_eq_getElem_cons (by simpa using hr), List.map_cons, List.take_range]
      simp [Nat.min_eq_left (Nat.le_of_lt hr)]
    have h2 := dt_put (cs := List.range n) (pre := (List.range (echW W n).2.length).map O) (post := ((List.range n).drop ((echW W n).2.length + 1)).map O) (x := O (echW W n).2.length) (w := fun _ => 0) (a := μ) (b := 1) (m := m) (n := []) fun c _ => by
      have := h1 c
      rw [hz _ (Nat.le_refl _) hr c] at this
      rw [lcs_nil]; omega
    rw [← e, dt_zero (fun _ _ => rfl)] at h2
    rw [Int.mul_zero] at h2
    exact (Int.mul_eq_zero.1 h2.symm).resolve_left hμ
  unfold detZ
  rcases hs (List.range n) with h | h <;> omega
theorem inc_id {C : List Nat} (hlen : C.length = n) (hb : ∀ p ∈ C, p < n) (inc : ∀ i j (hi : i < C.length) (hj : j < C.length), i < j → C[i] < C[j]) : C = List.range n := by
  have h1 : ∀ i (hi : i < C.length), i ≤ C[i] := by
    intro i
    induction i with
    | zero => intro _; omega
    | succ i ih =>
      intro hi
      have := ih (by omega)
      have := inc i (i + 1) (by omega) hi (by omega)
      omega
  have h2 : ∀ d i (hi : i < C.length), i + d + 1 = n → C[i] ≤ i := by
    intro d
    induction d with
    | zero =>
      intro i hi e
      have := hb C[i] (List.getElem_mem hi); omega
    | succ d ih =>
      intro i hi e
      have := ih (i + 1) (by omega) (by omega)
      have := inc i (i + 1) hi (by omega) (by omega)
      omega
  refine List.ext_getElem (by simp [hlen]) fun i hi hi' => ?_
  have := h1 i hi
  have := h2 (n - 1 - i) i hi (by omega)
  simp; omega
theorem ech_piv (rows : List (List Int)) (c : Nat) : (∀ p ∈ (echW rows c).2, p < c) ∧ ∀ i j (hi : i < (echW rows c).2.length) (hj : j < (echW rows c).2.length), i < j → (echW rows c).2[i] < (echW rows c).2[j] := echW_inc rows c
theorem det_full (hl : W.length = n) (hc : ∀ z ∈ W, z.length = n) (hr : (echW W n).2.length = n) : detZ W n ≠ 0 := by
  obtain ⟨V, O, hE, _, hz, hs⟩ := det_ech hl hc
  have hid := inc_id hr (ech_piv W n).1 (ech_piv W n).2
  have hd := hE.det
  rw [hr, hid] at hd
  unfold detZ
  rcases hs (List.range n) with h | h <;> omega
theorem ech_le (hl : W.length = n) (hc : ∀ z ∈ W, z.length = n) : (echW W n).2.length ≤ n := by
  obtain ⟨V, O, hE, _⟩ := det_ech hl hc
  exact hE.tle
theorem det_rank (hl : W.length = n) (hc : ∀ z ∈ W, z.length = n) : detZ W n = 0 ↔ (echW W n).2.length < n := by
  have := ech_le hl hc
  constructor
  · intro h
    apply Classical.byContradiction
    intro hn
    exact det_full hl hc (by omega) h
  · exact det_low hl hc
theorem NN_lcs (O : Nat → Vc) (c k : Nat) : ∀ (m : List Int) (R : List Vc), (∀ r ∈ R, NN O c r k = 0) → NN O c (lcs m R) k = 0
  | [], R, _ => by
    have := NN_lin O c (u := fun _ => 0) (v := fun _ => 0) (w := lcs [] R) (a := 0) (b := 0) (g := 1) (fun j => by rw [lcs_nil]; omega) k
    omega
  | a :: m, [], _ => by
    have := NN_lin O c (u := fun _ => 0) (v := fun _ => 0) (w := lcs (a :: m) []) (a := 0) (b := 0) (g := 1) (fun j => by rw [lcs_nil_r]; omega) k
    omega
  | a :: m, r :: R, h => by
    have ih := NN_lcs O c k m R fun x hx => h x (List.mem_cons_of_mem _ hx)
    have := NN_lin O c (u := r) (v := lcs m R) (w := lcs (a :: m) (r :: R)) (a := a) (b := 1) (g := 1) (fun j => by rw [lcs_cons]; omega) k
    rw [h r (List.mem_cons_self ..), ih] at this
    omega

theorem det_stuck (hl : W.length = n) (hc : ∀ z ∈ W, z.length = n) {O : Nat → Vc} {c : Nat} (hcn : c < n) (hD : DD O c ≠ 0) (hO : ∀ i, i < n → ∃ j, j < n ∧ rw0 W i = O j) (hz : ∀ j, j < n → NN O c (O j) c = 0) : detZ W n = 0 := by
  apply Classical.byContradiction
  intro hne
  have hr : (echW W n).2.length = n := by
    have h1 := ech_le hl hc
    have h2 := (det_rank hl hc)
    have h3 : ¬ (echW W n).2.length < n := fun h => hne (h2.2 h)
    omega
  obtain ⟨V, P, hE, hP, _, _⟩ := det_ech hl hc
  have hid := inc_id hr (ech_piv W n).1 (ech_piv W n).2
  obtain ⟨⟨q, m, hq, hm, h1⟩, h2, h3⟩ := hE.piv c (by omega)
  have hg : ∀ j (hj : j < (echW W n).2.length), (echW W n).2[j] = j := fun j hj => by
    have := List.getElem_of_eq hid hj
    rw [this]; simp
  rw [hg c (by omega)] at h3
  have hn := NN_lcs O c c m ((List.range (echW W n).2.length).map P) fun r hr2 => by
    obtain ⟨k, hk, rfl⟩ := List.mem_map.1 hr2
    have hk := List.mem_range.1 hk
    obtain ⟨j, hj, e⟩ := hP k (by omega)
    obtain ⟨j2, hj2, e2⟩ := hO j hj
    rw [e, e2]; exact hz j2 hj2
  have hl2 := NN_lin O c (u := lcs m ((List.range (echW W n).2.length).map P)) (v := fun _ => 0) (w := V c) (a := 1) (b := 0) (g := q) (fun j => by rw [h1 j]; omega) c
  rw [hn] at hl2
  have hq0 : NN O c (V c) c = 0 := by
    have : q * NN O c (V c) c = 0 := by rw [hl2]; omega
    exact (Int.mul_eq_zero.1 this).resolve_left hq
  have hu : NN O c (V c) c = V c c * DD O c := dt_u (fun k hk => by
    have hk := mem_CC.1 hk
    have := h2 k (by omega) (by omega)
    rwa [hg k (by omega)] at this) c
  rw [hu] at hq0
  rcases Int.mul_eq_zero.1 hq0 with h | h
  · exact h3 h
  · exact hD h
end

def brow (last : Int) (c : Nat) (p z : List Int) : List Int := z.mapIdx fun k x => if k ≤ c then x else (x * vc p c - vc z c * vc p k) / last
def bstep (last : Int) (c : Nat) (W : List (List Int)) : List (List Int) := W.mapIdx fun i z => if i ≤ c then z else brow last c (W.getD c []) z
def barW (W0 : List (List Int)) : Nat → Option (List (List Int) × Int × Bool)
  | 0 => some (W0, 1, false)
  | c + 1 => match barW W0 c with
    | none => none
    | some (W, last, t) => if findP W c c < W.length then some (bstep last c (swapL W c (findP W c c)), vc ((swapL W c (findP W c c)).getD c []) c, xor t (decide (findP W c c ≠ c))) else none
def barD (W0 : List (List Int)) (n : Nat) : Int := match barW W0 n with
  | none => 0
  | some (_, last, t) => if t then -last else last
theorem brow_len (last : Int) (c : Nat) (p z : List Int) : (brow last c p z).length = z.length := by simp [brow]
theorem bstep_len (last : Int) (c : Nat) (W : List (List Int)) : (bstep last c W).length = W.length := by simp [bstep]
theorem brow_vc {last : Int} {c : Nat} {p z : List Int} {k : Nat} (h : k < z.length) : vc (brow last c p z) k = if k ≤ c then vc z k else (vc z k * vc p c - vc z c * vc p k) / last := by
  rw [vc_lt (by rw [brow_len]; exact h), vc_lt h]
  simp [brow]
theorem bstep_get {last : Int} {c i : Nat} {W : List (List Int)} (h : i < W.length) : (bstep last c W).getD i [] = if i ≤ c then W.getD i [] else brow last c (W.getD c []) (W.getD i []) := by
  simp [bstep, h, List.getD_eq_getElem?_getD]

structure BI (W0 : List (List Int)) (n c : Nat) (β B : Nat) (W : List (List Int)) (last : Int) (t : Bool) : Prop where
  len : W.length = n
  row : ∀ i, i < n → (W.getD i []).length = n
  st : ∃ (O : Nat → Vc) (κ : Nat → Nat), (∀ cs, dt cs ((List.range n).map (rw0 W0)) = (if t then -1 else 1) * dt cs ((List.range n).map O)) ∧ (∀ i, i < n → ∃ j, j < n ∧ rw0 W0 i = O j) ∧
    last = DD O c ∧ (∀ j, j ≤ c → DD O j ≠ 0) ∧ (∀ i, c ≤ i → i < n → ∀ k, c ≤ k → k < n → vc (W.getD i []) k = NN O c (O i) k) ∧
    (∀ k, k < n → ∀ j, (O k j).natAbs ≤ β ^ κ k) ∧ sz κ n ≤ B
section
variable {W0 W : List (List Int)} {n c β B : Nat} {last : Int} {t : Bool}
theorem BI.start {κ : Nat → Nat} (hl : W0.length = n) (hc : ∀ i, i < n → (W0.getD i []).length = n) (hk : ∀ k, k < n → ∀ j, (rw0 W0 k j).natAbs ≤ β ^ κ k) (hB : sz κ n ≤ B) : BI W0 n 0 β B W0 1 false :=
  ⟨hl, hc, rw0 W0, κ, fun cs => by simp, fun i hi => ⟨i, hi, rfl⟩, rfl, fun j hj => by
    obtain rfl : j = 0 := by omega
    rw [DD_zero]; decide, fun i _ hi k _ hk => (NN_zero _ _ _).symm, hk, hB⟩
theorem BI.step (h : BI W0 n c β B W last t) (hcn : c < n) (hf : findP W c c < W.length) : BI W0 n (c + 1) β B (bstep last c (swapL W c (findP W c c))) (vc ((swapL W c (findP W c c)).getD c []) c) (xor t (decide (findP W c c ≠ c))) := by
  obtain ⟨O, κ, hs, hO, hla, hnz, hent, hsz, hB⟩ := h.st
  obtain ⟨hcp, hp0⟩ := findP_spec hf
  have hlen := h.len
  rw [hlen] at hf
  generalize findP W c c = p at *
  have hsl : (swapL W c p).length = n := by rw [swapL_len]; exact hlen
  have hsg : ∀ k, k < n → (swapL W c p).getD k [] = W.getD (swp p c k) [] := fun k hk => swapL_get (by omega) (by omega) (by omega)
  have hO' : ∀ i, i < c → O i = O (swp p c i) := fun i hi => by rw [swp_lt hcp hi]
  have hDc : ∀ j, j ≤ c → DD (fun k => O (swp p c k)) j = DD O j := fun j hj => (DD_congr fun i hi => hO' i (by omega)).symm
  have hNc : ∀ x, NN (fun k => O (swp p c k)) c x = NN O c x := fun x => (NN_congr fun i hi => hO' i hi) x ▸ rfl
  have hent' : ∀ i, c ≤ i → i < n → ∀ k, c ≤ k → k < n → vc ((swapL W c p).getD i []) k = NN (fun k => O (swp p c k)) c (O (swp p c i)) k := fun i hi hin k hk hkn => by
    rw [hsg i hin, hNc]
    exact hent _ (swp_ge hcp hi) (swp_bd hf hcn hin) k hk hkn
  have hpc : vc ((swapL W c p).getD c []) c ≠ 0 := by rw [hsg c hcn, swp_t]; exact hp0
  have hDD : DD (fun k => O (swp p c k)) (c + 1) = vc ((swapL W c p).getD c []) c := by
    rw [DD_succ, hent' c (Nat.le_refl _) hcn c (Nat.le_refl _) hcn]
  have hnz' : ∀ j, j ≤ c → DD (fun k => O (swp p c k)) j ≠ 0 := fun j hj => by rw [hDc j hj]; exact hnz j hj
  refine ⟨by rw [bstep_len]; exact hsl, fun i hi => ?_, fun k => O (swp p c k), fun k => κ (swp p c k), fun cs => ?_, fun i hi => ?_, hDD.symm, fun j hj => ?_, fun i hi hin k hk hkn => ?_, fun k hk j => hsz _ (swp_bd hf hcn hk) j, by rw [sz_swp hf hcn]; exact hB⟩
  · rw [bstep_get (by omega)]
    have h1 := h.row _ (swp_bd hf hcn hi)
    split
    · rw [hsg i hi]; exact h1
    · rw [brow_len, hsg i hi]; exact h1
  · rw [hs cs, dt_swp hcp hf]
    by_cases hpe : p = c
    · cases t <;> simp [hpe]
    · cases t <;> simp [hpe]
  · obtain ⟨j, hj, e⟩ := hO i hi
    refine ⟨swp p c j, swp_bd hf hcn hj, ?_⟩
    simp only [swp_swp]; exact e
  · by_cases hjc : j ≤ c
    · exact hnz' j hjc
    · rw [show j = c + 1 by omega, hDD]; exact hpc
  · have hrl := h.row _ (swp_bd hf hcn hin)
    rw [bstep_get (by omega), if_neg (by omega), brow_vc (by rw [hsg i hin, hrl]; exact hkn), if_neg (by omega)]
    rw [hent' i (by omega) hin k (by omega) hkn, hent' i (by omega) hin c (Nat.le_refl _) hcn, hent' c (Nat.le_refl _) hcn c (Nat.le_refl _) hcn, hent' c (Nat.le_refl _) hcn k (by omega) hkn]
    rw [← NN_step hnz', hDc c (Nat.le_refl _), hla]
    exact Int.mul_ediv_cancel_left _ (hnz c (Nat.le_refl _))
theorem BI.z (h : BI W0 n c β B W last t) (hn : n + 1 ≤ β) (hβ : 1 ≤ β) {i k : Nat} (hi : c ≤ i) (hin : i < n) (hk : c ≤ k) (hkn : k < n) : (vc (W.getD i []) k).natAbs ≤ β ^ B := by
  obtain ⟨O, κ, hs, hO, hla, hnz, hent, hsz, hB⟩ := h.st
  rw [hent i hi hin k hk hkn]
  have h1 := dt_bound (k :: CC c) (O i :: RRo O c) (κ i :: (CC c).map κ) ⟨fun j _ => hsz i hin j, (Bd_range (cs := k :: CC c) (CC c) fun r hr => hsz r (by have := mem_CC.1 hr; omega))⟩ (by rw [List.length_cons, RRo_len]; omega)
  refine Nat.le_trans h1 (Nat.pow_le_pow_right hβ ?_)
  have h2 : wsum ((CC c).map κ) = sz κ c := by
    unfold sz CC wsum
    rw [List.map_reverse, List.sum_reverse, List.length_reverse]
  rw [wsum_cons, h2]
  have h3 : ∀ m, c ≤ i → i < m → κ i + 1 + sz κ c ≤ sz κ m := by
    intro m hci him
    have a1 := sz_succ κ i
    have a2 := sz_mono (κ := κ) (show i + 1 ≤ m from him)
    have a3 := sz_mono (κ := κ) hci
    omega
  have := h3 n hi hin
  omega
theorem BI.zl (h : BI W0 n c β B W last t) (hc : c ≤ n) (hn : n + 1 ≤ β) (hβ : 1 ≤ β) : last.natAbs ≤ β ^ B ∧ last ≠ 0 := by
  obtain ⟨O, κ, hs, hO, hla, hnz, hent, hsz, hB⟩ := h.st
  refine ⟨?_, by rw [hla]; exact hnz c (Nat.le_refl _)⟩
  rw [hla]
  have h1 := dt_bound (CC c) (RRo O c) ((CC c).map κ) (Bd_range (CC c) fun r hr => hsz r (by have := mem_CC.1 hr; omega)) (by rw [RRo_len]; omega)
  refine Nat.le_trans h1 (Nat.pow_le_pow_right hβ ?_)
  have h2 : wsum ((CC c).map κ) = sz κ c := by
    unfold sz CC wsum
    rw [List.map_reverse, List.sum_reverse, List.length_reverse]
  rw [h2]
  exact Nat.le_trans (sz_mono hc) hB

theorem bar_all {κ : Nat → Nat} (hl : W0.length = n) (hc : ∀ i, i < n → (W0.getD i []).length = n) (hk : ∀ k, k < n → ∀ j, (rw0 W0 k j).natAbs ≤ β ^ κ k) (hB : sz κ n ≤ B) : ∀ c, c ≤ n → (∀ W last t, barW W0 c = some (W, last, t) → BI W0 n c β B W last t) ∧ (barW W0 c = none → detZ W0 n = 0)
  | 0, _ => ⟨fun W last t h => by
    simp only [barW, Option.some.injEq, Prod.mk.injEq] at h
    obtain ⟨rfl, rfl, rfl⟩ := h
    exact .start hl hc hk hB, fun h => by simp [barW] at h⟩
  | c + 1, hcn => by
    obtain ⟨ih1, ih2⟩ := bar_all hl hc hk hB c (by omega)
    rw [barW]
    cases hb : barW W0 c with
    | none => exact ⟨fun W last t h => by simp at h, fun _ => ih2 hb⟩
    | some s =>
      obtain ⟨W1, last1, t1⟩ := s
      have hI := ih1 _ _ _ hb
      simp only []
      by_cases hf : findP W1 c c < W1.length
      · rw [if_pos hf]
        refine ⟨fun W last t h => ?_, fun h => by simp at h⟩
        simp only [Option.some.injEq, Prod.mk.injEq] at h
        obtain ⟨rfl, rfl, rfl⟩ := h
        exact hI.step (by omega) hf
      · rw [if_neg hf]
        refine ⟨fun W last t h => by simp at h, fun _ => ?_⟩
        obtain ⟨O, κ', hs, hO, hla, hnz, hent, hsz, hB'⟩ := hI.st
        have hfe : findP W1 c c = W1.length := by have := findP_le (W := W1) (c := c) (r := c); omega
        have hz := findP_none hfe
        refine det_stuck hl (fun z hzm => ?_) (show c < n by omega) (hnz c (Nat.le_refl _)) hO fun j hj => ?_
        · obtain ⟨i, hi, rfl⟩ := mem_getD (d := []) hzm
          exact hc i (by omega)
        · by_cases hjc : c ≤ j
          · rw [← hent j hjc hj c (Nat.le_refl _) (by omega)]
            exact hz j hjc (by rw [hI.len]; exact hj)
          · have := dt_mem (cs := c :: CC c) (x := O j) (pre := []) (post := RRo O c) (.inr (List.mem_map.2 ⟨j, mem_CC.2 (by omega), rfl⟩))
            simpa [NN, nmr] using this
theorem barD_det {κ : Nat → Nat} (hl : W0.length = n) (hc : ∀ i, i < n → (W0.getD i []).length = n) (hk : ∀ k, k < n → ∀ j, (rw0 W0 k j).natAbs ≤ β ^ κ k) (hB : sz κ n ≤ B) : barD W0 n = detZ W0 n := by
  obtain ⟨h1, h2⟩ := bar_all hl hc hk hB n (Nat.le_refl _)
  unfold barD
  cases hb : barW W0 n with
  | none => exact (h2 hb).symm
  | some s =>
    obtain ⟨W, last, t⟩ := s
    obtain ⟨O, κ', hs, hO, hla, hnz, hent, hsz, hB'⟩ := (h1 _ _ _ hb).st
    simp only []
    unfold detZ
    rw [hs, ← DD_range, ← hla]
    cases t <;> simp
end
end Go.Proofs.Ytfjdfnlkobeehaa
end
