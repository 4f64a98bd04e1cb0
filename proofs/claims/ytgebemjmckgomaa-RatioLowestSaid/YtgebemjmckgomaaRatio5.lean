/- Fractions: their order, and the whole number at most them. -/
import Derived.Test.YtgebemjmckgomaaRatio4
set_option maxRecDepth 100000
set_option linter.unusedVariables false
set_option linter.unusedSimpArgs false
namespace Go.Proofs.Ytgebemjmckgomaa

section
variable {q p t : Rat}
theorem cR_lt (h : q < p) : cR q p = -1 := cZ_lt ((Rat.lt_iff q p).1 h)
theorem cR_gt (h : p < q) : cR q p = 1 := cZ_gt ((Rat.lt_iff p q).1 h)
theorem cR_eq (h : q = p) : cR q p = 0 := cZ_eq (by rw [h])
theorem rat_tri (q p : Rat) : q < p ∨ q = p ∨ p < q := by
  by_cases h1 : q < p
  · exact .inl h1
  · by_cases h2 : p < q
    · exact .inr (.inr h2)
    · exact .inr (.inl (Rat.le_antisymm (Rat.not_lt.1 h2) (Rat.not_lt.1 h1)))
theorem cR_swap : cR p q = -cR q p := by
  rcases rat_tri q p with h | h | h
  · rw [cR_lt h, cR_gt h]; rfl
  · rw [cR_eq h, cR_eq h.symm]; rfl
  · rw [cR_gt h, cR_lt h]
theorem cR_add : cR (q + t) (p + t) = cR q p := by
  rcases rat_tri q p with h | h | h
  · rw [cR_lt h, cR_lt (Rat.add_lt_add_right.2 h)]
  · rw [cR_eq h, cR_eq (by rw [h])]
  · rw [cR_gt h, cR_gt (Rat.add_lt_add_right.2 h)]
theorem cR_num : cZ q.num 0 = cR q 0 := by
  unfold cR
  rw [Rat.zero_num, Rat.zero_den, Int.zero_mul]
  simp
theorem cR_sub : cR (q - p) 0 = cR q p := by
  rcases rat_tri q p with h | h | h
  · rw [cR_lt h, cR_lt]
    have := (Rat.lt_iff_sub_pos q p).1 h
    have h2 := Rat.neg_lt_neg this
    rwa [Rat.neg_sub, Rat.neg_zero] at h2
  · rw [cR_eq h, cR_eq (by rw [h, Rat.sub_self])]
  · rw [cR_gt h, cR_gt ((Rat.lt_iff_sub_pos p q).1 h)]
theorem cR_mul : cR (q * t) (p * t) = cR q p * cR t 0 := by
  rcases rat_tri t 0 with ht | ht | ht
  · have hn : 0 < -t := by have := Rat.neg_lt_neg ht; rwa [Rat.neg_zero] at this
    have key : ∀ a b : Rat, a < b → b * t < a * t := fun a b hab => by
      have h1 := (Rat.mul_lt_mul_right hn).2 hab
      rw [Rat.mul_neg, Rat.mul_neg] at h1
      have h2 := Rat.neg_lt_neg h1
      rwa [Rat.neg_neg, Rat.neg_neg] at h2
    rw [cR_lt ht]
    rcases rat_tri q p with h | h | h
    · rw [cR_lt h, cR_gt (key _ _ h)]; rfl
    · rw [cR_eq h, cR_eq (by rw [h])]; rfl
    · rw [cR_gt h, cR_lt (key _ _ h)]; rfl
  · rw [ht, cR_eq rfl, Int.mul_zero, cR_eq (by rw [Rat.mul_zero, Rat.mul_zero])]
  · rw [cR_gt ht, Int.mul_one]
    rcases rat_tri q p with h | h | h
    · rw [cR_lt h, cR_lt ((Rat.mul_lt_mul_right ht).2 h)]
    · rw [cR_eq h, cR_eq (by rw [h])]
    · rw [cR_gt h, cR_gt ((Rat.mul_lt_mul_right ht).2 h)]
theorem cR_eq0 : cR q p = 0 ↔ q = p := by
  rcases rat_tri q p with h | h | h
  · rw [cR_lt h]; exact ⟨fun e => by omega, fun e => absurd e (Rat.ne_of_lt h)⟩
  · rw [cR_eq h]; exact ⟨fun _ => h, fun _ => rfl⟩
  · rw [cR_gt h]; exact ⟨fun e => by omega, fun e => absurd e.symm (Rat.ne_of_lt h)⟩
theorem cR_trans (h1 : ¬ 0 < cR q p) (h2 : ¬ 0 < cR p t) : cR q t ≤ 0 := by
  have a : q ≤ p := by
    rw [← Rat.not_lt]; intro h; rw [cR_gt h] at h1; omega
  have b : p ≤ t := by
    rw [← Rat.not_lt]; intro h; rw [cR_gt h] at h2; omega
  have c := Rat.le_trans a b
  rcases rat_tri q t with h | h | h
  · rw [cR_lt h]; omega
  · rw [cR_eq h]; omega
  · exact absurd h (Rat.not_lt.2 c)
theorem cR_bnd : -1 ≤ cR q p ∧ cR q p ≤ 1 := by
  rcases rat_tri q p with h | h | h
  · rw [cR_lt h]; omega
  · rw [cR_eq h]; omega
  · rw [cR_gt h]; omega
theorem floor_of {z : Int} (h1 : (z : Rat) ≤ q) (h2 : q < ((z + 1 : Int) : Rat)) : q.num / q.den = z := by
  have a := (Rat.le_iff _ _).1 h1
  have b := (Rat.lt_iff _ _).1 h2
  rw [Rat.num_intCast, Rat.den_intCast] at a b
  have hd := q.den_pos
  refine (ediv_of (y := q.den) (q := z) (r := q.num - q.den * z) (by omega) ?_ ?_).1
  · rw [Int.mul_comm] at a; omega
  · rw [Int.add_mul, Int.mul_comm z] at b; omega
theorem floor_le : ((q.num / q.den : Int) : Rat) ≤ q := by
  rw [Rat.le_iff, Rat.num_intCast, Rat.den_intCast]
  have := Int.ediv_mul_le q.num (b := q.den) (by have := q.den_nz; omega)
  simpa using this
theorem lt_floor : q < ((q.num / q.den + 1 : Int) : Rat) := by
  rw [Rat.lt_iff, Rat.num_intCast, Rat.den_intCast]
  have h1 := Int.lt_ediv_add_one_mul_self q.num (b := q.den) (by have := q.den_pos; omega)
  simpa using h1
theorem floor_add {v : Int} : (q + (v : Rat)).num / (q + (v : Rat)).den = q.num / q.den + v := by
  refine floor_of ?_ ?_
  · rw [Rat.intCast_add]
    exact Rat.add_le_add_right.2 floor_le
  · have e : q.num / (q.den : Int) + v + 1 = q.num / (q.den : Int) + 1 + v := by omega
    rw [e, Rat.intCast_add]
    exact Rat.add_lt_add_right.2 lt_floor
theorem floor_whole : ((q.num / q.den : Int) : Rat) = q ↔ q.den = 1 := by
  constructor
  · intro h
    have := congrArg Rat.den h
    rw [Rat.den_intCast] at this
    exact this.symm
  · intro h
    refine Rat.ext ?_ ?_
    · rw [Rat.num_intCast, h]; simp
    · rw [Rat.den_intCast, h]
end
end Go.Proofs.Ytgebemjmckgomaa
