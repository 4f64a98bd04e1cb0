/- Rows cleared by rows: what stays true, and how long the numbers may grow. No program in sight. -/
import Derived.Test.YtfjdfnlkobeehaaDet
set_option linter.unusedVariables false
set_option linter.unusedSimpArgs false
namespace Go.Proofs.Ytfjdfnlkobeehaa

/-- How long numbers may be: for each row its own bound. -/
def Bd (β : Nat) (cs : List Nat) : List Vc → List Nat → Prop
  | [], [] => True
  | r :: rs, k :: ks => (∀ c ∈ cs, (r c).natAbs ≤ β ^ k) ∧ Bd β cs rs ks
  | _, _ => False
theorem Bd.app {β : Nat} {cs : List Nat} : ∀ {rs ss : List Vc} {ks ls : List Nat}, Bd β cs rs ks → Bd β cs ss ls → Bd β cs (rs ++ ss) (ks ++ ls)
  | [], _, [], _, _, h => h
  | _ :: _, _, _ :: _, _, h, h' => ⟨h.1, Bd.app h.2 h'⟩
  | [], _, _ :: _, _, h, _ => h.elim
  | _ :: _, _, [], _, h, _ => h.elim
theorem Bd.tail {β c : Nat} {cs : List Nat} : ∀ {rs : List Vc} {ks : List Nat}, Bd β (c :: cs) rs ks → Bd β cs rs ks
  | [], [], h => h
  | _ :: _, _ :: _, h => ⟨fun x hx => h.1 x (List.mem_cons_of_mem _ hx), Bd.tail h.2⟩
  | [], _ :: _, h => h.elim
  | _ :: _, [], h => h.elim
/-- One more for each. -/
def wsum (ks : List Nat) : Nat := ks.sum + ks.length
theorem wsum_app (ks ls : List Nat) : wsum (ks ++ ls) = wsum ks + wsum ls := by simp [wsum]; omega
theorem wsum_cons (k : Nat) (ks : List Nat) : wsum (k :: ks) = k + 1 + wsum ks := by simp [wsum]; omega
theorem dtx_bound {β N c E : Nat} {cs : List Nat} {f : List Vc → Int} (hf : ∀ l kl, Bd β cs l kl → l.length ≤ N → (f l).natAbs ≤ β ^ wsum kl) :
    ∀ (rs : List Vc) (ks : List Nat) (p : List Vc) (kp : List Nat), Bd β (c :: cs) rs ks → Bd β (c :: cs) p kp → p.length + rs.length ≤ N + 1 → wsum kp + wsum ks = E + 1 → (dtx f c p rs).natAbs ≤ rs.length * β ^ E
  | [], _, _, _, _, _, _, _ => by simp [dtx]
  | r :: rs, k :: ks, p, kp, h, hp, hl, hw => by
    rw [wsum_cons] at hw
    have h1 := hf (p ++ rs) (kp ++ ks) (hp.tail.app h.2.tail) (by simp at hl ⊢; omega)
    have h2 := dtx_bound (E := E) hf rs ks (p ++ [r]) (kp ++ [k]) h.2 (hp.app ⟨h.1, trivial⟩) (by simp at hl ⊢; omega) (by rw [wsum_app]; simp [wsum] at hw ⊢; omega)
    have h3 := h.1 c (List.mem_cons_self ..)
    have h4 : (r c * f (p ++ rs)).natAbs ≤ β ^ E := by
      rw [Int.natAbs_mul]
      have := Nat.mul_le_mul h3 h1
      rw [← Nat.pow_add, wsum_app] at this
      rwa [show k + (wsum kp + wsum ks) = E by omega] at this
    have h5 := Int.natAbs_sub_le (r c * f (p ++ rs)) (dtx f c (p ++ [r]) rs)
    simp only [dtx, List.length_cons, Nat.add_mul, Nat.one_mul]
    omega
  | _ :: _, [], _, _, h, _, _, _ => h.elim
theorem dt_bound {β : Nat} : ∀ (cs : List Nat) (rs : List Vc) (ks : List Nat), Bd β cs rs ks → rs.length ≤ β → (dt cs rs).natAbs ≤ β ^ wsum ks
  | [], [], [], _, _ => by simp [dt, wsum]
  | [], r :: rs, ks, _, _ => by simp [dt]
  | [], [], _ :: _, h, _ => h.elim
  | c :: cs, rs, ks, h, hl => by
    rw [dt_cons]
    by_cases h0 : rs = []
    · subst h0; simp [dtx]
    · obtain ⟨E, hE⟩ : ∃ E, wsum ks = E + 1 := by
        cases rs with
        | nil => exact absurd rfl h0
        | cons r rs =>
          cases ks with
          | nil => exact h.elim
          | cons k ks => exact ⟨k + wsum ks, by rw [wsum_cons]; omega⟩
      have := dtx_bound (β := β) (N := rs.length - 1) (c := c) (cs := cs) (E := E) (f := dt cs) (fun l kl hb hn => dt_bound cs l kl hb (by omega)) rs ks [] [] h trivial (by
        have := List.length_pos_iff.2 h0
        simp; omega) (by simpa [wsum] using hE)
      refine Nat.le_trans this ?_
      rw [hE, Nat.pow_succ, Nat.mul_comm]
      exact Nat.mul_le_mul_left _ hl

/-- A whole multiple of u is a sum of the rows, so many times each. -/
def Spn (I : List Vc) (u : Vc) : Prop := ∃ (q : Int) (m : List Int), q ≠ 0 ∧ m.length = I.length ∧ ∀ j, q * u j = lcs m I j
theorem lcs_zip {x y : Int} {j : Nat} : ∀ {m n : List Int} {I : List Vc}, m.length = I.length → n.length = I.length → lcs (List.zipWith (fun a b => x * a + y * b) m n) I j = x * lcs m I j + y * lcs n I j
  | [], [], [], _, _ => by simp [lcs_nil]
  | a :: m, b :: n, r :: I, h, h' => by
    simp only [List.zipWith_cons_cons, lcs_cons]
    rw [lcs_zip (by simpa using h) (by simpa using h')]
    simp only [Int.mul_add, Int.add_mul, Int.mul_assoc]
    omega
  | [], _ :: _, [], _, h => by simp at h
  | _ :: _, [], [], h, _ => by simp at h
  | [], _, _ :: _, h, _ => by simp at h
  | _ :: _, [], _ :: _, _, h => by simp at h
  | _ :: _, _ :: _, [], h, _ => by simp at h
theorem Spn.add {I : List Vc} {u v w : Vc} {a b g : Int} (hg : g ≠ 0) (hu : Spn I u) (hv : Spn I v) (hw : ∀ j, g * w j = a * u j + b * v j) : Spn I w := by
  obtain ⟨p, m, hp, hm, h1⟩ := hu
  obtain ⟨q, n, hq, hn, h2⟩ := hv
  refine ⟨p * q * g, List.zipWith (fun x y => (a * q) * x + (b * p) * y) m n, Int.mul_ne_zero (Int.mul_ne_zero hp hq) hg, by simp [hm, hn], fun j => ?_⟩
  rw [lcs_zip hm hn, ← h1 j, ← h2 j, Int.mul_assoc, hw j]
  simp only [Int.mul_add, Int.mul_assoc]
  rw [show p * (q * (a * u j)) = a * (q * (p * u j)) by simp only [Int.mul_left_comm, Int.mul_comm], show p * (q * (b * v j)) = b * (p * (q * v j)) by simp only [Int.mul_left_comm, Int.mul_comm]]
theorem Spn.ext {I : List Vc} {u o : Vc} (h : Spn I u) : Spn (I ++ [o]) u := by
  obtain ⟨q, m, hq, hm, h1⟩ := h
  refine ⟨q, m ++ [0], hq, by simp [hm], fun j => ?_⟩
  rw [h1 j, lcs_app [0] [o] hm, lcs_cons, lcs_nil]; omega

/-- Two places change. -/
def swp (i t k : Nat) : Nat := if k = i then t else if k = t then i else k
theorem swp_lt {i t k : Nat} (hi : t ≤ i) (hk : k < t) : swp i t k = k := by unfold swp; rw [if_neg (by omega), if_neg (by omega)]
theorem swp_bd {i t k n : Nat} (hi : i < n) (ht : t < n) (hk : k < n) : swp i t k < n := by unfold swp; split; exact ht; split; exact hi; exact hk
theorem swp_ge {i t k : Nat} (hi : t ≤ i) (hk : t ≤ k) : t ≤ swp i t k := by unfold swp; split; omega; split; omega; exact hk
theorem swp_t {i t : Nat} : swp i t t = i := by unfold swp; split; omega; rw [if_pos rfl]

/-- Rows of work W out of rows O, n of them, pivots' columns C. -/
structure EI (W O : Nat → Vc) (n : Nat) (C : List Nat) : Prop where
  tle : C.length ≤ n
  piv : ∀ (k : Nat) (hk : k < C.length), Spn ((List.range C.length).map O) (W k) ∧ (∀ (j : Nat) (hj : j < C.length), j ≠ k → W k C[j] = 0) ∧ W k C[k] ≠ 0
  non : ∀ k, C.length ≤ k → k < n → (∃ (q μ : Int) (m : List Int), q ≠ 0 ∧ μ ≠ 0 ∧ m.length = C.length ∧ ∀ j, q * W k j = μ * O k j + lcs m ((List.range C.length).map O) j) ∧ ∀ c ∈ C, W k c = 0
  det : dt C ((List.range C.length).map O) ≠ 0
theorem EI.start {O : Nat → Vc} {W : Nat → Vc} {n : Nat} (h : ∀ k, k < n → ∃ q : Int, q ≠ 0 ∧ ∀ j, q * W k j = O k j) : EI W O n [] := by
  refine ⟨Nat.zero_le _, fun k hk => by simp at hk, fun k _ hk => ?_, by simp [dt]⟩
  obtain ⟨q, hq, h1⟩ := h k hk
  exact ⟨⟨q, 1, [], hq, by decide, rfl, fun j => by rw [h1 j, lcs_nil]; omega⟩, fun c hc => by simp at hc⟩
theorem EI.swap {W O : Nat → Vc} {n i : Nat} {C : List Nat} (h : EI W O n C) (hi : C.length ≤ i) (hin : i < n) : EI (fun k => W (swp i C.length k)) (fun k => O (swp i C.length k)) n C := by
  have e : (List.range C.length).map (fun k => O (swp i C.length k)) = (List.range C.length).map O := by
    apply List.map_congr_left
    intro k hk
    rw [swp_lt hi (List.mem_range.1 hk)]
  refine ⟨h.tle, fun k hk => ?_, fun k hk hkn => ?_, ?_⟩
  · rw [e]
    simp only [swp_lt hi hk]
    exact h.piv k hk
  · rw [e]
    exact h.non _ (swp_ge hi hk) (swp_bd hin (by omega) hkn)
  · rw [e]; exact h.det
theorem EI.clear {W O V : Nat → Vc} {n c : Nat} {C : List Nat} (h : EI W O n C) (htn : C.length < n) (hc : W C.length c ≠ 0) (ht : V C.length = W C.length)
    (hV : ∀ k, k < n → k ≠ C.length → ∃ a b g : Int, a ≠ 0 ∧ g ≠ 0 ∧ (∀ j, g * V k j = a * W k j - b * W C.length j) ∧ V k c = 0) : EI V O n (C ++ [c]) := by
  obtain ⟨⟨q, μ, m, hq, hμ, hm, h1⟩, hz⟩ := h.non C.length (Nat.le_refl _) htn
  have hI : (List.range (C ++ [c]).length).map O = (List.range C.length).map O ++ [O C.length] := by
    rw [List.length_append, List.length_singleton, List.range_succ, List.map_append]; rfl
  have hIl : ((List.range C.length).map O).length = C.length := by simp
  have hspt : Spn ((List.range C.length).map O ++ [O C.length]) (W C.length) := by
    refine ⟨q, m ++ [μ], hq, by simp [hm], fun j => ?_⟩
    rw [h1 j, lcs_app [μ] [O C.length] (by rw [hm, hIl]), lcs_cons, lcs_nil]; omega
  refine ⟨by simp; omega, fun k hk => ?_, fun k hk hkn => ?_, ?_⟩
  · rw [hI]
    rw [List.length_append, List.length_singleton] at hk
    by_cases hkt : k = C.length
    · subst hkt
      rw [ht]
      refine ⟨hspt, fun j hj hne => ?_, by rw [List.getElem_append_right (by omega)]; simpa using hc⟩
      rw [List.length_append, List.length_singleton] at hj
      rw [List.getElem_append_left (by omega)]
      exact hz _ (List.getElem_mem _)
    · obtain ⟨a, b, g, ha, hg, hv, hvc⟩ := hV k (by omega) hkt
      obtain ⟨hs, hz', hnz⟩ := h.piv k (by omega)
      refine ⟨Spn.add hg hs.ext hspt (a := a) (b := -b) (fun j => by rw [hv j, Int.neg_mul]; omega), fun j hj hne => ?_, ?_⟩
      · rw [List.length_append, List.length_singleton] at hj
        by_cases hjt : j < C.length
        · rw [List.getElem_append_left hjt]
          have e1 := hv C[j]
          rw [hz' j hjt hne, hz _ (List.getElem_mem hjt), Int.mul_zero, Int.mul_zero] at e1
          exact (Int.mul_eq_zero.1 e1).resolve_left hg
        · rw [List.getElem_append_right (by omega)]
          simpa using hvc
      · rw [List.getElem_append_left (by omega)]
        have e1 := hv C[k]
        rw [hz _ (List.getElem_mem (by omega)), Int.mul_zero, Int.sub_zero] at e1
        intro h0
        rw [h0, Int.mul_zero] at e1
        rcases Int.mul_eq_zero.1 e1.symm with h | h
        · exact ha h
        · exact hnz h
  · rw [hI]
    rw [List.length_append, List.length_singleton] at hk ⊢
    obtain ⟨a, b, g, ha, hg, hv, hvc⟩ := hV k hkn (by omega)
    obtain ⟨⟨q', μ', m', hq', hμ', hm', h1'⟩, hz'⟩ := h.non k (by omega) hkn
    refine ⟨⟨q * q' * g, a * q * μ', List.zipWith (fun x y => (a * q) * x + (-(b * q')) * y) m' m ++ [-(b * q') * μ], Int.mul_ne_zero (Int.mul_ne_zero hq hq') hg, Int.mul_ne_zero (Int.mul_ne_zero ha hq) hμ', by simp [hm, hm'], fun j => ?_⟩, fun x hx => ?_⟩
    · rw [lcs_app _ _ (by simp [hm, hm']), lcs_zip (by rw [hm', hIl]) (by rw [hm, hIl]), lcs_cons, lcs_nil, Int.mul_assoc, hv j]
      have e1 := h1 j
      have e2 := h1' j
      generalize lcs m ((List.range C.length).map O) j = s at *
      generalize lcs m' ((List.range C.length).map O) j = s' at *
      have e3 : q * q' * (a * W k j - b * W C.length j) = a * q * (q' * W k j) - b * q' * (q * W C.length j) := by
        rw [Int.mul_sub]
        congr 1 <;> simp only [Int.mul_left_comm, Int.mul_comm, Int.mul_assoc]
      rw [e3, e1, e2]
      simp only [Int.mul_add, Int.neg_mul, Int.mul_assoc]
      omega
    · rcases List.mem_append.1 hx with hx | hx
      · have e1 := hv x
        rw [hz' x hx, hz x hx, Int.mul_zero, Int.mul_zero] at e1
        exact (Int.mul_eq_zero.1 e1).resolve_left hg
      · have : x = c := by simpa using hx
        subst this; exact hvc
  · rw [hI]
    have e1 := dt_put (cs := C ++ [c]) (pre := (List.range C.length).map O) (post := []) (x := O C.length) (w := W C.length) (a := μ) (b := q) (m := m) (n := []) (fun x _ => by rw [h1 x, lcs_nil]; omega)
    have e2 := dt_one (c := c) (cr := []) (u := W C.length) (fun j hj => by simp at hj) [] C ((List.range C.length).map O) hz
    rw [List.append_nil, List.append_nil] at e2
    rw [e2] at e1
    intro h0
    rw [h0, Int.mul_zero] at e1
    exact Int.mul_ne_zero hq (Int.mul_ne_zero (sgn_ne _) (Int.mul_ne_zero hc h.det)) e1
/-- Each row of the work lies on the line of a list of minors. -/
theorem EI.line {W O : Nat → Vc} {n k : Nat} {C : List Nat} (h : EI W O n C) (hk : k < n) :
    ∃ (a b : Int) (cs : List Nat) (R : List Nat), a ≠ 0 ∧ b ≠ 0 ∧ (∀ j, a * W k j = b * dt (j :: cs) (R.map O)) ∧ (R = List.range C.length ∧ k < C.length ∨ C.length ≤ k ∧ R = List.range C.length ++ [k]) := by
  by_cases hkt : k < C.length
  · obtain ⟨⟨q, m, hq, hm, h1⟩, hz, hnz⟩ := h.piv k hkt
    rw [List.length_map, List.length_range] at hm
    have hex : ∃ μ ∈ m, μ ≠ 0 := by
      apply Classical.byContradiction
      intro hno
      have hall : ∀ (m : List Int) (I : List Vc) (j : Nat), (∀ μ ∈ m, μ = 0) → lcs m I j = 0 := by
        intro m
        induction m with
        | nil => intro I j _; exact lcs_nil _ _
        | cons a m ih =>
          intro I j hm
          cases I with
          | nil => exact lcs_nil_r _ _
          | cons r I => rw [lcs_cons, ih I j (fun μ hμ => hm μ (List.mem_cons_of_mem _ hμ)), hm a (List.mem_cons_self ..)]; omega
      have e := h1 C[k]
      rw [hall m _ _ (fun μ hμ => Classical.byContradiction fun hne => hno ⟨μ, hμ, hne⟩)] at e
      exact Int.mul_ne_zero hq hnz e
    obtain ⟨μ, hμm, hμ⟩ := hex
    obtain ⟨m1, m2, rfl⟩ := List.append_of_mem hμm
    have hl1 : m1.length < C.length := by simp at hm; omega
    have hsp : (List.range C.length).map O = ((List.range C.length).take m1.length).map O ++ O m1.length :: ((List.range C.length).drop (m1.length + 1)).map O := by
      rw [← List.map_cons, ← List.map_append]
      congr 1
      conv => lhs; rw [← List.take_append_drop m1.length (List.range C.length)]
      congr 1
      rw [List.drop_eq_getElem_cons (by simpa using hl1)]
      simp
    have hput : ∀ cs, q * dt cs (((List.range C.length).take m1.length).map O ++ W k :: ((List.range C.length).drop (m1.length + 1)).map O) = μ * dt cs ((List.range C.length).map O) := fun cs => by
      rw [hsp]
      refine dt_put (m := m1) (n := m2) fun x _ => ?_
      rw [h1 x, hsp, lcs_app _ _ (by simp; omega), lcs_cons]; omega
    have hC : C = C.take k ++ C[k] :: C.drop (k + 1) := by
      conv => lhs; rw [← List.take_append_drop k C]
      congr 1
      exact List.drop_eq_getElem_cons hkt
    have z1 : ∀ j ∈ C.take k, W k j = 0 := fun j hj => by
      obtain ⟨i, hi, rfl⟩ := List.mem_iff_getElem.1 hj
      rw [List.length_take] at hi
      rw [List.getElem_take]
      exact hz i (by omega) (by omega)
    have z2 : ∀ j ∈ C.drop (k + 1), W k j = 0 := fun j hj => by
      obtain ⟨i, hi, rfl⟩ := List.mem_iff_getElem.1 hj
      rw [List.length_drop] at hi
      rw [List.getElem_drop]
      exact hz _ (by omega) (by omega)
    have hD := hput C
    have hone := dt_one (c := C[k]) (cr := C.drop (k + 1)) (u := W k) z2 (((List.range C.length).drop (m1.length + 1)).map O) (C.take k) (((List.range C.length).take m1.length).map O) z1
    rw [← hC] at hone
    rw [hone] at hD
    have hΔ : dt (C.take k ++ C.drop (k + 1)) (((List.range C.length).take m1.length).map O ++ ((List.range C.length).drop (m1.length + 1)).map O) ≠ 0 := fun h0 => by
      rw [h0, Int.mul_zero, Int.mul_zero, Int.mul_zero] at hD
      exact Int.mul_ne_zero hμ h.det hD.symm
    refine ⟨q * (sgn ((((List.range C.length).take m1.length).map O).length + ([] : List Nat).length) * dt (C.take k ++ C.drop (k + 1)) (((List.range C.length).take m1.length).map O ++ ((List.range C.length).drop (m1.length + 1)).map O)), μ, C.take k ++ C.drop (k + 1), List.range C.length,
      Int.mul_ne_zero hq (Int.mul_ne_zero (sgn_ne _) hΔ), hμ, fun j => ?_, .inl ⟨rfl, hkt⟩⟩
    rw [← hput (j :: (C.take k ++ C.drop (k + 1)))]
    have hone2 := dt_one (c := j) (cr := C.take k ++ C.drop (k + 1)) (u := W k) (fun x hx => by
      rcases List.mem_append.1 hx with hx | hx
      · exact z1 x hx
      · exact z2 x hx) (((List.range C.length).drop (m1.length + 1)).map O) [] (((List.range C.length).take m1.length).map O) (fun x hx => by simp at hx)
    rw [List.nil_append, List.nil_append] at hone2
    rw [hone2]
    simp only [Int.mul_assoc]
    congr 2
    exact Int.mul_comm _ _
  · obtain ⟨⟨q, μ, m, hq, hμ, hm, h1⟩, hz⟩ := h.non k (by omega) hk
    refine ⟨q * (sgn (((List.range C.length).map O).length + ([] : List Nat).length) * dt C ((List.range C.length).map O)), μ, C, List.range C.length ++ [k], Int.mul_ne_zero hq (Int.mul_ne_zero (sgn_ne _) h.det), hμ, fun j => ?_, .inr ⟨by omega, rfl⟩⟩
    have e1 := dt_put (cs := j :: C) (pre := (List.range C.length).map O) (post := []) (x := O k) (w := W k) (a := μ) (b := q) (m := m) (n := []) (fun x _ => by rw [h1 x, lcs_nil]; omega)
    have e2 := dt_one (c := j) (cr := C) (u := W k) hz [] [] ((List.range C.length).map O) (fun x hx => by simp at hx)
    rw [List.nil_append, List.nil_append, List.append_nil] at e2
    rw [List.map_append, List.map_cons, List.map_nil, ← e1, e2]
    simp only [Int.mul_assoc]
    congr 2
    exact Int.mul_comm _ _
end Go.Proofs.Ytfjdfnlkobeehaa
