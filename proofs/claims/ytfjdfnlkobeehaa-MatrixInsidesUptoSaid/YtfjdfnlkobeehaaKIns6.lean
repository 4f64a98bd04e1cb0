/- The statement MatrixInsides holds of the given program in its second form: for all rows, columns and rows of numbers, where what they hold is bounded, the law answers true. Its conditions are those of the given statement, and no others. -/
import Derived.Test.YtfjdfnlkobeehaaKIns5
section
set_option maxRecDepth 100000
set_option linter.unusedVariables false
set_option linter.unusedSimpArgs false
namespace Go.Proofs.Ytfjdfnlkobeehaa

theorem combZ_z {a b : Int} {i j : Nat} : ∀ {z p : List Int}, Z j a → Z i b → (∀ x ∈ z, Z i x) → (∀ x ∈ p, Z j x) → ∀ x ∈ combZ a b z p, Z (i + j + 1) x
  | [], _, _, _, _, _ => fun x hx => by simp [combZ] at hx
  | _ :: _, [], _, _, _, _ => fun x hx => by simp [combZ] at hx
  | z :: zs, p :: ps, ha, hb, hz, hp => fun x hx => by
    have e : combZ a b (z :: zs) (p :: ps) = (a * z - b * p) :: combZ a b zs ps := rfl
    rw [e] at hx
    rcases List.mem_cons.1 hx with rfl | hx
    · have h1 := ha.mul (hz z (List.mem_cons_self ..))
      rw [Nat.add_comm] at h1
      exact h1.sub (hb.mul (hp p (List.mem_cons_self ..)))
    · exact combZ_z ha hb (fun y hy => hz y (List.mem_cons_of_mem _ hy)) (fun y hy => hp y (List.mem_cons_of_mem _ hy)) x hx
theorem vc_z {z : List Int} {k : Nat} (h : ∀ x ∈ z, Z k x) (j : Nat) : Z k (vc z j) := by
  by_cases hj : j < z.length
  · rw [vc_lt hj]; exact h _ (List.getElem_mem hj)
  · rw [vc_ge (by omega)]; exact Z.zero k
theorem clearZ_z {z p : List Int} {i j c : Nat} (hz : ∀ x ∈ z, Z i x) (hp : ∀ x ∈ p, Z j x) : ∀ x ∈ clearZ z p c, Z (i + j + 1) x := by
  intro x hx
  unfold clearZ at hx
  split at hx
  · exact (hz x hx).mono (by omega)
  · obtain ⟨y, hy, rfl⟩ := List.mem_map.1 hx
    exact (combZ_z (vc_z hp c).div (vc_z hz c).div hz hp y hy).div

def insW (T : List (List Int)) (Pv : List Nat) (v : List Int) : Nat → List Int
  | 0 => v
  | k + 1 => clearZ (insW T Pv v k) (T.getD k []) (Pv.getD k 0)
def insB (T : List (List Int)) (Pv : List Nat) (v : List Int) : Bool := zeroB (insW T Pv v Pv.length)
section
variable {e : List (List (Bool × List Nat))} {Pv : List Nat} {v : List (Bool × List Nat)} {cols j k : Nat}
theorem getD_vals {i : Nat} (h : i < e.length) : (e.map vals).getD i [] = vals (e.getD i []) := by simp [h]
theorem einside_calls (he : ∀ l ∈ e, Rn l j ∧ l.length = cols) (hPv : Pv.length = e.length) (hPc : ∀ c ∈ Pv, c < cols) (hv : Rn v k) (hvl : v.length = cols) (hcols : cols ≤ 1000000) (hn : Pv.length ≤ 1000000)
    (hk : 2 * (k + Pv.length * (j + 1) + j) + 1 ≤ 1000000) :
    PT Try.prog 62 [SM e, .sl Pv.length (Pv.map Ref.I), SW v] (isV (.val (.bool (insB (e.map vals) Pv (vals v))))) := by
  refine PCalls.enter (n := 26) (rs := [.tmp 6]) (tb := []) Try.func62 rfl rfl rfl (by kernel_rfl) (by kernel_rfl) (by simp) fun c hc ht => ?_
  simp -implicitDefEqProofs (disch := omega) only [go_sem, ht, eq_self]
  refine LW.loopW hc ht (by kernel_rfl) (fun t => t.sl 0 = .sl e.length (e.map SW) ∧ t.sl 9 = .sl Pv.length (Pv.map Ref.I) ∧ t.sl 10 = .val (.int .i64 Pv.length) ∧ ∃ i : Nat, i ≤ Pv.length ∧ t.sl 11 = .val (.int .i64 i) ∧
      ∃ l : List (Bool × List Nat), t.sl 2 = .sl l.length (SWc l) ∧ l.length = cols ∧ vals l = insW (e.map vals) Pv (vals v) i ∧ Rn l (k + i * (j + 1)))
    (fun t => match t.sl 11 with | .val (.int _ x) => Pv.length - x.toNat | _ => 0) ?_ ?_
  · simp -implicitDefEqProofs (disch := omega) only [go_sem, ht, eq_self]
    exact ⟨0, Nat.zero_le _, rfl, v, rfl, hvl, rfl, by simpa using hv⟩
  · rintro t ⟨h0, h9, h10, i, hi, h11, l, h2, hll, hvals, hl⟩
    by_cases hil : i = Pv.length
    · subst hil
      have hz := zero_calls hl (by omega)
      rw [hvals] at hz
      change PT _ _ _ (isV (.val (.bool (insB (e.map vals) Pv (vals v))))) at hz
      simp -implicitDefEqProofs (disch := omega) only [go_sem, ht, h0, h9, h10, h11, h2, eq_self]
      (refine pCall_view (by simp -implicitDefEqProofs (disch := omega) only [h2, go_sem, ht, eq_self] <;> rfl) (by simp -implicitDefEqProofs (disch := omega) only [h2, go_sem, ht, eq_self]) (by first | (apply Or.inl; simp -implicitDefEqProofs (disch := omega) only [h2, go_sem, ht, eq_self]; done) | (apply Or.inr; rintro r rfl; rfl)) (hz) ?_; rintro _ nx - rfl hnx; (try simp only [put_nx, withH_nx, begP_nx] at hnx); simp -implicitDefEqProofs (disch := omega) only [h2, go_sem, ht, eq_self])
      (refine end_treeW 0 ?_; simp -implicitDefEqProofs (disch := omega) only [go_sem, ht, eq_self])
    · have hlt : i < Pv.length := by omega
      have hge := get_SM' (m := e) (show i < e.length by omega)
      have hgp : (Pv.map Ref.I)[i]? = some (.val (.int .i64 (Pv.getD i 0 : Nat))) := by simp [hlt, Ref.I]
      have hpc : Pv.getD i 0 < cols := hPc _ (getD_mem hlt)
      obtain ⟨r1, r2⟩ := he _ (getD_mem (d := []) (show i < e.length by omega))
      have hsz : i * (j + 1) + (j + 1) ≤ Pv.length * (j + 1) := by
        have := Nat.mul_le_mul_right (j + 1) (show i + 1 ≤ Pv.length from hlt)
        rw [Nat.succ_mul] at this
        exact this
      have hcl := clear_calls (c := Pv.getD i 0) (k := k + i * (j + 1) + j) (l := l) (p := e.getD i []) ⟨fun q hq => ⟨(hl.ok q hq).1, by have := (hl.ok q hq).2; omega⟩, by omega⟩ ⟨fun q hq => ⟨(r1.ok q hq).1, by have := (r1.ok q hq).2; omega⟩, by omega⟩ (by omega) (by omega) (by omega) (by omega)
      have hst : insW (e.map vals) Pv (vals v) (i + 1) = clearZ (vals l) (vals (e.getD i [])) (Pv.getD i 0) := by
        rw [hvals, ← getD_vals (show i < e.length by omega)]; rfl
      have hnew : ∃ l' : List (Bool × List Nat), (if vc (vals l) (Pv.getD i 0) = 0 then l else CZ (clearZ (vals l) (vals (e.getD i [])) (Pv.getD i 0))) = l' ∧ l'.length = cols ∧ vals l' = insW (e.map vals) Pv (vals v) (i + 1) ∧ Rn l' (k + (i + 1) * (j + 1)) := by
        refine ⟨_, rfl, ?_⟩
        have hs2 : k + (i + 1) * (j + 1) = k + i * (j + 1) + j + 1 := by rw [Nat.succ_mul]; omega
        split
        · rename_i h0
          refine ⟨hll, by rw [hst, clearZ, if_pos h0], ⟨fun q hq => ⟨(hl.ok q hq).1, by have := (hl.ok q hq).2; omega⟩, by omega⟩⟩
        · refine ⟨by rw [CZ_len, clearZ_len (by rw [vals_len, vals_len]; omega), vals_len]; exact hll, by rw [vals_CZ, hst], ?_⟩
          rw [hs2]
          exact .C (clearZ_z hl.z r1.z) (by omega)
      obtain ⟨l', e', g1, g2, g3⟩ := hnew
      rw [e'] at hcl
      rw [SW_def, SW_def, r2] at hcl
      rw [SW_def, r2] at hge
      generalize e.getD i [] = p at *
      generalize Pv.getD i 0 = c at *
      simp -implicitDefEqProofs (disch := omega) only [go_sem, ht, h0, h9, h10, h11, h2, hge, hgp, eq_self]
      (refine pCall_view (by simp -implicitDefEqProofs (disch := omega) only [h0, h9, h10, h11, h2, hge, hgp, go_sem, ht, eq_self] <;> rfl) (by simp -implicitDefEqProofs (disch := omega) only [h0, h9, h10, h11, h2, hge, hgp, go_sem, ht, eq_self]) (by first | (apply Or.inl; simp -implicitDefEqProofs (disch := omega) only [h0, h9, h10, h11, h2, hge, hgp, go_sem, ht, eq_self]; done) | (apply Or.inr; rintro r rfl; rfl)) (hcl) ?_; rintro _ nx - rfl hnx; (try simp only [put_nx, withH_nx, begP_nx] at hnx); simp -implicitDefEqProofs (disch := omega) only [h0, h9, h10, h11, h2, hge, hgp, go_sem, ht, eq_self])
      exact ⟨⟨i + 1, by omega, rfl, l', rfl, g1, g2, g3⟩, by omega⟩
end
end Go.Proofs.Ytfjdfnlkobeehaa

namespace Go.Proofs.Ytfjdfnlkobeehaa


def lcP (T : List (List Int)) (Pv : List Nat) : Nat → Int
  | 0 => 1
  | i + 1 => lcP T Pv i * (vc (T.getD i []) (Pv.getD i 0) / (Int.gcd (lcP T Pv i) (vc (T.getD i []) (Pv.getD i 0)) : Nat))

end Go.Proofs.Ytfjdfnlkobeehaa

namespace Go.Proofs.Ytfjdfnlkobeehaa


theorem map_vals_CZ (W : List (List Int)) : (W.map CZ).map vals = W := by
  rw [List.map_map]
  conv => rhs; rw [← List.map_id W]
  exact List.map_congr_left fun z _ => vals_CZ z
end Go.Proofs.Ytfjdfnlkobeehaa

namespace Go.Proofs.Ytfjdfnlkobeehaa

theorem sub_len : ∀ {l m : List Nat}, l.Nodup → (∀ x ∈ l, x ∈ m) → l.length ≤ m.length
  | [], _, _, _ => Nat.zero_le _
  | x :: l, m, hn, hs => by
    rw [List.nodup_cons] at hn
    have hx := hs x (List.mem_cons_self ..)
    have h1 := sub_len (l := l) (m := m.erase x) hn.2 fun y hy => (List.mem_erase_of_ne (by rintro rfl; exact hn.1 hy)).2 (hs y (List.mem_cons_of_mem _ hy))
    rw [List.length_erase_of_mem hx] at h1
    have := List.length_pos_of_mem hx
    simp only [List.length_cons]
    omega
theorem sub_eq {l m : List Nat} (hn : l.Nodup) (hs : ∀ x ∈ l, x ∈ m) (hl : l.length = m.length) : ∀ y ∈ m, y ∈ l := by
  intro y hy
  apply Classical.byContradiction
  intro hno
  have h1 := sub_len (l := l) (m := m.erase y) hn fun x hx => (List.mem_erase_of_ne (by rintro rfl; exact hno hx)).2 (hs x hx)
  rw [List.length_erase_of_mem hy] at h1
  have := List.length_pos_of_mem hy
  omega
theorem inc_nodup {l : List Nat} (h : ∀ i j (hi : i < l.length) (hj : j < l.length), i < j → l[i] < l[j]) : l.Nodup := by
  rw [List.Nodup, List.pairwise_iff_getElem]
  intro i j hi hj hij e
  have := h i j hi hj hij
  omega
section
variable {T T' : List (List Int)} {Pv Pv' : List Nat} {cols : Nat}
theorem RE.all (h : RE T Pv cols) (h' : RE T' Pv' cols) (hs : ∀ r, rowsOf T r → Sp (rowsOf T') r) (hl : Pv'.length ≤ Pv.length) : ∀ c ∈ Pv', c ∈ Pv := by
  have h1 : ∀ c ∈ Pv, c ∈ Pv' := by
    intro c hc
    obtain ⟨i, hi, rfl⟩ := List.mem_iff_getElem.1 hc
    refine h'.first (hs _ ⟨i, by rw [h.len]; exact hi, rfl⟩) ?_ (h.lead i hi)
    have := h.pos i hi
    omega
  have h2 := sub_len (inc_nodup h.inc) h1
  exact sub_eq (inc_nodup h.inc) h1 (by omega)

end
end Go.Proofs.Ytfjdfnlkobeehaa

namespace Go.Proofs.Ytfjdfnlkobeehaa

structure EP (rows : List (List Int)) (n cols : Nat) (s : List (List Int) × List Nat) : Prop where
  len : s.1.length = n
  row : ∀ k, k < n → (s.1.getD k []).length = cols
  st : ∃ (O : Nat → Vc) (σ : Nat → Nat), EI (fun k => vc (s.1.getD k [])) O n s.2 ∧ (∀ k, k < n → σ k < n ∧ O k = vc (rows.getD (σ k) [])) ∧ ∀ a b, a < n → b < n → σ a = σ b → a = b
theorem EP.start {rows : List (List Int)} {cols : Nat} (hc : ∀ z ∈ rows, z.length = cols) : EP rows rows.length cols (rows.map primZ, []) := by
  have h0 := EZ.start (β := 2) (B := sz (fun k => ((rows.map fun z => (z.map Int.natAbs).sum).sum)) rows.length) (rows := rows) (κ := fun k => ((rows.map fun z => (z.map Int.natAbs).sum).sum)) hc (fun k hk x hx => by
    have h1 : ∀ (l : List Nat) (a : Nat), a ∈ l → a ≤ l.sum := fun l a ha => by
      induction l with
      | nil => simp at ha
      | cons b l ih =>
        rw [List.sum_cons]
        rcases List.mem_cons.1 ha with rfl | ha
        · omega
        · have := ih ha; omega
    have h2 := h1 _ _ (List.mem_map_of_mem (f := Int.natAbs) hx)
    have h3 := h1 _ _ (List.mem_map_of_mem (f := fun z => (z.map Int.natAbs).sum) (getD_mem (d := []) hk))
    have h4 := Nat.lt_two_pow_self (n := (rows.map fun z => (z.map Int.natAbs).sum).sum)
    omega) (Nat.le_refl _)
  have hg : ∀ k, k < rows.length → (rows.map primZ).getD k [] = primZ (rows.getD k []) := fun k hk => by simp [List.getD_eq_getElem?_getD, hk]
  refine ⟨h0.len, fun k hk => (h0.row k hk).1, fun k => vc (rows.getD k []), fun k => k, EI.start fun k hk => ?_, fun k hk => ⟨hk, rfl⟩, fun a b _ _ h => h⟩
  simp only [hg k hk]
  by_cases h0 : gcdL (rows.getD k []) = 0
  · refine ⟨1, by decide, fun j => ?_⟩
    have h2 := gcdL_zero.1 h0
    have h1 := primZ_vc (rows.getD k []) j
    rw [h0] at h1
    rw [← h1]
    by_cases hj : j < (primZ (rows.getD k [])).length
    · have hj' := hj
      rw [primZ_len] at hj'
      rw [vc_lt hj]
      simp only [primZ, List.getElem_map]
      rw [h2 _ (List.getElem_mem hj')]; simp
    · rw [vc_ge (by omega)]; simp
  · exact ⟨(gcdL (rows.getD k []) : Nat), by omega, fun j => primZ_vc _ j⟩
theorem EP.step {rows : List (List Int)} {n cols c : Nat} {s : List (List Int) × List Nat} (h : EP rows n cols s) : EP rows n cols (stepE c s) := by
  obtain ⟨O, σ, hE, hO, hinj⟩ := h.st
  rcases step_cases (c := c) h.len with ⟨e, hz⟩ | ⟨i, hi, hin, hne, eP, hl, hg⟩
  · rw [e]; exact h
  · have htn : s.2.length < n := by omega
    have hS := hE.swap hi hin
    refine ⟨hl, fun k hk => ?_, fun k => O (swp i s.2.length k), fun k => σ (swp i s.2.length k), ?_, fun k hk => hO _ (swp_bd hin htn hk), fun a b ha hb hab => ?_⟩
    · rw [hg k hk]
      split
      · exact h.row i hin
      · rw [clearZ_len (by rw [h.row _ (swp_bd hin htn hk), h.row i hin])]; exact h.row _ (swp_bd hin htn hk)
    · rw [eP]
      refine EI.clear hS htn (c := c) ?_ ?_ ?_
      · simp only [swp_t]; exact hne
      · simp only [hg _ htn, if_pos, swp_t]
      · intro k hk hkt
        simp only [hg k hk, if_neg hkt, swp_t]
        exact clearZ_line (by rw [h.row _ (swp_bd hin htn hk), h.row i hin]) hne
    · have := hinj _ _ (swp_bd hin htn ha) (swp_bd hin htn hb) hab
      have := congrArg (swp i s.2.length) this
      rwa [swp_swp, swp_swp] at this
theorem EP.all {rows : List (List Int)} {cols : Nat} (hc : ∀ z ∈ rows, z.length = cols) : ∀ c, EP rows rows.length cols (echW rows c)
  | 0 => .start hc
  | c + 1 => (EP.all hc c).step

end Go.Proofs.Ytfjdfnlkobeehaa

namespace Go.Proofs.Ytfjdfnlkobeehaa

end Go.Proofs.Ytfjdfnlkobeehaa

namespace Go.Proofs.Ytfjdfnlkobeehaa


structure KZ (m : List (List (Bool × List Nat))) (cols κ : Nat) : Prop where
  L : ∀ n, n ≤ (echW (m.map vals) cols).2.length → Z κ (lcP (echT (m.map vals) cols) (echW (m.map vals) cols).2 n)
  E : ∀ f i, i < (echW (m.map vals) cols).2.length → Z κ (lcP (echT (m.map vals) cols) (echW (m.map vals) cols).2 (echW (m.map vals) cols).2.length / vc ((echT (m.map vals) cols).getD i []) ((echW (m.map vals) cols).2.getD i 0) * vc ((echT (m.map vals) cols).getD i []) f)
theorem Mx.tle {m : List (List (Bool × List Nat))} {cols B : Nat} (h : Mx m B) (hc : ∀ l ∈ m, l.length = cols) : (echW (m.map vals) cols).2.length ≤ m.length := by
  obtain ⟨O, κ, hI, _⟩ := ((h.ez hc).1 cols).st
  exact hI.tle
def mIns (m : List (List (Bool × List Nat))) (c : Int) (v : List (Bool × List Nat)) : Bool × Int :=
  if wrongM m c || decide ((v.length : Int) ≠ c) then (false, 1) else (insB (echT (m.map vals) c.toNat) (echW (m.map vals) c.toNat).2 (vals v), 0)
section
variable {m : List (List (Bool × List Nat))} {cols B κ j k : Nat} {v : List (Bool × List Nat)}
theorem Mx.echRn (h : Mx m B) (hc : ∀ l ∈ m, l.length = cols) (hj : ∀ z ∈ echT (m.map vals) cols, ∀ x ∈ z, Z j x) (hj1 : j ≤ 1000000) : ∀ l ∈ (echT (m.map vals) cols).map CZ, Rn l j ∧ l.length = cols := by
  intro l hl
  obtain ⟨z, hz, rfl⟩ := List.mem_map.1 hl
  refine ⟨.C (hj z hz) hj1, ?_⟩
  rw [CZ_len]
  obtain ⟨i, hi, rfl⟩ := mem_getD (d := []) hz
  exact ((h.rr hc).row i hi).1
theorem Mx.echZ (h : Mx m B) (hc : ∀ l ∈ m, l.length = cols) : ∀ z ∈ echT (m.map vals) cols, ∀ x ∈ z, Z (B + 1) x := by
  intro z hz
  obtain ⟨i, hi, rfl⟩ := mem_getD (d := []) hz
  exact ((h.rr hc).row i hi).2
theorem mins_calls (h : Mx m B) {cn : Int} (hv : Rn v k) (hvl : v.length ≤ 1000000) (hj : ∀ n : Nat, cn = n → n ≤ 32 → (∀ l ∈ m, l.length = n) → ∀ z ∈ echT (m.map vals) n, ∀ x ∈ z, Z j x) (hsz : 2 * (k + 64 * (j + 1) + j) + 1 ≤ 1000000) :
    PT Try.prog 27 [SM m, .val (.int .i64 cn), SW v] (isV (.tup [.val (.bool (mIns m cn v).1), .val (.int .i64 (mIns m cn v).2)])) := by
  have hw := wrong_calls (m := m) (cn := cn)
  unfold mIns
  by_cases hb : wrongM m cn = true
  · rw [hb] at hw
    rw [hb, Bool.true_or, if_pos rfl]
    refine PCalls.enter (n := 29) (rs := [.tmp 6, .tmp 7]) (tb := []) Try.func27 rfl rfl rfl (by kernel_rfl) (by kernel_rfl) (by simp) fun c hc ht => ?_
    simp -implicitDefEqProofs (disch := omega) only [go_sem, ht, eq_self]
    (refine pCall_view (by simp -implicitDefEqProofs (disch := omega) only [go_sem, ht, eq_self] <;> rfl) (by simp -implicitDefEqProofs (disch := omega) only [go_sem, ht, eq_self]) (by first | (apply Or.inl; simp -implicitDefEqProofs (disch := omega) only [go_sem, ht, eq_self]; done) | (apply Or.inr; rintro r rfl; rfl)) (hw) ?_; rintro _ nx - rfl hnx; (try simp only [put_nx, withH_nx, begP_nx] at hnx); simp -implicitDefEqProofs (disch := omega) only [go_sem, ht, eq_self])
    (refine end_treeW 0 ?_; simp -implicitDefEqProofs (disch := omega) only [go_sem, ht, eq_self])
  · have hb' : wrongM m cn = false := by simpa using hb
    obtain ⟨n, rfl, hn, hml, hlc⟩ := wrongM_false hb'
    rw [hb'] at hw
    rw [hb', Bool.false_or]
    by_cases hvn : v.length = n
    · rw [if_neg (by simp [hvn])]
      have he := h.ech hlc (by omega) (by omega)
      obtain ⟨hRE, _, _⟩ := echT_RE h hlc
      have htle := h.tle hlc
      have h5 := Nat.mul_le_mul_right (j + 1) (show (echW (m.map vals) n).2.length ≤ 64 by omega)
      have hin := einside_calls (h.echRn hlc (hj n rfl hn hlc) (by omega)) (by rw [List.length_map]; exact hRE.len.symm) hRE.col hv hvn (by omega) (by omega) (by omega)
      rw [map_vals_CZ] at hin
      rw [Int.toNat_natCast]
      generalize insB (echT (m.map vals) n) (echW (m.map vals) n).2 (vals v) = b at *
      generalize (echT (m.map vals) n).map CZ = m1 at *
      generalize (echW (m.map vals) n).2 = Pv at *
      refine PCalls.enter (n := 29) (rs := [.tmp 6, .tmp 7]) (tb := []) Try.func27 rfl rfl rfl (by kernel_rfl) (by kernel_rfl) (by simp) fun c hc ht => ?_
      simp -implicitDefEqProofs (disch := omega) only [go_sem, ht, hvn, eq_self]
      ((refine pCall_view (by simp -implicitDefEqProofs (disch := omega) only [hvn, go_sem, ht, eq_self] <;> rfl) (by simp -implicitDefEqProofs (disch := omega) only [hvn, go_sem, ht, eq_self]) (by first | (apply Or.inl; simp -implicitDefEqProofs (disch := omega) only [hvn, go_sem, ht, eq_self]; done) | (apply Or.inr; rintro r rfl; rfl)) (hw) ?_; rintro _ nx_11 - rfl hnx_11; (try simp only [put_nx, withH_nx, begP_nx] at hnx_11); simp -implicitDefEqProofs (disch := omega) only [hvn, go_sem, ht, eq_self]); (refine pCall_view (by simp -implicitDefEqProofs (disch := omega) only [hvn, go_sem, ht, eq_self] <;> rfl) (by simp -implicitDefEqProofs (disch := omega) only [hvn, go_sem, ht, eq_self]) (by first | (apply Or.inl; simp -implicitDefEqProofs (disch := omega) only [hvn, go_sem, ht, eq_self]; done) | (apply Or.inr; rintro r rfl; rfl)) (he) ?_; rintro _ nx_12 - rfl hnx_12; (try simp only [put_nx, withH_nx, begP_nx] at hnx_12); simp -implicitDefEqProofs (disch := omega) only [hvn, go_sem, ht, eq_self]); (refine pCall_view (by simp -implicitDefEqProofs (disch := omega) only [hvn, go_sem, ht, eq_self] <;> rfl) (by simp -implicitDefEqProofs (disch := omega) only [hvn, go_sem, ht, eq_self]) (by first | (apply Or.inl; simp -implicitDefEqProofs (disch := omega) only [hvn, go_sem, ht, eq_self]; done) | (apply Or.inr; rintro r rfl; rfl)) (hin) ?_; rintro _ nx_13 - rfl hnx_13; (try simp only [put_nx, withH_nx, begP_nx] at hnx_13); simp -implicitDefEqProofs (disch := omega) only [hvn, go_sem, ht, eq_self]))
      (refine end_treeW 0 ?_; simp -implicitDefEqProofs (disch := omega) only [go_sem, ht, eq_self])
    · rw [if_pos (by simp; omega)]
      refine PCalls.enter (n := 29) (rs := [.tmp 6, .tmp 7]) (tb := []) Try.func27 rfl rfl rfl (by kernel_rfl) (by kernel_rfl) (by simp) fun c hc ht => ?_
      simp -implicitDefEqProofs (disch := omega) only [go_sem, ht, eq_self]
      (refine pCall_view (by simp -implicitDefEqProofs (disch := omega) only [go_sem, ht, eq_self] <;> rfl) (by simp -implicitDefEqProofs (disch := omega) only [go_sem, ht, eq_self]) (by first | (apply Or.inl; simp -implicitDefEqProofs (disch := omega) only [go_sem, ht, eq_self]; done) | (apply Or.inr; rintro r rfl; rfl)) (hw) ?_; rintro _ nx - rfl hnx; (try simp only [put_nx, withH_nx, begP_nx] at hnx); simp -implicitDefEqProofs (disch := omega) only [go_sem, ht, eq_self])
      (refine end_treeW 0 ?_; simp -implicitDefEqProofs (disch := omega) only [go_sem, ht, eq_self])
end
end Go.Proofs.Ytfjdfnlkobeehaa

namespace Go.Proofs.Ytfjdfnlkobeehaa

end Go.Proofs.Ytfjdfnlkobeehaa

namespace Go.Proofs.Ytfjdfnlkobeehaa

section
variable {m : List (List (Bool × List Nat))} {T : List (List Int)} {Pv : List Nat} {cols B κ : Nat}

theorem RE.own (h : RE T Pv cols) (hM : Mx (T.map CZ) B) : echT T cols = T ∧ (echW T cols).2 = Pv := by
  have hc : ∀ l ∈ T.map CZ, l.length = cols := fun l hl => by
    obtain ⟨z, hz, rfl⟩ := List.mem_map.1 hl
    rw [CZ_len]
    obtain ⟨i, hi, rfl⟩ := mem_getD (d := []) hz
    exact h.row i hi
  obtain ⟨a1, a2, a3⟩ := echT_RE hM hc
  rw [map_vals_CZ] at a1 a2 a3
  exact a1.uniq h a2 a3
theorem RE.mx (h : RE T Pv cols) (hcols : cols ≤ 32) (hz : ∀ z ∈ T, ∀ x ∈ z, Z 32 x) : Mx (T.map CZ) 40000 ∧ (∀ l ∈ T.map CZ, l.length = cols) ∧ T.length ≤ 32 := by
  have hl : T.length ≤ 32 := by
    have h1 := sub_len (l := Pv) (m := List.range cols) (inc_nodup h.inc) fun x hx => List.mem_range.2 (h.col x hx)
    rw [List.length_range] at h1
    have := h.len
    omega
  have hr : ∀ z ∈ T, z.length = cols := fun z hz => by
    obtain ⟨i, hi, rfl⟩ := mem_getD (d := []) hz
    exact h.row i hi
  refine ⟨.C (k := 32) (cols := cols) (fun z hzm => ⟨by rw [hr z hzm]; omega, hz z hzm⟩) ?_ (by omega), fun l hl => ?_, hl⟩
  · have h1 : cols * (32 + 1) ≤ 32 * 33 := Nat.mul_le_mul_right _ hcols
    have h2 : T.length * (1 + cols * (32 + 1)) ≤ 32 * (1 + 32 * 33) := Nat.mul_le_mul hl (by omega)
    omega
  · obtain ⟨z, hz, rfl⟩ := List.mem_map.1 hl
    rw [CZ_len]; exact hr z hz

end
end Go.Proofs.Ytfjdfnlkobeehaa
end

section
set_option linter.unusedVariables false
set_option linter.unusedSimpArgs false
namespace Go.Proofs.Ytfjdfnlkobeehaa


def mulL (t : Int) (z : List Int) : List Int := z.map (t * ·)
theorem mulL_one (z : List Int) : mulL 1 z = z := by simp [mulL]
theorem mulL_neg (z : List Int) : z.map (- ·) = mulL (-1) z := by simp [mulL]
theorem mulL_mulL (s t : Int) (z : List Int) : mulL s (mulL t z) = mulL (s * t) z := by simp [mulL, Int.mul_assoc]
theorem mulL_len (t : Int) (z : List Int) : (mulL t z).length = z.length := by simp [mulL]
theorem mulL_vc (t : Int) (z : List Int) (j : Nat) : vc (mulL t z) j = t * vc z j := by
  by_cases h : j < z.length
  · rw [vc_lt (by rw [mulL_len]; exact h), vc_lt h]; simp [mulL]
  · rw [vc_ge (by rw [mulL_len]; omega), vc_ge (by omega), Int.mul_zero]
theorem upZ_mul (z : List Int) : ∃ s : Int, (s = 1 ∨ s = -1) ∧ upZ z = mulL s z := by
  rcases upZ_cases z with e | e
  · exact ⟨1, .inl rfl, by rw [e, mulL_one]⟩
  · exact ⟨-1, .inr rfl, by rw [e, mulL_neg]⟩
theorem gcdF_mul (t : Int) : ∀ (z : List Int) (g : Nat), gcdF (t.natAbs * g) (mulL t z) = t.natAbs * gcdF g z
  | [], _ => rfl
  | x :: z, g => by
    show gcdF (Nat.gcd (t.natAbs * g) (t * x).natAbs) (mulL t z) = _
    rw [Int.natAbs_mul, Nat.gcd_mul_left, gcdF_mul t z]; rfl
theorem gcdL_mul (t : Int) (z : List Int) : gcdL (mulL t z) = t.natAbs * gcdL z := by
  have := gcdF_mul t z 0
  rwa [Nat.mul_zero] at this
theorem cZ_mul {t x : Int} (ht : t ≠ 0) : cZ (t * x) 0 = cZ t 0 * cZ x 0 := by
  unfold cZ
  rcases Int.lt_or_gt_of_ne ht with h | h <;> rcases Int.lt_trichotomy x 0 with hx | hx | hx
  · have := Int.mul_pos_of_neg_of_neg h hx
    rw [if_neg (by omega), if_neg (by omega), if_pos h, if_pos hx]; rfl
  · subst hx; rw [Int.mul_zero]; simp
  · have := Int.mul_neg_of_neg_of_pos h hx
    rw [if_pos this, if_pos h, if_neg (by omega), if_neg (by omega)]; rfl
  · have := Int.mul_neg_of_pos_of_neg h hx
    rw [if_pos this, if_neg (by omega), if_neg (by omega), if_pos hx]; rfl
  · subst hx; rw [Int.mul_zero]; simp
  · have := Int.mul_pos h hx
    rw [if_neg (by omega), if_neg (by omega), if_neg (by omega), if_neg (by omega), if_neg (by omega), if_neg (by omega)]; rfl
theorem cZ_zero {x : Int} : cZ x 0 = 0 ↔ x = 0 := by unfold cZ; split <;> (try split) <;> omega
theorem sgF_mul {t : Int} (ht : t ≠ 0) : ∀ (z : List Int) (g : Int), sgF (cZ t 0 * g) (mulL t z) = cZ t 0 * sgF g z
  | [], _ => rfl
  | x :: z, g => by
    show sgF (if cZ t 0 * g = 0 then cZ (t * x) 0 else cZ t 0 * g) (mulL t z) = cZ t 0 * sgF (if g = 0 then cZ x 0 else g) z
    have h0 : cZ t 0 ≠ 0 := fun h => ht (cZ_zero.1 h)
    by_cases hg : g = 0
    · subst hg
      rw [if_pos (Int.mul_zero _), if_pos rfl, cZ_mul ht]
      exact sgF_mul ht z _
    · rw [if_neg (Int.mul_ne_zero h0 hg), if_neg hg]
      exact sgF_mul ht z _
theorem sgF_mul0 {t : Int} (ht : t ≠ 0) (z : List Int) : sgF 0 (mulL t z) = cZ t 0 * sgF 0 z := by
  have := sgF_mul ht z 0
  rwa [Int.mul_zero] at this
theorem sgF_all : ∀ (z : List Int), sgF 0 z = 0 → ∀ x ∈ z, x = 0
  | [], _, x, hx => by simp at hx
  | y :: z, h, x, hx => by
    have h : sgF (cZ y 0) z = 0 := h
    by_cases hy : y = 0
    · subst hy
      rw [cZ_eq rfl] at h
      rcases List.mem_cons.1 hx with rfl | hx
      · rfl
      · exact sgF_all z h x hx
    · have h0 : cZ y 0 ≠ 0 := fun e => hy (cZ_zero.1 e)
      rw [sgF_zero h0] at h
      exact absurd h h0
theorem mulL_zeros {z : List Int} (h : ∀ x ∈ z, x = 0) (t : Int) : mulL t z = z := by
  unfold mulL
  conv => rhs; rw [← List.map_id z]
  exact List.map_congr_left fun x hx => by rw [h x hx, Int.mul_zero]; rfl
theorem upZ_neg (z : List Int) : upZ (mulL (-1) z) = upZ z := by
  have h := sgF_mul0 (t := -1) (by decide) z
  rw [show cZ (-1) 0 = -1 from rfl] at h
  unfold upZ
  rw [h, mulL_neg, mulL_neg, mulL_mulL]
  rcases Int.lt_trichotomy (sgF 0 z) 0 with hs | hs | hs
  · rw [if_neg (by omega), if_pos hs]
  · rw [if_neg (by omega), if_neg (by omega)]
    exact mulL_zeros (sgF_all z hs) _
  · rw [if_pos (by omega), if_neg (by omega)]
    exact mulL_one z

def canZ (z : List Int) : List Int := upZ (primZ z)
theorem canZ_len (z : List Int) : (canZ z).length = z.length := by rw [canZ, upZ_len, primZ_len]
theorem primZ_mul {t : Int} (ht : t ≠ 0) (z : List Int) : primZ (mulL t z) = mulL (cZ t 0) (primZ z) := by
  unfold primZ
  rw [gcdL_mul]
  simp only [mulL, List.map_map]
  refine List.map_congr_left fun x hx => ?_
  simp only [Function.comp]
  by_cases hg : gcdL z = 0
  · rw [hg]; simp
  obtain ⟨y, hy⟩ : ∃ y, x = (gcdL z : Int) * y := Int.ofNat_dvd_left.2 (gcdL_dvd hx)
  have hg0 : (gcdL z : Int) ≠ 0 := by omega
  rw [hy, Int.mul_ediv_cancel_left y hg0]
  have e : ((t.natAbs * gcdL z : Nat) : Int) = cZ t 0 * t * gcdL z := by
    rw [Int.natCast_mul]
    congr 1
    unfold cZ
    split
    · omega
    · first | omega | (rw [if_neg ht]; omega)
  have hs : cZ t 0 * cZ t 0 = 1 := by
    unfold cZ
    split
    · rfl
    · first | rfl | (rw [if_neg ht]; rfl)
  have e2 : t * ((gcdL z : Int) * y) = (cZ t 0 * t * gcdL z) * (cZ t 0 * y) := by
    have : (cZ t 0 * t * gcdL z) * (cZ t 0 * y) = (cZ t 0 * cZ t 0) * (t * ((gcdL z : Int) * y)) := by ac_rfl
    rw [this, hs, Int.one_mul]
  rw [e, e2]
  refine Int.mul_ediv_cancel_left _ ?_
  exact Int.mul_ne_zero (Int.mul_ne_zero (fun h => ht (cZ_zero.1 h)) ht) hg0
theorem canZ_mul {t : Int} (ht : t ≠ 0) (z : List Int) : canZ (mulL t z) = canZ z := by
  unfold canZ
  rw [primZ_mul ht]
  have : cZ t 0 = 1 ∨ cZ t 0 = -1 := by unfold cZ; split <;> (try split) <;> omega
  rcases this with e | e
  · rw [e, mulL_one]
  · rw [e, upZ_neg]
theorem combZ_mul {a b s t : Int} : ∀ {z p : List Int}, combZ (t * a) (s * b) (mulL s z) (mulL t p) = mulL (s * t) (combZ a b z p)
  | [], _ => by simp [combZ, mulL]
  | _ :: _, [] => by simp [combZ, mulL]
  | x :: z, y :: p => by
    have ih := combZ_mul (a := a) (b := b) (s := s) (t := t) (z := z) (p := p)
    show (t * a * (s * x) - s * b * (t * y)) :: combZ (t * a) (s * b) (mulL s z) (mulL t p) = (s * t * (a * x - b * y)) :: mulL (s * t) (combZ a b z p)
    rw [ih]
    congr 1
    rw [Int.mul_sub]
    congr 1 <;> ac_rfl
theorem combZ_fac {a b g : Int} : ∀ {z p : List Int}, combZ (g * a) (g * b) z p = mulL g (combZ a b z p)
  | [], _ => by simp [combZ, mulL]
  | _ :: _, [] => by simp [combZ, mulL]
  | x :: z, y :: p => by
    have ih := combZ_fac (a := a) (b := b) (g := g) (z := z) (p := p)
    show (g * a * x - g * b * y) :: combZ (g * a) (g * b) z p = (g * (a * x - b * y)) :: mulL g (combZ a b z p)
    rw [ih]
    congr 1
    rw [Int.mul_sub]
    congr 1 <;> ac_rfl

theorem join_clear {z p : List Int} {c : Nat} (h0 : vc z c ≠ 0) : canZ (combZ (vc p c) (vc z c) z p) = upZ (clearZ z p c) := by
  have hg : ((Int.gcd (vc z c) (vc p c) : Nat) : Int) ≠ 0 := by
    have := Int.gcd_pos_of_ne_zero_left (vc p c) h0
    omega
  have e1 : vc p c = ((Int.gcd (vc z c) (vc p c) : Nat) : Int) * (vc p c / ((Int.gcd (vc z c) (vc p c) : Nat) : Int)) := (Int.mul_ediv_cancel' (Int.gcd_dvd_right ..)).symm
  have e2 : vc z c = ((Int.gcd (vc z c) (vc p c) : Nat) : Int) * (vc z c / ((Int.gcd (vc z c) (vc p c) : Nat) : Int)) := (Int.mul_ediv_cancel' (Int.gcd_dvd_left ..)).symm
  rw [clearZ, if_neg h0]
  have e3 : combZ (vc p c) (vc z c) z p = mulL ((Int.gcd (vc z c) (vc p c) : Nat) : Int) (combZ (vc p c / ((Int.gcd (vc z c) (vc p c) : Nat) : Int)) (vc z c / ((Int.gcd (vc z c) (vc p c) : Nat) : Int)) z p) := by
    rw [← combZ_fac, ← e1, ← e2]
  rw [e3, canZ_mul hg]; rfl
theorem join_up {z p : List Int} {c : Nat} (h0 : vc z c ≠ 0) : canZ (combZ (vc (upZ p) c) (vc (upZ z) c) (upZ z) (upZ p)) = upZ (clearZ z p c) := by
  obtain ⟨s, hs, e⟩ := upZ_mul z
  obtain ⟨t, ht, e'⟩ := upZ_mul p
  rw [e, e', mulL_vc, mulL_vc, combZ_mul, canZ_mul (Int.mul_ne_zero (by omega) (by omega)), join_clear h0]
theorem up_vc0 {z : List Int} {c : Nat} : vc (upZ z) c = 0 ↔ vc z c = 0 := by
  obtain ⟨s, hs, e⟩ := upZ_mul z
  rw [e, mulL_vc]
  rcases hs with rfl | rfl <;> omega

def Ln (u v : List Int) : Prop := ∃ s t : Int, s ≠ 0 ∧ t ≠ 0 ∧ ∀ j, s * vc u j = t * vc v j
theorem Ln.refl (u : List Int) : Ln u u := ⟨1, 1, by decide, by decide, fun _ => rfl⟩
theorem Ln.symm {u v : List Int} (h : Ln u v) : Ln v u := by
  obtain ⟨s, t, h1, h2, h3⟩ := h
  exact ⟨t, s, h2, h1, fun j => (h3 j).symm⟩
theorem Ln.trans {u v w : List Int} (h : Ln u v) (h' : Ln v w) : Ln u w := by
  obtain ⟨s, t, h1, h2, h3⟩ := h
  obtain ⟨s', t', h1', h2', h3'⟩ := h'
  refine ⟨s' * s, t * t', Int.mul_ne_zero h1' h1, Int.mul_ne_zero h2 h2', fun j => ?_⟩
  rw [Int.mul_assoc, h3, ← Int.mul_assoc, Int.mul_comm s' t, Int.mul_assoc, h3', ← Int.mul_assoc]
theorem Ln.zero {u v : List Int} (h : Ln u v) (j : Nat) : vc u j = 0 ↔ vc v j = 0 := by
  obtain ⟨s, t, h1, h2, h3⟩ := h
  have := h3 j
  constructor
  · intro e; rw [e, Int.mul_zero] at this
    exact (Int.mul_eq_zero.1 this.symm).resolve_left h2
  · intro e; rw [e, Int.mul_zero] at this
    exact (Int.mul_eq_zero.1 this).resolve_left h1
theorem Ln.up (z : List Int) : Ln (upZ z) z := by
  obtain ⟨s, hs, e⟩ := upZ_mul z
  exact ⟨1, s, by decide, by omega, fun j => by rw [e, mulL_vc, Int.one_mul]⟩
theorem Ln.prim (z : List Int) : Ln (primZ z) z := by
  by_cases hg : gcdL z = 0
  · refine ⟨1, 1, by decide, by decide, fun j => ?_⟩
    have := primZ_vc z j
    rw [hg] at this
    have h0 := gcdL_zero.1 hg
    have hp : primZ z = z := by
      unfold primZ
      conv => rhs; rw [← List.map_id z]
      exact List.map_congr_left fun x hx => by rw [h0 x hx]; simp
    rw [hp]
  · exact ⟨gcdL z, 1, by omega, by decide, fun j => by rw [primZ_vc, Int.one_mul]⟩
theorem Ln.can (z : List Int) : Ln (canZ z) z := (Ln.up _).trans (.prim z)
theorem Ln.comb {u v p : List Int} {c : Nat} (h : Ln u v) (hu : u.length = p.length) (hv : v.length = p.length) : Ln (combZ (vc p c) (vc u c) u p) (combZ (vc p c) (vc v c) v p) := by
  obtain ⟨s, t, h1, h2, h3⟩ := h
  refine ⟨s, t, h1, h2, fun j => ?_⟩
  rw [combZ_vc hu, combZ_vc hv, Int.mul_sub, Int.mul_sub]
  have e1 := h3 j
  have e2 := h3 c
  congr 1
  · rw [Int.mul_left_comm, e1, Int.mul_left_comm]
  · rw [← Int.mul_assoc, e2, Int.mul_assoc]
theorem Ln.len0 {u v : List Int} (h : Ln u v) (hl : u.length = v.length) : zeroB u = zeroB v := by
  unfold zeroB
  rw [Bool.eq_iff_iff, decide_eq_true_iff, decide_eq_true_iff]
  have key : ∀ w : List Int, (∀ z ∈ w, z = 0) ↔ ∀ j, vc w j = 0 := fun w => by
    constructor
    · intro h j
      by_cases hj : j < w.length
      · rw [vc_lt hj]; exact h _ (List.getElem_mem hj)
      · exact vc_ge (by omega)
    · intro h z hz
      obtain ⟨i, hi, rfl⟩ := List.mem_iff_getElem.1 hz
      rw [← vc_lt hi]; exact h i
  rw [key, key]
  exact ⟨fun hu j => (h.zero j).1 (hu j), fun hv j => (h.zero j).2 (hv j)⟩

def insR (T : List (List Int)) (Pv : List Nat) (v : List Int) : Nat → List Int
  | 0 => v
  | k + 1 => if vc (insR T Pv v k) (Pv.getD k 0) = 0 then insR T Pv v k else canZ (combZ (vc (T.getD k []) (Pv.getD k 0)) (vc (insR T Pv v k) (Pv.getD k 0)) (insR T Pv v k) (T.getD k []))
theorem insR_ln {T : List (List Int)} {Pv : List Nat} {v : List Int} {cols : Nat} (hv : v.length = cols) (hT : ∀ k, k < Pv.length → (T.getD k []).length = cols) : ∀ k, k ≤ Pv.length → Ln (insR T Pv v k) (insW T Pv v k) ∧ (insR T Pv v k).length = cols ∧ (insW T Pv v k).length = cols
  | 0, _ => ⟨.refl v, hv, hv⟩
  | k + 1, hk => by
    obtain ⟨h1, h2, h3⟩ := insR_ln hv hT k (by omega)
    have hl := hT k (by omega)
    rw [insR, insW]
    by_cases h0 : vc (insR T Pv v k) (Pv.getD k 0) = 0
    · rw [if_pos h0, clearZ, if_pos ((h1.zero _).1 h0)]
      exact ⟨h1, h2, h3⟩
    · have h0' : vc (insW T Pv v k) (Pv.getD k 0) ≠ 0 := fun e => h0 ((h1.zero _).2 e)
      rw [if_neg h0]
      refine ⟨(Ln.can _).trans ((h1.comb (by omega) (by omega)).trans ((Ln.can _).symm.trans ?_)), by rw [canZ_len, combZ_len (by omega)]; exact h2, by rw [clearZ_len (by omega)]; exact h3⟩
      rw [join_clear h0']
      exact .up _
theorem insR_B {T : List (List Int)} {Pv : List Nat} {v : List Int} {cols : Nat} (hv : v.length = cols) (hT : ∀ k, k < Pv.length → (T.getD k []).length = cols) : zeroB (insR T Pv v Pv.length) = insB T Pv v := by
  obtain ⟨h1, h2, h3⟩ := insR_ln hv hT Pv.length (Nat.le_refl _)
  exact h1.len0 (by omega)
end Go.Proofs.Ytfjdfnlkobeehaa
end

section
set_option maxRecDepth 100000
set_option linter.unusedVariables false
set_option linter.unusedSimpArgs false
namespace Go.Proofs.Ytfjdfnlkobeehaa.Ref

section
variable {b d : Bool} {xs ys : List Nat} {x y : Int} {k : Nat}
theorem ofW (p : Wn b xs x k) : PT Try.prog 103 [WX b xs] (isV (NZ x)) := by
  have := p.len
  have := p.hk
  have h := of_z (b := b) p.ok.lm (by omega)
  rwa [p.val] at h





end
end Go.Proofs.Ytfjdfnlkobeehaa.Ref

namespace Go.Proofs.Ytfjdfnlkobeehaa.Ref


end Go.Proofs.Ytfjdfnlkobeehaa.Ref
end

section
set_option maxRecDepth 100000
set_option linter.unusedVariables false
set_option linter.unusedSimpArgs false
namespace Go.Proofs.Ytfjdfnlkobeehaa



end Go.Proofs.Ytfjdfnlkobeehaa

namespace Go.Proofs.Ytfjdfnlkobeehaa

end Go.Proofs.Ytfjdfnlkobeehaa
end

section
set_option maxRecDepth 100000
set_option linter.unusedVariables false
set_option linter.unusedSimpArgs false
namespace Go.Proofs.Ytfjdfnlkobeehaa


def FX (b : Bool) (xs ds : List Nat) : PV := .agg [.val (.bool b), SU xs, SU ds]
theorem FX_def (b : Bool) (xs ds : List Nat) : FX b xs ds = .agg [.val (.bool b), SU xs, SU ds] := rfl

def FV (b : Bool) (xs ds : List Nat) : Rat := mkRat (WV b xs) (V ds)

def FC (q : Rat) : PV := FX (decide (q.num < 0)) (D q.num.natAbs) (D q.den)
theorem FC_def (q : Rat) : FC q = .agg [.val (.bool (decide (q.num < 0))), SU (D q.num.natAbs), SU (D q.den)] := rfl
section
variable {α : Type} (a b c x y z : α)
theorem spl_333 : spl [a, b, c] 0 [x, y, z] = [x, y, z] := rfl
theorem spl_302 : spl [a, b, c] 0 [x, y] = [x, y, c] := rfl
theorem take_33 : [a, b, c].take 3 = [a, b, c] := rfl
theorem drop_32 : [a, b, c].drop 2 = [c] := rfl
theorem drop_31 : [a, b, c].drop 1 = [b, c] := rfl
theorem take_31 : [a, b, c].take 1 = [a] := rfl
end
attribute [go_sem] FX_def FC_def spl_333 spl_302 take_33 drop_32 drop_31 take_31
theorem size_calls {ds : List Nat} : PT Try.prog 85 [SU ds] (isV (WX false ds)) := by
  refine PCalls.enter (n := 5) (rs := [.cell 2 30]) (tb := []) Try.func85 rfl rfl rfl (by kernel_rfl) (by kernel_rfl) (by simp) fun c hc ht => ?_
  simp -implicitDefEqProofs (disch := omega) only [go_sem, ht, eq_self]
  (refine end_treeW 0 ?_; simp -implicitDefEqProofs (disch := omega) only [go_sem, ht, eq_self])
end Go.Proofs.Ytfjdfnlkobeehaa

namespace Go.Proofs.Ytfjdfnlkobeehaa


structure Zq (k : Nat) (q : Rat) : Prop where
  num : Z k q.num
  den : q.den < 4294967296 ^ k
theorem Zq.mono {k m : Nat} {q : Rat} (h : Zq k q) (hk : k ≤ m) : Zq m q := ⟨h.num.mono hk, lt_mono h.den hk⟩
theorem one_lt_pow {k : Nat} (h : 1 ≤ k) : 1 < 4294967296 ^ k := Nat.one_lt_pow (by omega) (by decide)
theorem Zq.of {k : Nat} {n : Int} {d : Nat} (hk : 1 ≤ k) (hn : Z k n) (hd : d < 4294967296 ^ k) : Zq k (mkRat n d) := by
  have h1 := one_lt_pow hk
  constructor
  · rw [Rat.num_mkRat]
    split
    · unfold Z; exact Nat.lt_trans (by decide) h1
    · exact Z.le hn (Int.natAbs_ediv_le_natAbs _ _)
  · rw [Rat.den_mkRat]
    split
    · exact h1
    · exact Nat.lt_of_le_of_lt (Nat.div_le_self _ _) hd

structure Fn (b : Bool) (xs ds : List Nat) (q : Rat) (k : Nat) : Prop where
  ox : Wn b xs (WV b xs) k
  od : Wn false ds (V ds : Nat) k
  val : FV b xs ds = q
  hk1 : 1 ≤ k
theorem Wn.N {n k : Nat} (h : n < 4294967296 ^ k) (hk : k ≤ 1000000) : Wn false (D n) n k :=
  ⟨.D h (by omega), by simp [WV, sg, V_D], h, D_len_le.2 h, hk⟩
theorem Fn.raw {b : Bool} {xs ds : List Nat} {k : Nat} (hx : Lm xs) (hd : Lm ds) (h1 : xs.length ≤ k) (h2 : ds.length ≤ k) (hk : k ≤ 1000000) (hk1 : 1 ≤ k) : Fn b xs ds (FV b xs ds) k :=
  ⟨.raw hx h1 hk, .raw (b := false) hd h2 hk, rfl, hk1⟩
section
variable {b d : Bool} {xs ds ys es : List Nat} {q p : Rat} {k m : Nat}
theorem Fn.zq (h : Fn b xs ds q k) : Zq k q := by
  rw [← h.val]
  exact .of h.hk1 h.ox.z h.od.z
theorem Fn.C (h : Zq k q) (hk : k ≤ 1000000) (hk1 : 1 ≤ k) : Fn (decide (q.num < 0)) (D q.num.natAbs) (D q.den) q k :=
  ⟨by rw [WV_C]; exact .C h.num hk, by rw [V_D]; exact .N h.den hk, by rw [FV, WV_C, V_D, Rat.mkRat_self], hk1⟩
theorem Fn.mono (h : Fn b xs ds q k) (hkm : k ≤ m) (hm : m ≤ 1000000) : Fn b xs ds q m := ⟨h.ox.mono hkm hm, h.od.mono hkm hm, h.val, Nat.le_trans h.hk1 hkm⟩
end
end Go.Proofs.Ytfjdfnlkobeehaa

namespace Go.Proofs.Ytfjdfnlkobeehaa


section
variable {b d : Bool} {xs ds ys es : List Nat} {q p : Rat} {k m : Nat}
theorem Zq.add (hq : Zq k q) (hp : Zq k p) (hk1 : 1 ≤ k) : Zq (2 * k + 1) (q + p) := by
  rw [Rat.add_def']
  have h1 : Z (2 * k) (q.num * p.den) := by rw [Nat.two_mul]; exact hq.num.mul (show Z k (p.den : Int) from hp.den)
  have h2 : Z (2 * k) (p.num * q.den) := by rw [Nat.two_mul]; exact hp.num.mul (show Z k (q.den : Int) from hq.den)
  refine .of (by omega) (h1.add h2) ?_
  exact lt_mono (lt_mul hq.den hp.den) (by omega)
theorem Zq.mul (h : Fn b xs ds q k) (g : Fn d ys es p k) : Zq (2 * k) (q * p) := by
  rw [← h.val, ← g.val, FV, FV, Rat.mkRat_mul_mkRat, Nat.two_mul]
  exact .of (by have := h.hk1; omega) (h.ox.z.mul g.ox.z) (lt_mul h.od.z g.od.z)


end
end Go.Proofs.Ytfjdfnlkobeehaa
end

section
set_option maxRecDepth 100000
set_option linter.unusedVariables false
set_option linter.unusedSimpArgs false
namespace Go.Proofs.Ytfjdfnlkobeehaa


def FZ : PV := .agg [.val (.bool false), .sl 0 [], .sl 0 []]
theorem FZ_def : FZ = .agg [.val (.bool false), .sl 0 [], .sl 0 []] := rfl
attribute [go_sem] FZ_def
end Go.Proofs.Ytfjdfnlkobeehaa

namespace Go.Proofs.Ytfjdfnlkobeehaa

end Go.Proofs.Ytfjdfnlkobeehaa
end

section
set_option maxRecDepth 100000
set_option linter.unusedVariables false
set_option linter.unusedSimpArgs false
namespace Go.Proofs.Ytfjdfnlkobeehaa.Ref


def QZ (p : Int) (d : Nat) : PV := .agg [.val (.bool (decide (p < 0))), .sl (D p.natAbs).length ((D p.natAbs).map I), .val (.bool false), .sl (D d).length ((D d).map I)]
theorem QZ_def (p : Int) (d : Nat) : QZ p d = .agg [.val (.bool (decide (p < 0))), .sl (D p.natAbs).length ((D p.natAbs).map I), .val (.bool false), .sl (D d).length ((D d).map I)] := rfl
attribute [go_sem] QZ_def
section
variable {α : Type} (a b c d w x y z : α)
theorem spl_404 : spl [a, b, c, d] 0 [w, x, y, z] = [w, x, y, z] := rfl
theorem spl_402 : spl [a, b, c, d] 0 [x, y] = [x, y, c, d] := rfl
theorem spl_422 : spl [a, b, c, d] 2 [x, y] = [a, b, x, y] := rfl
theorem take_44 : [a, b, c, d].take 4 = [a, b, c, d] := rfl
theorem take_42 : [a, b, c, d].take 2 = [a, b] := rfl
theorem drop_42 : [a, b, c, d].drop 2 = [c, d] := rfl
end
attribute [go_sem] spl_404 spl_402 spl_422 take_44 take_42 drop_42
theorem NZ_nat_def (n : Nat) : NZ (n : Int) = .agg [.val (.bool false), .sl (D n).length ((D n).map I)] := by
  rw [← NZ_nat, NP_def]
section
variable {b d : Bool} {xs ys ds es : List Nat} {x y : Int} {k m g : Nat} {q p : Rat}

theorem over_z (hx : Z k x) (hg : g < 4294967296 ^ k) (hk : k ≤ 100000) (h0 : g ≠ 0) : PT Try.prog 121 [NZ x, NZ g] (isV (NZ (sg (decide (x < 0)) (x.natAbs / g)))) := by
  have zg : Z k (g : Int) := hg
  have hd := divided_z (a := x) (b := (g : Int)) (okZ hx (by omega)) (okZ zg (by omega)) (by omega) (by have := lenZ zg; omega)
  rw [show ((g : Nat) : Int).natAbs = g from rfl] at hd
  have zq : Z k ((x.natAbs / g : Nat) : Int) := Nat.lt_of_le_of_lt (Nat.div_le_self _ _) hx
  have hm := minus_z (okZ zq (by omega))
  by_cases hs : x < 0
  · rw [decide_eq_true hs, sg_t]
    generalize -((x.natAbs / g : Nat) : Int) = q2 at *
    generalize ((x.natAbs / g : Nat) : Int) = q1 at *
    rw [NZ_nat_def] at hd ⊢
    rw [NZ_def x, decide_eq_true hs] at hd ⊢
    refine PCalls.enter (n := 21) (rs := [.cell 4 103]) (tb := []) Try.func121 rfl rfl rfl (by kernel_rfl) (by kernel_rfl) (by simp) fun c hc ht => ?_
    simp -implicitDefEqProofs (disch := omega) only [go_sem, ht, eq_self]
    ((refine pCall_view (by simp -implicitDefEqProofs (disch := omega) only [go_sem, ht, eq_self] <;> rfl) (by simp -implicitDefEqProofs (disch := omega) only [go_sem, ht, eq_self]) (by first | (apply Or.inl; simp -implicitDefEqProofs (disch := omega) only [go_sem, ht, eq_self]; done) | (apply Or.inr; rintro r rfl; rfl)) (hd) ?_; rintro _ nx_1 - rfl hnx_1; (try simp only [put_nx, withH_nx, begP_nx] at hnx_1); simp -implicitDefEqProofs (disch := omega) only [go_sem, ht, eq_self]); (refine pCall_view (by simp -implicitDefEqProofs (disch := omega) only [go_sem, ht, eq_self] <;> rfl) (by simp -implicitDefEqProofs (disch := omega) only [go_sem, ht, eq_self]) (by first | (apply Or.inl; simp -implicitDefEqProofs (disch := omega) only [go_sem, ht, eq_self]; done) | (apply Or.inr; rintro r rfl; rfl)) (hm) ?_; rintro _ nx_2 - rfl hnx_2; (try simp only [put_nx, withH_nx, begP_nx] at hnx_2); simp -implicitDefEqProofs (disch := omega) only [go_sem, ht, eq_self]))
    (refine end_treeM 2 ?_; simp -implicitDefEqProofs (disch := omega) only [go_sem, ht, eq_self])
  · rw [decide_eq_false hs, sg_f]
    generalize ((x.natAbs / g : Nat) : Int) = q1 at *
    rw [NZ_nat_def] at hd ⊢
    rw [NZ_def x, decide_eq_false hs] at hd ⊢
    refine PCalls.enter (n := 21) (rs := [.cell 4 103]) (tb := []) Try.func121 rfl rfl rfl (by kernel_rfl) (by kernel_rfl) (by simp) fun c hc ht => ?_
    simp -implicitDefEqProofs (disch := omega) only [go_sem, ht, eq_self]
    ((refine pCall_view (by simp -implicitDefEqProofs (disch := omega) only [go_sem, ht, eq_self] <;> rfl) (by simp -implicitDefEqProofs (disch := omega) only [go_sem, ht, eq_self]) (by first | (apply Or.inl; simp -implicitDefEqProofs (disch := omega) only [go_sem, ht, eq_self]; done) | (apply Or.inr; rintro r rfl; rfl)) (hd) ?_; rintro _ nx_3 - rfl hnx_3; (try simp only [put_nx, withH_nx, begP_nx] at hnx_3); simp -implicitDefEqProofs (disch := omega) only [go_sem, ht, eq_self]))
    (refine end_treeM 2 ?_; simp -implicitDefEqProofs (disch := omega) only [go_sem, ht, eq_self])


end
end Go.Proofs.Ytfjdfnlkobeehaa.Ref

namespace Go.Proofs.Ytfjdfnlkobeehaa.Ref

end Go.Proofs.Ytfjdfnlkobeehaa.Ref

namespace Go.Proofs.Ytfjdfnlkobeehaa.Ref

end Go.Proofs.Ytfjdfnlkobeehaa.Ref
end

section
set_option linter.unusedVariables false
set_option linter.unusedSimpArgs false
namespace Go.Proofs.Ytfjdfnlkobeehaa

theorem Rr.cells {c : Cx} {st : PS} {a : Act} {w : World} {ρ : Nat → Nat} (h : Rr c st a w ρ) {id : Nat} {cs qs : List PV} (h0 : st.H id = some cs) (hne : cs ≠ []) (hne' : qs ≠ [])
    (hr : ∃ (vs : Array Value) (e : TypeId), w.heap[ρ id]? = some (.cells vs e (0, 0)) ∧ RepL (enOf c.A0 w ρ st.H st.it st.nx) qs vs.toList) : Rr c (st.withH (upd st.H id (some qs)) st.nx) a w ρ := by
  have hl : ∀ i, Live (upd st.H id (some qs)) st.it i ↔ Live st.H st.it i := by
    intro i
    by_cases hx : i = id
    · subst hx
      exact ⟨fun _ => .inl ⟨cs, h0, hne⟩, fun _ => .inl ⟨_, upd_self _ _ _, hne'⟩⟩
    · unfold Live; rw [upd_ne _ _ hx]
  have hle : En.le (enOf c.A0 w ρ st.H st.it st.nx) (enOf c.A0 w ρ (upd st.H id (some qs)) st.it st.nx) :=
    ⟨fun _ _ _ _ hv => hv, fun b _ _ hA _ hA' => hA (hA'.imp_right fun ⟨i, hi, e⟩ => ⟨i, (hl i).1 hi, e⟩), Nat.le_refl _, fun _ _ => rfl⟩
  refine ⟨⟨fun i hi => ?_, fun i ds hc hd => ?_, fun i j hi hj he => h.own.inj i j ((hl i).1 hi) ((hl j).1 hj) he, fun i ds hc hd => ?_, h.own.itb, fun i hi => h.own.out i ((hl i).1 hi)⟩,
    fun u => Rep.mono hle _ _ (h.slots u), h.size, h.defers, h.frame, h.grow, h.ids, h.ρk, h.fF, h.fA, h.sw⟩
  · have hi : upd st.H id (some qs) i ≠ none ∨ st.it i ≠ none := hi
    by_cases hx : i = id
    · subst hx; exact h.own.bound i (.inl (by rw [h0]; simp))
    · rw [upd_ne _ _ hx] at hi; exact h.own.bound i hi
  · have hc : upd st.H id (some qs) i = some ds := hc
    by_cases hx : i = id
    · subst hx; exact h.own.excl i cs h0 hne
    · rw [upd_ne _ _ hx] at hc; exact h.own.excl i ds hc hd
  · have hc : upd st.H id (some qs) i = some ds := hc
    by_cases hx : i = id
    · subst hx
      rw [upd_self] at hc
      obtain rfl : qs = ds := by simpa using hc
      obtain ⟨vs, e, hh, hr⟩ := hr
      exact ⟨vs, e, hh, RepL.mono hle _ _ hr⟩
    · rw [upd_ne _ _ hx] at hc
      obtain ⟨vs, e, hh, hr⟩ := h.own.blk i ds hc hd
      exact ⟨vs, e, hh, RepL.mono hle _ _ hr⟩
theorem mapM_ne {α β : Type} {f : α → Option β} {l : List α} {m : List β} (h : l.mapM f = some m) (hl : l ≠ []) : m ≠ [] := by
  cases l with
  | nil => exact absurd rfl hl
  | cons x l =>
    rw [List.mapM_cons] at h
    intro e
    subst e
    cases hf : f x with
    | none => rw [hf] at h; simp at h
    | some y =>
      rw [hf] at h
      cases hg : l.mapM f with
      | none => rw [hg] at h; simp at h
      | some ys => rw [hg] at h; simp at h

theorem Gh.frzH {st : PS} {id : Nat} {cs qs : List PV} (D : Nat → Bool) (d : Nat) (h0 : st.H id = some cs) (hD : D id = false) (hq : cs.mapM (Ytfjdfnlkobeehaa.frz D st.H d) = some qs) : Gh st (st.withH (upd (dropH D st.H) id (some qs)) st.nx) := by
  by_cases hne : cs = []
  · subst hne
    obtain rfl : qs = [] := by simpa using hq.symm
    have e : upd (dropH D st.H) id (some []) = dropH D st.H := by
      funext j
      by_cases hj : j = id
      · subst hj; rw [upd_self]; unfold dropH; rw [hD]; exact h0.symm
      · rw [upd_ne _ _ hj]
    rw [e]
    exact Gh.drop D
  rintro c a w ⟨ρ, h⟩
  obtain ⟨h', hle⟩ := h.drop (H' := dropH D st.H) (it' := st.it) (fun i => by unfold dropH; split; exact .inr rfl; exact .inl rfl) (fun i => .inl rfl)
  obtain ⟨vs, e, hh, hr⟩ := h.own.blk id cs h0 hne
  exact ⟨ρ, Rr.cells h' (id := id) (cs := cs) (by show dropH D st.H id = some cs; unfold dropH; rw [hD]; exact h0) hne (mapM_ne hq hne) ⟨vs, e, hh, frzL_sound h D d cs qs _ hq hr⟩⟩
end Go.Proofs.Ytfjdfnlkobeehaa
end

section
set_option maxRecDepth 100000
set_option linter.unusedVariables false
set_option linter.unusedSimpArgs false
namespace Go.Proofs.Ytfjdfnlkobeehaa


theorem Gh.weak {st : PS} {id : Nat} {cs qs : List PV} (h0 : st.H id = some cs) (hl : qs = [] → cs = []) (hl' : cs = [] → qs = []) (hw : ∀ (E : En) (vs : List Value), RepL E cs vs → RepL E qs vs) : Gh st (st.withH (upd st.H id (some qs)) st.nx) := by
  rintro c a w ⟨ρ, h⟩
  by_cases hne : cs = []
  · obtain rfl := hl' hne
    subst hne
    have e : upd st.H id (some []) = st.H := by
      funext j
      by_cases hj : j = id
      · subst hj; rw [upd_self]; exact h0.symm
      · rw [upd_ne _ _ hj]
    rw [e]
    exact ⟨ρ, h⟩
  · obtain ⟨vs, e, hh, hr⟩ := h.own.blk id cs h0 hne
    exact ⟨ρ, Rr.cells h h0 hne (fun e => hne (hl e)) ⟨vs, e, hh, hw _ _ hr⟩⟩
theorem Gh.nncW {st : PS} {id : Nat} {cs : List PV} (h0 : st.H id = some cs) : Gh st (st.withH (upd st.H id (some (cs.map nn1))) st.nx) :=
  Gh.weak h0 (fun e => by simpa using e) (fun e => by rw [e]; rfl) fun _ _ h => nnL_rep h
namespace Ref
open Ytfjdfnlkobeehaa (SWc SW WX WC WV vals SM Rn vc canZ combZ primZ upZ gcdL gcdF sgF SW_def cZ)


def SNc (zs : List Int) : List PV := zs.flatMap fun z => [.val (.bool (decide (z < 0))), SI (D z.natAbs)]
def SN (zs : List Int) : PV := .sl zs.length (SNc zs)
theorem SN_def (zs : List Int) : SN zs = .sl zs.length (SNc zs) := rfl
theorem SNc_cons (z : Int) (zs : List Int) : SNc (z :: zs) = .val (.bool (decide (z < 0))) :: SI (D z.natAbs) :: SNc zs := rfl
theorem SNc_len (zs : List Int) : (SNc zs).length = 2 * zs.length := by
  induction zs with
  | nil => rfl
  | cons z zs ih => rw [SNc_cons]; simp only [List.length_cons, ih]; omega
theorem SNc_app (zs ws : List Int) : SNc (zs ++ ws) = SNc zs ++ SNc ws := by simp [SNc]
theorem SNc_flat (zs : List Int) : flatL (SNc zs) = true := by
  induction zs with
  | nil => rfl
  | cons z zs ih => rw [SNc_cons]; simp only [flatL, flat_SI, ih, Ytfjdfnlkobeehaa.flat_val, Bool.and_self]
theorem SNc_one (zs : List Int) : (SNc zs).all oneP = true := by
  induction zs with
  | nil => rfl
  | cons z zs ih => rw [SNc_cons]; simp only [List.all_cons, ih, Bool.and_true]; rfl
theorem SNc_drop : ∀ (zs : List Int) (i : Nat), (SNc zs).drop (i * 2) = SNc (zs.drop i)
  | _, 0 => by simp
  | [], i + 1 => by simp [SNc]
  | z :: zs, i + 1 => by
    rw [SNc_cons, show (i + 1) * 2 = i * 2 + 1 + 1 by omega, List.drop_succ_cons, List.drop_succ_cons, SNc_drop zs i, List.drop_succ_cons]
theorem SNc_at {zs : List Int} {i : Nat} (h : i < zs.length) : (SNc zs).drop (i * 2) = .val (.bool (decide (vc zs i < 0))) :: .sl (D (vc zs i).natAbs).length ((D (vc zs i).natAbs).map I) :: SNc (zs.drop (i + 1)) := by
  rw [SNc_drop, List.drop_eq_getElem_cons h, SNc_cons, Ytfjdfnlkobeehaa.vc_lt h]; rfl
theorem SNc_take {zs : List Int} {i : Nat} (h : i < zs.length) : SNc (zs.take i) ++ [.val (.bool (decide (vc zs i < 0))), .sl (D (vc zs i).natAbs).length ((D (vc zs i).natAbs).map I)] = SNc (zs.take (i + 1)) := by
  rw [List.take_succ_eq_append_getElem h, SNc_app, Ytfjdfnlkobeehaa.vc_lt h]; rfl
theorem take_SNc (zs : List Int) (r : List PV) {n : Nat} (h : n = zs.length) : List.take (n * 2) (SNc zs ++ r) = SNc zs := by
  subst h
  rw [show zs.length * 2 = (SNc zs).length by rw [SNc_len]; omega, List.take_left]
theorem frzL_SNc (D : Nat → Bool) (H : Nat → Option (List PV)) (d : Nat) (zs : List Int) : (SNc zs).mapM (Ytfjdfnlkobeehaa.frz D H d) = some (SNc zs) := Ytfjdfnlkobeehaa.frzL_flat D H d (SNc_flat zs)
theorem spl_SN {zs : List Int} {p : Nat} (h : p < zs.length) (x : Int) : spl (SNc zs) (p * 2) [.val (.bool (decide (x < 0))), .sl (D x.natAbs).length ((D x.natAbs).map I)] = SNc (zs.set p x) := by
  have e2 : zs.set p x = zs.take p ++ x :: zs.drop (p + 1) := by rw [List.set_eq_take_append_cons_drop, if_pos h]
  have e3 : SNc zs = SNc (zs.take p) ++ SNc (zs.drop p) := by rw [← SNc_app, List.take_append_drop]
  have e4 : zs.drop p = zs[p] :: zs.drop (p + 1) := List.drop_eq_getElem_cons h
  have hln : p * 2 = (SNc (zs.take p)).length := by rw [SNc_len, List.length_take]; omega
  rw [e2, e3, SNc_app, SNc_cons, e4, SNc_cons]
  unfold spl
  rw [hln, List.take_left, List.drop_append]
  simp
  rfl
attribute [go_sem] SN_def SNc_flat frzL_SNc
theorem replN (n : Nat) : (repl n [PV.val (.bool false), PV.val (.slice none 0 0)]).map nn1 = SNc (List.replicate n 0) := by
  unfold repl
  induction n with
  | zero => rfl
  | succ n ih =>
    simp only [List.replicate_succ, List.flatten_cons, List.map_append, ih]
    rw [SNc_cons]
    simp [nn1, SI_def, D_zero]
section
variable {l : List (Bool × List Nat)} {z a b : List Int} {k : Nat} {p q : Int}
theorem all_z (h : Rn l k) (hlen : l.length ≤ 1000000) : PT Try.prog 65 [SW l] (isV (SN (vals l))) := by
  have hvl := Ytfjdfnlkobeehaa.vals_len l
  refine PCalls.enter (n := 20) (rs := [.tmp 2]) (tb := []) Try.func65 rfl rfl rfl (by kernel_rfl) (by kernel_rfl) (by simp) fun c hc ht => ?_
  simp -implicitDefEqProofs (disch := omega) only [go_sem, ht, eq_self]
  refine LW.ghost (Gh.nilW 3 2 (by simp -implicitDefEqProofs (disch := omega) only [go_sem, ht, eq_self])) ?_
  refine LW.loopW hc ht (by kernel_rfl) (fun t => t.sl 0 = .sl l.length (SWc l) ∧ ∃ i : Nat, i ≤ l.length ∧ t.sl 4 = .val (.int .i64 i) ∧ ∃ (id cap : Nat) (rest : List Value), t.sl 3 = .ref id 0 i cap 2 ∧ t.H id = some (SNc ((vals l).take i) ++ rest.map .val) ∧ i * 2 + rest.length = cap * 2 ∧ id < t.nx)
    (fun t => match t.sl 4 with | .val (.int _ k) => l.length - k.toNat | _ => 0) ?_ ?_
  · simp -implicitDefEqProofs (disch := omega) only [go_sem, ht, eq_self]
    exact ⟨0, Nat.zero_le _, rfl, _, 0, [], rfl, upd_self _ _ _, rfl, by omega⟩
  · rintro t ⟨h0, i, hi, h4, id, cap, rest, h3, hH, hcap, hid⟩
    by_cases hil : i = l.length
    · subst hil
      rw [List.take_of_length_le (by omega)] at hH
      have htk := take_SNc (vals l) (rest.map .val) (n := l.length) (by omega)
      have hl2 := SNc_len (vals l)
      rw [hvl]
      simp -implicitDefEqProofs (disch := omega) only [go_sem, ht, h0, h3, h4, eq_self]
      (refine end_treeW 2 ?_; simp -implicitDefEqProofs (disch := omega) only [go_sem, ht, hH, htk, eq_self]; omega)
    · have hlt : i < l.length := by omega
      have hat := Ytfjdfnlkobeehaa.SWc_at hlt
      have hof := ofW (h.wn hlt)
      have htk := SNc_take (zs := vals l) (i := i) (by omega)
      have hln : (SNc ((vals l).take i)).length = 2 * i := by rw [SNc_len, List.length_take]; omega
      generalize vc (vals l) i = x at *
      simp -implicitDefEqProofs (disch := omega) only [go_sem, ht, h0, h3, h4, hat, eq_self]
      (refine pCall_view (by simp -implicitDefEqProofs (disch := omega) only [h0, h3, h4, hat, go_sem, ht, eq_self] <;> rfl) (by simp -implicitDefEqProofs (disch := omega) only [h0, h3, h4, hat, go_sem, ht, eq_self]) (by first | (apply Or.inl; simp -implicitDefEqProofs (disch := omega) only [h0, h3, h4, hat, go_sem, ht, eq_self]; done) | (apply Or.inr; rintro r rfl; rfl)) (hof) ?_; rintro _ nx - rfl hnx; (try simp only [put_nx, withH_nx, begP_nx] at hnx); simp -implicitDefEqProofs (disch := omega) only [h0, h3, h4, hat, go_sem, ht, eq_self])
      have hne : id ≠ nx := by omega
      (refine append_ownS (by simp -implicitDefEqProofs (disch := omega) only [srcP_ref, srcP_sl, srcP_nil, Option.isSome_some, hH, go_sem, ht, eq_self] <;> rfl) (by simp -implicitDefEqProofs (disch := omega) only [srcP_ref, srcP_sl, srcP_nil, Option.isSome_some, hH, go_sem, ht, eq_self] <;> rfl) (by simp -implicitDefEqProofs (disch := omega) only [srcP_ref, srcP_sl, srcP_nil, Option.isSome_some, hH, go_sem, ht, eq_self] <;> rfl) (by simp -implicitDefEqProofs (disch := omega) only [srcP_ref, srcP_sl, srcP_nil, Option.isSome_some, hH, go_sem, ht, eq_self] <;> rfl) (by simp -implicitDefEqProofs (disch := omega) only [srcP_ref, srcP_sl, srcP_nil, Option.isSome_some, hH, go_sem, ht, eq_self] <;> rfl) (by rfl) (by simp -implicitDefEqProofs (disch := omega) only [srcP_ref, srcP_sl, srcP_nil, Option.isSome_some, hH, go_sem, ht, eq_self] <;> rfl) (by simp -implicitDefEqProofs (disch := omega) only [srcP_ref, srcP_sl, srcP_nil, Option.isSome_some, hH, go_sem, ht, eq_self] <;> rfl) (by simp -implicitDefEqProofs (disch := omega) only [srcP_ref, srcP_sl, srcP_nil, Option.isSome_some, hH, go_sem, ht, eq_self] <;> rfl) (by first | omega | (simp <;> omega)) (by first | assumption | (simp <;> omega)) (by first | rfl | simp) (by first | omega | (simp <;> omega)) ?_; intro id1 cap1 rest1 H1 nx1 hH1 hcap1 hid1 hnx1 hfr1 hfs1; simp only [put_nx, withH_nx, put_H, withH_H] at hid1 hnx1 hfr1 hfs1)
      rw [htk] at hH1
      simp -implicitDefEqProofs (disch := omega) only [go_sem, ht, h0, h3, h4, eq_self]
      exact ⟨⟨i + 1, by omega, rfl, id1, cap1, rest1, rfl, hH1, by omega, by omega⟩, by omega⟩
theorem over_ex {x : Int} {g : Nat} (h : g ∣ x.natAbs) : Ytfjdfnlkobeehaa.sg (decide (x < 0)) (x.natAbs / g) = x / (g : Int) := by
  obtain ⟨m, hm⟩ := h
  by_cases hg : g = 0
  · subst hg; simp [Ytfjdfnlkobeehaa.sg]
  rw [hm, Nat.mul_div_cancel_left m (by omega)]
  by_cases hx : x < 0
  · have e : x = (g : Int) * -(m : Int) := by
      have : (x.natAbs : Int) = (g : Int) * m := by rw [hm]; simp
      rw [Int.mul_neg]; omega
    rw [decide_eq_true hx, e, Int.mul_ediv_cancel_left _ (by omega)]; rfl
  · have e : x = (g : Int) * (m : Int) := by
      have : (x.natAbs : Int) = (g : Int) * m := by rw [hm]; simp
      omega
    rw [decide_eq_false hx, e, Int.mul_ediv_cancel_left _ (by omega)]; rfl
theorem canZ_get {i : Nat} (h : i < z.length) : vc (canZ z) i = if sgF 0 z < 0 then -(z[i] / (gcdL z : Nat)) else z[i] / (gcdL z : Nat) := by
  have e : sgF 0 (primZ z) < 0 ↔ sgF 0 z < 0 := by
    by_cases hg : gcdL z = 0
    · have h0 := Ytfjdfnlkobeehaa.gcdL_zero.1 hg
      have hp : primZ z = z := by
        unfold primZ
        conv => rhs; rw [← List.map_id z]
        exact List.map_congr_left fun x hx => by rw [h0 x hx]; simp
      rw [hp]
    · have e1 : z = Ytfjdfnlkobeehaa.mulL (gcdL z) (primZ z) := by
        refine List.ext_getElem (by rw [Ytfjdfnlkobeehaa.mulL_len, Ytfjdfnlkobeehaa.primZ_len]) fun j h1 h2 => ?_
        have := Ytfjdfnlkobeehaa.primZ_vc z j
        rw [Ytfjdfnlkobeehaa.vc_lt h1, Ytfjdfnlkobeehaa.vc_lt (by rw [Ytfjdfnlkobeehaa.primZ_len]; exact h1)] at this
        simp only [Ytfjdfnlkobeehaa.mulL, List.getElem_map]
        exact this.symm
      have e2 := Ytfjdfnlkobeehaa.sgF_mul0 (t := (gcdL z : Int)) (by omega) (primZ z)
      rw [← e1, cZ_gt (show (0 : Int) < (gcdL z : Int) by omega), Int.one_mul] at e2
      rw [e2]
  unfold canZ upZ
  by_cases hs : sgF 0 z < 0
  · rw [if_pos hs, if_pos (e.2 hs), Ytfjdfnlkobeehaa.neg_vc, Ytfjdfnlkobeehaa.vc_lt (by rw [Ytfjdfnlkobeehaa.primZ_len]; exact h)]
    simp [primZ]
  · rw [if_neg hs, if_neg (fun h => hs (e.1 h)), Ytfjdfnlkobeehaa.vc_lt (by rw [Ytfjdfnlkobeehaa.primZ_len]; exact h)]
    simp [primZ]
theorem cur_set {r : List Int} {n i : Nat} (hr : r.length = n) (h : i < n) (x : Int) : (r.take i ++ List.replicate (n - i) 0).set i x = r.take i ++ x :: List.replicate (n - (i + 1)) 0 := by
  have hl : (r.take i).length = i := by rw [List.length_take]; omega
  obtain ⟨m, hm⟩ : ∃ m, n - i = m + 1 := ⟨n - (i + 1), by omega⟩
  rw [hm, show n - (i + 1) = m by omega, List.set_append_right _ _ (by omega), hl, Nat.sub_self, List.replicate_succ, List.set_cons_zero]
theorem cur_next {r : List Int} {n i : Nat} (hr : r.length = n) (h : i < n) : r.take i ++ vc r i :: List.replicate (n - (i + 1)) 0 = r.take (i + 1) ++ List.replicate (n - (i + 1)) 0 := by
  rw [List.take_succ_eq_append_getElem (by omega), Ytfjdfnlkobeehaa.vc_lt (by omega), List.append_assoc]; rfl
set_option maxHeartbeats 4000000 in
theorem canon_z (hz : ∀ x ∈ z, Z k x) (hk : k ≤ 100000) (hlen : z.length ≤ 1000000) : PT Try.prog 95 [SN z] (isV (SN (canZ z))) := by
  have hgz : ∀ i, Z k (gcdF 0 (z.take i) : Nat) := fun i => Ytfjdfnlkobeehaa.gcdF_le (Ytfjdfnlkobeehaa.Z.zero k) fun x hx => hz x (List.mem_of_mem_take hx)
  have hcl := Ytfjdfnlkobeehaa.canZ_len z
  refine PCalls.enter (n := 60) (rs := [.tmp 2]) (tb := [(6, [(0, []), (1, []), (2, []), (3, []), (4, []), (5, []), (6, [])]), (14, [(0, []), (1, []), (2, []), (3, []), (4, []), (5, []), (6, []), (7, [0, 1]), (8, []), (9, [])])]) Try.func95 rfl rfl rfl (by kernel_rfl) (by kernel_rfl) (by simp) fun c hc ht => ?_
  simp -implicitDefEqProofs (disch := omega) only [go_sem, ht, eq_self]
  refine LW.loopW hc ht (by kernel_rfl) (fun t => t.sl 0 = .sl z.length (SNc z) ∧ t.sl 3 = .ptr 0 0 ∧ 0 < t.nx ∧ ∃ i : Nat, i ≤ z.length ∧ t.sl 5 = .val (.int .i64 i) ∧ t.sl 4 = .val (.int .i64 (sgF 0 (z.take i))) ∧ ∃ c, t.H 0 = some [.val (.bool false), c] ∧ flat c = true ∧ oneP c = true ∧ isAny c = false ∧ (∀ H, view1 H c = .sl (D (gcdF 0 (z.take i))).length ((D (gcdF 0 (z.take i))).map I)))
    (fun t => match t.sl 5 with | .val (.int _ k) => z.length - k.toNat | _ => 0) ?_ ?_
  · simp -implicitDefEqProofs (disch := omega) only [go_sem, ht, eq_self]
    refine ⟨0, Nat.zero_le _, rfl, rfl, .val (.slice none 0 0), rfl, rfl, rfl, rfl, fun H => ?_⟩
    rw [List.take_zero, Ytfjdfnlkobeehaa.gcdF_nil, D_zero]; rfl
  · rintro t ⟨h0, h3, hnx, i, hi, h5, h4, cc, hH, hf, ho, ha, hv⟩
    by_cases hil : i = z.length
    · subst hil
      rw [List.take_length] at h4 hv
      have hg0 := hgz z.length
      rw [List.take_length] at hg0
      change Z k (gcdL z : Nat) at hg0
      change ∀ H, view1 H cc = .sl (D (gcdL z)).length ((D (gcdL z)).map I) at hv
      have hsg := sign_z (okZ hg0 (by omega))
      rw [NZ_nat_def] at hsg
      have hrn := replN z.length
      have hrl := Ytfjdfnlkobeehaa.repl_len z.length [PV.val (.bool false), PV.val (.slice none 0 0)]
      have hs0 : gcdL z = 0 → sgF 0 z = 0 := fun e => by
        have h00 := Ytfjdfnlkobeehaa.gcdL_zero.1 e
        have hm := Ytfjdfnlkobeehaa.mulL_zeros h00 0
        have e2 : ∀ l : List Int, (∀ x ∈ l, x = 0) → sgF 0 l = 0 := by
          intro l
          induction l with
          | nil => intro _; rfl
          | cons x l ih =>
            intro hx
            show sgF (if (0 : Int) = 0 then cZ x 0 else 0) l = 0
            rw [if_pos rfl, hx x (List.mem_cons_self ..), cZ_eq rfl]
            exact ih fun y hy => hx y (List.mem_cons_of_mem _ hy)
        exact e2 z h00
      have hget : ∀ i (h : i < z.length), vc (canZ z) i = if sgF 0 z < 0 then -(vc z i / (gcdL z : Nat)) else vc z i / (gcdL z : Nat) := fun i h => by rw [canZ_get h, Ytfjdfnlkobeehaa.vc_lt h]
      have hdv : ∀ i (h : i < z.length), gcdL z ∣ (vc z i).natAbs := fun i h => by rw [Ytfjdfnlkobeehaa.vc_lt h]; exact Ytfjdfnlkobeehaa.gcdL_dvd (List.getElem_mem h)
      have hvz : ∀ i (h : i < z.length), Z k (vc z i) := fun i h => by rw [Ytfjdfnlkobeehaa.vc_lt h]; exact hz _ (List.getElem_mem h)
      generalize canZ z = r at *
      generalize sgF 0 z = s at *
      generalize gcdL z = g at *
      simp -implicitDefEqProofs (disch := omega) only [go_sem, ht, h0, h3, h5, h4, eq_self]
      refine LW.ghost (Gh.nncW (id := t.nx) (cs := repl z.length [PV.val (.bool false), PV.val (.slice none 0 0)]) (by simp -implicitDefEqProofs (disch := omega) only [go_sem, ht, upd_self, eq_self])) ?_
      refine LW.loopW hc ht (by kernel_rfl) (fun u => u.sl 0 = .sl z.length (SNc z) ∧ u.sl 3 = .ptr 0 0 ∧ u.sl 4 = .val (.int .i64 s) ∧ u.sl 6 = .ref t.nx 0 z.length z.length 2 ∧ t.nx < u.nx ∧ u.H 0 = some [.val (.bool false), cc] ∧ ∃ i : Nat, i ≤ z.length ∧ u.sl 7 = .val (.int .i64 i) ∧ u.H t.nx = some (SNc (r.take i ++ List.replicate (z.length - i) 0)))
        (fun u => match u.sl 7 with | .val (.int _ k) => z.length - k.toNat | _ => 0) ?_ ?_
      · simp -implicitDefEqProofs (disch := omega) only [go_sem, ht, h0, h3, h5, h4, hrn, eq_self]
        exact ⟨by omega, hH, 0, Nat.zero_le _, rfl, rfl⟩
      · clear hH h0 h3 h5 h4
        rintro u ⟨h0, h3, h4, h6, hnu, hH0, i, hi, h7, hH⟩
        by_cases hil : i = z.length
        · subst hil
          rw [Nat.sub_self, List.replicate_zero, List.append_nil, List.take_of_length_le (by omega)] at hH
          have htk := take_SNc r [] (n := z.length) (by omega)
          rw [List.append_nil] at htk
          have hl2 := SNc_len r
          rw [hcl]
          simp -implicitDefEqProofs (disch := omega) only [go_sem, ht, h0, h3, h4, h6, h7, eq_self]
          (refine end_treeW 2 ?_; simp -implicitDefEqProofs (disch := omega) only [go_sem, ht, hH, htk, eq_self]; omega)
        · have hlt : i < z.length := by omega
          have hat := SNc_at hlt
          have hx := hvz i hlt
          have hd := hdv i hlt
          have hg := hget i hlt
          have hset := cur_set (r := r) (n := z.length) (i := i) (by omega) hlt
          have hnext := cur_next (r := r) (n := z.length) (i := i) (by omega) hlt
          have hrl2 : (r.take i).length = i := by rw [List.length_take]; omega
          by_cases hg0' : g = 0
          · have hs00 := hs0 hg0'
            subst hg0'
            subst hs00
            have hr0 : vc r i = 0 := by rw [hg]; simp
            rw [hr0] at hnext
            have hst : r.take i ++ List.replicate (z.length - i) 0 = r.take (i + 1) ++ List.replicate (z.length - (i + 1)) 0 := by
              rw [← hnext, show z.length - i = (z.length - (i + 1)) + 1 by omega, List.replicate_succ]
            rw [hst] at hH
            rw [show ((0 : Nat) : Int) = 0 from rfl, cZ_eq rfl] at hsg
            simp -implicitDefEqProofs (disch := omega) only [go_sem, ht, h0, h3, h4, h6, h7, hH0, ho, ha, eq_self]
            (refine pCall_view (by simp -implicitDefEqProofs (disch := omega) only [h0, h3, h4, h6, h7, hH0, hf, ho, ha, hv, go_sem, ht, eq_self] <;> rfl) (by simp -implicitDefEqProofs (disch := omega) only [h0, h3, h4, h6, h7, hH0, hf, ho, ha, hv, go_sem, ht, eq_self]) (by first | (apply Or.inl; simp -implicitDefEqProofs (disch := omega) only [h0, h3, h4, h6, h7, hH0, hf, ho, ha, hv, go_sem, ht, eq_self]; done) | (apply Or.inr; rintro r rfl; rfl)) (hsg) ?_; rintro _ nx - rfl hnx; (try simp only [put_nx, withH_nx, begP_nx] at hnx); simp -implicitDefEqProofs (disch := omega) only [h0, h3, h4, h6, h7, hH0, hf, ho, ha, hv, go_sem, ht, eq_self])
            exact ⟨⟨by omega, i + 1, by omega, rfl, hH⟩, by omega⟩
          · have hov := over_z (k := k) (g := g) hx hg0 hk hg0'
            rw [over_ex hd, NZ_nat_def] at hov
            have hxd : Z k (vc z i / (g : Int)) := hx.div
            have hmi := minus_z (z := vc z i / (g : Int)) (okZ hxd (by omega))
            rw [cZ_gt (show (0 : Int) < (g : Int) by omega)] at hsg
            have hsp1 := spl_SN (zs := r.take i ++ List.replicate (z.length - i) 0) (p := i) (by simp; omega) (vc z i / (g : Int))
            rw [hset] at hsp1
            have hsp2 := spl_SN (zs := r.take i ++ (vc z i / (g : Int)) :: List.replicate (z.length - (i + 1)) 0) (p := i) (by simp; omega) (-(vc z i / (g : Int)))
            have hset2 : (r.take i ++ (vc z i / (g : Int)) :: List.replicate (z.length - (i + 1)) 0).set i (-(vc z i / (g : Int))) = r.take i ++ (-(vc z i / (g : Int))) :: List.replicate (z.length - (i + 1)) 0 := by
              rw [List.set_append_right _ _ (by omega), hrl2, Nat.sub_self, List.set_cons_zero]
            rw [hset2] at hsp2
            have hat2 := SNc_at (zs := r.take i ++ (vc z i / (g : Int)) :: List.replicate (z.length - (i + 1)) 0) (i := i) (by simp; omega)
            have hvc : vc (r.take i ++ (vc z i / (g : Int)) :: List.replicate (z.length - (i + 1)) 0) i = vc z i / (g : Int) := by
              rw [Ytfjdfnlkobeehaa.vc_lt (by simp; omega), List.getElem_append_right (by omega)]
              simp [hrl2]
            rw [hvc] at hat2
            have hln : (SNc (r.take i ++ List.replicate (z.length - i) 0)).length = z.length * 2 := by rw [SNc_len]; simp; omega
            have hln2 : (SNc (r.take i ++ (vc z i / (g : Int)) :: List.replicate (z.length - (i + 1)) 0)).length = z.length * 2 := by rw [SNc_len]; simp; omega
            clear hset hset2 hvc hd
            generalize vc z i / (g : Int) = q at *
            generalize vc z i = x at *
            by_cases hs : s < 0
            · rw [if_pos hs] at hg
              rw [hg] at hnext
              simp -implicitDefEqProofs (disch := omega) only [go_sem, ht, h0, h3, h4, h6, h7, hH0, ho, ha, eq_self]
              ((refine pCall_view (by simp -implicitDefEqProofs (disch := omega) only [h0, h3, h4, h6, h7, hH0, hf, ho, ha, hv, hH, hat, hln, hsp1, hs, hat2, hln2, go_sem, ht, eq_self] <;> rfl) (by simp -implicitDefEqProofs (disch := omega) only [h0, h3, h4, h6, h7, hH0, hf, ho, ha, hv, hH, hat, hln, hsp1, hs, hat2, hln2, go_sem, ht, eq_self]) (by first | (apply Or.inl; simp -implicitDefEqProofs (disch := omega) only [h0, h3, h4, h6, h7, hH0, hf, ho, ha, hv, hH, hat, hln, hsp1, hs, hat2, hln2, go_sem, ht, eq_self]; done) | (apply Or.inr; rintro r rfl; rfl)) (hsg) ?_; rintro _ nx_1 - rfl hnx_1; (try simp only [put_nx, withH_nx, begP_nx] at hnx_1); simp -implicitDefEqProofs (disch := omega) only [h0, h3, h4, h6, h7, hH0, hf, ho, ha, hv, hH, hat, hln, hsp1, hs, hat2, hln2, go_sem, ht, eq_self]); (refine pCall_view (by simp -implicitDefEqProofs (disch := omega) only [h0, h3, h4, h6, h7, hH0, hf, ho, ha, hv, hH, hat, hln, hsp1, hs, hat2, hln2, go_sem, ht, eq_self] <;> rfl) (by simp -implicitDefEqProofs (disch := omega) only [h0, h3, h4, h6, h7, hH0, hf, ho, ha, hv, hH, hat, hln, hsp1, hs, hat2, hln2, go_sem, ht, eq_self]) (by first | (apply Or.inl; simp -implicitDefEqProofs (disch := omega) only [h0, h3, h4, h6, h7, hH0, hf, ho, ha, hv, hH, hat, hln, hsp1, hs, hat2, hln2, go_sem, ht, eq_self]; done) | (apply Or.inr; rintro r rfl; rfl)) (hov) ?_; rintro _ nx_2 - rfl hnx_2; (try simp only [put_nx, withH_nx, begP_nx] at hnx_2); simp -implicitDefEqProofs (disch := omega) only [h0, h3, h4, h6, h7, hH0, hf, ho, ha, hv, hH, hat, hln, hsp1, hs, hat2, hln2, go_sem, ht, eq_self]))
              ((refine pCall_view (by simp -implicitDefEqProofs (disch := omega) only [h0, h3, h4, h6, h7, hH0, hf, ho, ha, hv, hH, hat, hln, hsp1, hs, hat2, hln2, hsp2, go_sem, ht, eq_self] <;> rfl) (by simp -implicitDefEqProofs (disch := omega) only [h0, h3, h4, h6, h7, hH0, hf, ho, ha, hv, hH, hat, hln, hsp1, hs, hat2, hln2, hsp2, go_sem, ht, eq_self]) (by first | (apply Or.inl; simp -implicitDefEqProofs (disch := omega) only [h0, h3, h4, h6, h7, hH0, hf, ho, ha, hv, hH, hat, hln, hsp1, hs, hat2, hln2, hsp2, go_sem, ht, eq_self]; done) | (apply Or.inr; rintro r rfl; rfl)) (hmi) ?_; rintro _ nx_3 - rfl hnx_3; (try simp only [put_nx, withH_nx, begP_nx] at hnx_3); simp -implicitDefEqProofs (disch := omega) only [h0, h3, h4, h6, h7, hH0, hf, ho, ha, hv, hH, hat, hln, hsp1, hs, hat2, hln2, hsp2, go_sem, ht, eq_self]))
              exact ⟨⟨by omega, i + 1, by omega, rfl, by rw [← hnext]⟩, by omega⟩
            · rw [if_neg hs] at hg
              rw [hg] at hnext
              simp -implicitDefEqProofs (disch := omega) only [go_sem, ht, h0, h3, h4, h6, h7, hH0, ho, ha, eq_self]
              ((refine pCall_view (by simp -implicitDefEqProofs (disch := omega) only [h0, h3, h4, h6, h7, hH0, hf, ho, ha, hv, hH, hat, hln, hsp1, hs, go_sem, ht, eq_self] <;> rfl) (by simp -implicitDefEqProofs (disch := omega) only [h0, h3, h4, h6, h7, hH0, hf, ho, ha, hv, hH, hat, hln, hsp1, hs, go_sem, ht, eq_self]) (by first | (apply Or.inl; simp -implicitDefEqProofs (disch := omega) only [h0, h3, h4, h6, h7, hH0, hf, ho, ha, hv, hH, hat, hln, hsp1, hs, go_sem, ht, eq_self]; done) | (apply Or.inr; rintro r rfl; rfl)) (hsg) ?_; rintro _ nx_4 - rfl hnx_4; (try simp only [put_nx, withH_nx, begP_nx] at hnx_4); simp -implicitDefEqProofs (disch := omega) only [h0, h3, h4, h6, h7, hH0, hf, ho, ha, hv, hH, hat, hln, hsp1, hs, go_sem, ht, eq_self]); (refine pCall_view (by simp -implicitDefEqProofs (disch := omega) only [h0, h3, h4, h6, h7, hH0, hf, ho, ha, hv, hH, hat, hln, hsp1, hs, go_sem, ht, eq_self] <;> rfl) (by simp -implicitDefEqProofs (disch := omega) only [h0, h3, h4, h6, h7, hH0, hf, ho, ha, hv, hH, hat, hln, hsp1, hs, go_sem, ht, eq_self]) (by first | (apply Or.inl; simp -implicitDefEqProofs (disch := omega) only [h0, h3, h4, h6, h7, hH0, hf, ho, ha, hv, hH, hat, hln, hsp1, hs, go_sem, ht, eq_self]; done) | (apply Or.inr; rintro r rfl; rfl)) (hov) ?_; rintro _ nx_5 - rfl hnx_5; (try simp only [put_nx, withH_nx, begP_nx] at hnx_5); simp -implicitDefEqProofs (disch := omega) only [h0, h3, h4, h6, h7, hH0, hf, ho, ha, hv, hH, hat, hln, hsp1, hs, go_sem, ht, eq_self]))
              exact ⟨⟨by omega, i + 1, by omega, rfl, by rw [← hnext]⟩, by omega⟩
    · have hlt : i < z.length := by omega
      have hat := SNc_at hlt
      have hzx : Z k (vc z i) := by rw [Ytfjdfnlkobeehaa.vc_lt hlt]; exact hz _ (List.getElem_mem hlt)
      have hg := gcd_z (hgz i) hzx hk
      have hst := Ytfjdfnlkobeehaa.gcdF_take (zs := z) (i := i) hlt
      rw [Ytfjdfnlkobeehaa.gcd_natAbs, Ytfjdfnlkobeehaa.vc_lt hlt, ← hst] at hg
      have hss := Ytfjdfnlkobeehaa.sgF_take (t := 0) (zs := z) (i := i) hlt
      rw [← Ytfjdfnlkobeehaa.vc_lt hlt] at hss hg
      have hsi := sign_z (okZ hzx (by omega))
      obtain ⟨g2, e2⟩ : ∃ g2, gcdF 0 (z.take (i + 1)) = g2 := ⟨_, rfl⟩
      obtain ⟨s2, es2⟩ : ∃ s2, sgF 0 (z.take (i + 1)) = s2 := ⟨_, rfl⟩
      rw [e2] at hg
      rw [es2] at hss
      clear hst
      generalize gcdF 0 (z.take i) = g1 at *
      generalize sgF 0 (z.take i) = s1 at *
      generalize cZ (vc z i) 0 = sx at *
      generalize vc z i = x at *
      rw [NZ_nat_def, NZ_nat_def] at hg
      by_cases h10 : s1 = 0
      · rw [if_pos h10] at hss
        simp -implicitDefEqProofs (disch := omega) only [go_sem, ht, h0, h3, h5, h4, hat, hH, ho, ha, eq_self]
        ((refine pCall_view (by simp -implicitDefEqProofs (disch := omega) only [h0, h3, h5, h4, hat, hH, hf, ho, ha, hv, h10, go_sem, ht, eq_self] <;> rfl) (by simp -implicitDefEqProofs (disch := omega) only [h0, h3, h5, h4, hat, hH, hf, ho, ha, hv, h10, go_sem, ht, eq_self]) (by first | (apply Or.inl; simp -implicitDefEqProofs (disch := omega) only [h0, h3, h5, h4, hat, hH, hf, ho, ha, hv, h10, go_sem, ht, eq_self]; done) | (apply Or.inr; rintro r rfl; rfl)) (hg) ?_; rintro _ nx_6 - rfl hnx_6; (try simp only [put_nx, withH_nx, begP_nx] at hnx_6); simp -implicitDefEqProofs (disch := omega) only [h0, h3, h5, h4, hat, hH, hf, ho, ha, hv, h10, go_sem, ht, eq_self]); (refine pCall_view (by simp -implicitDefEqProofs (disch := omega) only [h0, h3, h5, h4, hat, hH, hf, ho, ha, hv, h10, go_sem, ht, eq_self] <;> rfl) (by simp -implicitDefEqProofs (disch := omega) only [h0, h3, h5, h4, hat, hH, hf, ho, ha, hv, h10, go_sem, ht, eq_self]) (by first | (apply Or.inl; simp -implicitDefEqProofs (disch := omega) only [h0, h3, h5, h4, hat, hH, hf, ho, ha, hv, h10, go_sem, ht, eq_self]; done) | (apply Or.inr; rintro r rfl; rfl)) (hsi) ?_; rintro _ nx_7 - rfl hnx_7; (try simp only [put_nx, withH_nx, begP_nx] at hnx_7); simp -implicitDefEqProofs (disch := omega) only [h0, h3, h5, h4, hat, hH, hf, ho, ha, hv, h10, go_sem, ht, eq_self]))
        refine ⟨⟨by omega, i + 1, by omega, rfl, by rw [es2, hss], .sl (D g2).length ((D g2).map I), rfl, flat_SI _, rfl, rfl, fun H => ?_⟩, by omega⟩
        rw [e2]; rfl
      · rw [if_neg h10] at hss
        simp -implicitDefEqProofs (disch := omega) only [go_sem, ht, h0, h3, h5, h4, hat, hH, ho, ha, eq_self]
        ((refine pCall_view (by simp -implicitDefEqProofs (disch := omega) only [h0, h3, h5, h4, hat, hH, hf, ho, ha, hv, h10, go_sem, ht, eq_self] <;> rfl) (by simp -implicitDefEqProofs (disch := omega) only [h0, h3, h5, h4, hat, hH, hf, ho, ha, hv, h10, go_sem, ht, eq_self]) (by first | (apply Or.inl; simp -implicitDefEqProofs (disch := omega) only [h0, h3, h5, h4, hat, hH, hf, ho, ha, hv, h10, go_sem, ht, eq_self]; done) | (apply Or.inr; rintro r rfl; rfl)) (hg) ?_; rintro _ nx_8 - rfl hnx_8; (try simp only [put_nx, withH_nx, begP_nx] at hnx_8); simp -implicitDefEqProofs (disch := omega) only [h0, h3, h5, h4, hat, hH, hf, ho, ha, hv, h10, go_sem, ht, eq_self]))
        refine ⟨⟨by omega, i + 1, by omega, rfl, by rw [es2, hss], .sl (D g2).length ((D g2).map I), rfl, flat_SI _, rfl, rfl, fun H => ?_⟩, by omega⟩
        rw [e2]; rfl
end
end Ref
end Go.Proofs.Ytfjdfnlkobeehaa
end

section
set_option maxRecDepth 100000
set_option linter.unusedVariables false
set_option linter.unusedSimpArgs false
namespace Go.Proofs.Ytfjdfnlkobeehaa.Ref
open Ytfjdfnlkobeehaa (SWc SW WX WC WV vals vals_len SM lenM Rn vc vc_lt canZ canZ_len combZ combZ_len combZ_take primZ upZ upZ_len SW_def SM_def cZ get_SM' getD_take getD_mem insR insB zeroB getD_vals wrongM)

section
variable {l : List (Bool × List Nat)} {z a b : List Int} {k : Nat} {p q : Int}
set_option maxHeartbeats 4000000 in
theorem joined_z (hp : Z k p) (hq : Z k q) (ha : ∀ x ∈ a, Z k x) (hb : ∀ x ∈ b, Z k x) (hl : a.length = b.length) (hk : 2 * k + 1 ≤ 100000) (hlen : a.length ≤ 1000000) :
    PT Try.prog 97 [NZ p, SN a, NZ q, SN b] (isV (SN (canZ (combZ p q a b)))) := by
  have hcl := combZ_len (a := p) (b := q) hl
  have hcz : ∀ x ∈ combZ p q a b, Z (2 * k + 1) x := fun x hx => by
    have := Ytfjdfnlkobeehaa.combZ_z hp hq ha hb x hx
    rwa [show k + k + 1 = 2 * k + 1 by omega] at this
  have hcn := canon_z hcz (by omega) (by omega)
  rw [SN_def, hcl] at hcn
  have hcc := canZ_len (combZ p q a b)
  generalize hr : canZ (combZ p q a b) = r at *
  refine PCalls.enter (n := 35) (rs := [.tmp 8]) (tb := [(5, [(0, []), (1, []), (2, []), (3, []), (4, []), (5, []), (7, []), (8, []), (9, []), (10, []), (11, []), (6, [0, 7, 8, 9, 10, 11]), (12, [0]), (13, [0]), (14, [0]), (15, []), (16, [])]), (1000005, [(0, []), (0, []), (0, []), (0, []), (12, []), (28, []), (62, []), (0, []), (0, []), (0, []), (768, []), (1792, []), (4094, []), (8190, []), (16382, []), (32767, []), (65535, [])])]) Try.func97 rfl rfl rfl (by kernel_rfl) (by kernel_rfl) (by simp) fun c hc ht => ?_
  simp -implicitDefEqProofs (disch := omega) only [go_sem, ht, eq_self]
  refine LW.ghost (Gh.nilW 9 2 (by simp -implicitDefEqProofs (disch := omega) only [go_sem, ht, eq_self])) ?_
  refine LW.loopW hc ht (by kernel_rfl) (fun t => t.sl 1 = .sl a.length (SNc a) ∧ t.sl 3 = .sl b.length (SNc b) ∧ t.sl 4 = .ptr 0 0 ∧ t.sl 6 = .ptr 1 0 ∧ t.H 0 = some [.val (.bool (decide (p < 0))), .sl (D p.natAbs).length ((D p.natAbs).map I)] ∧ t.H 1 = some [.val (.bool (decide (q < 0))), .sl (D q.natAbs).length ((D q.natAbs).map I)] ∧ ∃ i : Nat, i ≤ a.length ∧ t.sl 10 = .val (.int .i64 i) ∧
      ∃ (id cap : Nat) (rest : List Value), t.sl 9 = .ref id 0 i cap 2 ∧ t.H id = some (SNc ((combZ p q a b).take i) ++ rest.map .val) ∧ i * 2 + rest.length = cap * 2 ∧ id < t.nx ∧ 1 < id)
    (fun t => match t.sl 10 with | .val (.int _ k) => a.length - k.toNat | _ => 0) ?_ ?_
  · simp -implicitDefEqProofs (disch := omega) only [go_sem, ht, NZ_def, eq_self]
    exact ⟨0, Nat.zero_le _, rfl, _, 0, [], rfl, rfl, rfl, by omega, by omega⟩
  · rintro t ⟨h1, h3, h4, h6, hH0, hH1', i, hi, h10, id, cap, rest, h9, hH, hcap, hid, hid1⟩
    by_cases hil : i = a.length
    · subst hil
      rw [List.take_of_length_le (by omega)] at hH
      have htk := take_SNc (combZ p q a b) (rest.map .val) (n := a.length) (by omega)
      have hl2 := SNc_len (combZ p q a b)
      have hle : a.length * 2 ≤ (SNc (combZ p q a b)).length + rest.length := by omega
      simp -implicitDefEqProofs (disch := omega) only [go_sem, ht, h1, h3, h4, h6, h9, h10, eq_self]
      (refine pCall_frz (fun _ => true) 1 (by simp -implicitDefEqProofs (disch := omega) only [hH, htk, hle, go_sem, ht, eq_self] <;> rfl) (by simp -implicitDefEqProofs (disch := omega) only [hH, htk, hle, go_sem, ht, eq_self]) (by simp -implicitDefEqProofs (disch := omega) only [hH, htk, hle, go_sem, ht, eq_self] <;> rfl) (by simp -implicitDefEqProofs (disch := omega) only [hH, htk, hle, go_sem, ht, eq_self]) (hcn) ?_; rintro _ nx - rfl hnx; (try simp only [put_nx, withH_nx, begP_nx] at hnx); simp -implicitDefEqProofs (disch := omega) only [hH, htk, hle, go_sem, ht, eq_self])
      (refine end_treeW 2 ?_; simp -implicitDefEqProofs (disch := omega) only [go_sem, ht, eq_self])
    · have hlt : i < a.length := by omega
      have hat := SNc_at hlt
      have hat' := SNc_at (show i < b.length by omega)
      have za : Z k (vc a i) := Ytfjdfnlkobeehaa.vc_z ha i
      have zb : Z k (vc b i) := Ytfjdfnlkobeehaa.vc_z hb i
      have m1 := nmul_z (okZ hp (by omega)) (okZ za (by omega)) (by have := lenZ hp; have := lenZ za; omega)
      have m2 := nmul_z (okZ hq (by omega)) (okZ zb (by omega)) (by have := lenZ hq; have := lenZ zb; omega)
      have z1 := hp.mul za
      have z2 := hq.mul zb
      have zs : Z (k + k + 1) (((p * vc a i).natAbs + (q * vc b i).natAbs : Nat) : Int) := Ytfjdfnlkobeehaa.Z.add (x := ((p * vc a i).natAbs : Int)) (y := ((q * vc b i).natAbs : Int)) z1 z2
      have s1 := nsub_z (okZ z1 (by omega)) (okZ z2 (by omega)) (okZ zs (by omega))
      have hst := combZ_take (a := p) (b := q) (z := a) (p := b) (i := i) hlt (by omega)
      rw [← vc_lt (z := a), ← vc_lt (z := b)] at hst
      have hln : (SNc ((combZ p q a b).take i)).length = i * 2 := by rw [SNc_len, List.length_take]; omega
      clear z1 z2 zs
      generalize p * vc a i = x1 at *
      generalize q * vc b i = x2 at *
      have htk : SNc ((combZ p q a b).take i) ++ [.val (.bool (decide (x1 - x2 < 0))), .sl (D (x1 - x2).natAbs).length ((D (x1 - x2).natAbs).map I)] = SNc ((combZ p q a b).take (i + 1)) := by
        rw [hst, SNc_app]; rfl
      generalize x1 - x2 = x3 at *
      simp -implicitDefEqProofs (disch := omega) only [go_sem, ht, h1, h3, h4, h6, h9, h10, hH0, hH1', hat, hat', eq_self]
      ((refine pCall_view (by simp -implicitDefEqProofs (disch := omega) only [h1, h3, h4, h6, h9, h10, hat, hat', hH0, hH1', go_sem, ht, eq_self] <;> rfl) (by simp -implicitDefEqProofs (disch := omega) only [h1, h3, h4, h6, h9, h10, hat, hat', hH0, hH1', go_sem, ht, eq_self]) (by first | (apply Or.inl; simp -implicitDefEqProofs (disch := omega) only [h1, h3, h4, h6, h9, h10, hat, hat', hH0, hH1', go_sem, ht, eq_self]; done) | (apply Or.inr; rintro r rfl; rfl)) (m1) ?_; rintro _ nx_1 - rfl hnx_1; (try simp only [put_nx, withH_nx, begP_nx] at hnx_1); simp -implicitDefEqProofs (disch := omega) only [h1, h3, h4, h6, h9, h10, hat, hat', hH0, hH1', go_sem, ht, eq_self]); (refine pCall_view (by simp -implicitDefEqProofs (disch := omega) only [h1, h3, h4, h6, h9, h10, hat, hat', hH0, hH1', go_sem, ht, eq_self] <;> rfl) (by simp -implicitDefEqProofs (disch := omega) only [h1, h3, h4, h6, h9, h10, hat, hat', hH0, hH1', go_sem, ht, eq_self]) (by first | (apply Or.inl; simp -implicitDefEqProofs (disch := omega) only [h1, h3, h4, h6, h9, h10, hat, hat', hH0, hH1', go_sem, ht, eq_self]; done) | (apply Or.inr; rintro r rfl; rfl)) (m2) ?_; rintro _ nx_2 - rfl hnx_2; (try simp only [put_nx, withH_nx, begP_nx] at hnx_2); simp -implicitDefEqProofs (disch := omega) only [h1, h3, h4, h6, h9, h10, hat, hat', hH0, hH1', go_sem, ht, eq_self]); (refine pCall_view (by simp -implicitDefEqProofs (disch := omega) only [h1, h3, h4, h6, h9, h10, hat, hat', hH0, hH1', go_sem, ht, eq_self] <;> rfl) (by simp -implicitDefEqProofs (disch := omega) only [h1, h3, h4, h6, h9, h10, hat, hat', hH0, hH1', go_sem, ht, eq_self]) (by first | (apply Or.inl; simp -implicitDefEqProofs (disch := omega) only [h1, h3, h4, h6, h9, h10, hat, hat', hH0, hH1', go_sem, ht, eq_self]; done) | (apply Or.inr; rintro r rfl; rfl)) (s1) ?_; rintro _ nx_3 - rfl hnx_3; (try simp only [put_nx, withH_nx, begP_nx] at hnx_3); simp -implicitDefEqProofs (disch := omega) only [h1, h3, h4, h6, h9, h10, hat, hat', hH0, hH1', go_sem, ht, eq_self]))
      have hne : id ≠ nx_3 := by omega
      (refine append_ownS (by simp -implicitDefEqProofs (disch := omega) only [srcP_ref, srcP_sl, srcP_nil, Option.isSome_some, hH, go_sem, ht, eq_self] <;> rfl) (by simp -implicitDefEqProofs (disch := omega) only [srcP_ref, srcP_sl, srcP_nil, Option.isSome_some, hH, go_sem, ht, eq_self] <;> rfl) (by simp -implicitDefEqProofs (disch := omega) only [srcP_ref, srcP_sl, srcP_nil, Option.isSome_some, hH, go_sem, ht, eq_self] <;> rfl) (by simp -implicitDefEqProofs (disch := omega) only [srcP_ref, srcP_sl, srcP_nil, Option.isSome_some, hH, go_sem, ht, eq_self] <;> rfl) (by simp -implicitDefEqProofs (disch := omega) only [srcP_ref, srcP_sl, srcP_nil, Option.isSome_some, hH, go_sem, ht, eq_self] <;> rfl) (by rfl) (by simp -implicitDefEqProofs (disch := omega) only [srcP_ref, srcP_sl, srcP_nil, Option.isSome_some, hH, go_sem, ht, eq_self] <;> rfl) (by simp -implicitDefEqProofs (disch := omega) only [srcP_ref, srcP_sl, srcP_nil, Option.isSome_some, hH, go_sem, ht, eq_self] <;> rfl) (by simp -implicitDefEqProofs (disch := omega) only [srcP_ref, srcP_sl, srcP_nil, Option.isSome_some, hH, go_sem, ht, eq_self] <;> rfl) (by first | omega | (simp <;> omega)) (by first | assumption | (simp <;> omega)) (by first | rfl | simp) (by first | omega | (simp <;> omega)) ?_; intro id1 cap1 rest1 H1 nx1 hH1 hcap1 hid1 hnx1 hfr1 hfs1; simp only [put_nx, withH_nx, put_H, withH_H] at hid1 hnx1 hfr1 hfs1)
      rw [htk] at hH1
      have hA : H1 0 = some [.val (.bool (decide (p < 0))), .sl (D p.natAbs).length ((D p.natAbs).map I)] := by rw [hfr1 0 (by omega) (by omega)]; simp -implicitDefEqProofs (disch := omega) only [go_sem, ht, hH0, eq_self]
      have hB : H1 1 = some [.val (.bool (decide (q < 0))), .sl (D q.natAbs).length ((D q.natAbs).map I)] := by rw [hfr1 1 (by omega) (by omega)]; simp -implicitDefEqProofs (disch := omega) only [go_sem, ht, hH1', eq_self]
      simp -implicitDefEqProofs (disch := omega) only [go_sem, ht, h1, h3, h4, h6, h9, h10, eq_self]
      exact ⟨⟨hA, hB, i + 1, by omega, rfl, id1, cap1, rest1, rfl, hH1, by omega, by omega, by omega⟩, by omega⟩
end
end Go.Proofs.Ytfjdfnlkobeehaa.Ref
namespace Go.Proofs.Ytfjdfnlkobeehaa
theorem nnA_rep {E : En} {ds : List PV} : ∀ {qs : List PV} {vs : List Value}, RepL E (qs ++ ds) vs → RepL E (qs.map nn1 ++ ds) vs
  | [], _, h => h
  | q :: qs, v :: vs, h => by
    simp only [List.cons_append, List.map_cons, RepL] at h ⊢
    exact ⟨nn1_rep h.1, nnA_rep h.2⟩
  | _ :: _, [], h => by simp [RepL] at h
theorem mapM_app' {α β : Type} {f : α → Option β} : ∀ {l m : List α} {a b : List β}, l.mapM f = some a → m.mapM f = some b → (l ++ m).mapM f = some (a ++ b)
  | [], m, a, b, h, h' => by
    obtain rfl : a = [] := by simpa using h.symm
    exact h'
  | x :: l, m, a, b, h, h' => by
    rw [mapMo_cons] at h
    cases hf : f x with
    | none => rw [hf] at h; simp at h
    | some y =>
      cases hg : l.mapM f with
      | none => rw [hf, hg] at h; simp at h
      | some ys =>
        rw [hf, hg] at h
        have e : y :: ys = a := by simpa using h
        subst e
        rw [List.cons_append, mapMo_cons, hf, mapM_app' hg h']; rfl

theorem Gh.rows {st : PS} {id : Nat} {cs qs ws : List PV} {rest : List Value} (D : Nat → Bool) (h0 : st.H id = some (cs ++ rest.map .val)) (hD : D id = false) (hq : cs.mapM (Ytfjdfnlkobeehaa.frz D st.H 1) = some qs) (hw : qs.map nn1 = ws) :
    Gh st (st.withH (upd (dropH D st.H) id (some (ws ++ rest.map .val))) st.nx) := by
  subst hw
  have h1 := Gh.frzH D 1 h0 hD (mapM_app' hq (frzL_flat D st.H 1 (flatL_val rest)))
  refine Gh.trans h1 ?_
  have h2 := Gh.weak (st := st.withH (upd (dropH D st.H) id (some (qs ++ rest.map .val))) st.nx) (id := id) (cs := qs ++ rest.map .val) (qs := qs.map nn1 ++ rest.map .val) (by show upd _ id _ id = _; rw [upd_self]) (fun e => by simpa using e) (fun e => by simpa using e) fun _ _ h => nnA_rep h
  have e : upd (upd (dropH D st.H) id (some (qs ++ rest.map PV.val))) id (some (qs.map nn1 ++ rest.map PV.val)) = upd (dropH D st.H) id (some (qs.map nn1 ++ rest.map PV.val)) := by
    funext j
    by_cases hj : j = id
    · subst hj; rw [upd_self, upd_self]
    · rw [upd_ne _ _ hj, upd_ne _ _ hj, upd_ne _ _ hj]
  rw [← e]
  exact h2
end Go.Proofs.Ytfjdfnlkobeehaa
namespace Go.Proofs.Ytfjdfnlkobeehaa.Ref
open Ytfjdfnlkobeehaa (SWc SW WX WC WV vals vals_len SM lenM Rn vc vc_lt canZ canZ_len combZ combZ_len combZ_take primZ upZ upZ_len SW_def SM_def cZ get_SM' getD_take getD_mem insR insB zeroB getD_vals wrongM)

def SNM (W : List (List Int)) : PV := .sl W.length (W.map SN)
theorem SNM_def (W : List (List Int)) : SNM W = .sl W.length (W.map SN) := rfl
theorem SNM_flat (W : List (List Int)) : flatL (W.map SN) = true := by
  induction W with
  | nil => rfl
  | cons l m ih => simp only [List.map_cons, flatL, SN_def, flat, SNc_flat, ih, Bool.and_self]
theorem get_SNM {W : List (List Int)} {i : Nat} (r : List PV) (h : i < W.length) : (W.map SN ++ r)[i]? = some (SN (W.getD i [])) := by
  rw [List.getElem?_append_left (by simpa using h)]
  simp [h]
theorem get_SNM' {W : List (List Int)} {i : Nat} (h : i < W.length) : (W.map SN)[i]? = some (SN (W.getD i [])) := by simp [h]
theorem set_SNM {W : List (List Int)} {i : Nat} {z : List Int} {n : Nat} (r : List PV) (h : i < W.length) (hn : n = z.length) : spl (W.map SN ++ r) i [.sl n (SNc z)] = (W.set i z).map SN ++ r := by
  subst hn
  unfold spl
  simp only [List.length_singleton]
  rw [List.take_append_of_le_length (by simpa using Nat.le_of_lt h), List.drop_append_of_le_length (by simp; omega), List.set_eq_take_append_cons_drop, if_pos h]
  simp [SN_def]
theorem nn1_SNM (W : List (List Int)) : (W.map SN).map nn1 = W.map SN := by
  rw [List.map_map]; rfl
attribute [go_sem] SNM_def SNM_flat get_SNM
section
variable {W : List (List Int)} {cols : Nat}
set_option maxHeartbeats 4000000 in
theorem copied_z (hW : ∀ z ∈ W, z.length ≤ 1000000) (hlen : W.length ≤ 1000000) : PO1 Try.prog 94 [SNM W] (fun p => p) (W.map SN) := by
  refine PCalls.enter (n := 20) (rs := [.tmp 2]) (tb := []) Try.func94 rfl rfl rfl (by kernel_rfl) (by kernel_rfl) (by simp) fun c hc ht => ?_
  simp -implicitDefEqProofs (disch := omega) only [go_sem, ht, eq_self]
  refine LW.ghost (Gh.nilW 3 1 (by simp -implicitDefEqProofs (disch := omega) only [go_sem, ht, eq_self])) ?_
  refine LW.loopG hc ht (by kernel_rfl) (fun t => t.sl 0 = .sl W.length (W.map SN) ∧ ∃ i : Nat, i ≤ W.length ∧ t.sl 4 = .val (.int .i64 i) ∧ ∃ (id cap : Nat) (rest : List Value) (D : Nat → Bool) (cs qs : List PV), t.sl 3 = .ref id 0 i cap 1 ∧ t.H id = some (cs ++ rest.map .val) ∧ i + rest.length = cap ∧ id < t.nx ∧ D id = false ∧ cs.mapM (Ytfjdfnlkobeehaa.frz D t.H 1) = some qs ∧ qs.map nn1 = (W.take i).map SN)
    (fun t => match t.sl 4 with | .val (.int _ k) => W.length - k.toNat | _ => 0) ?_ ?_
  · simp -implicitDefEqProofs (disch := omega) only [go_sem, ht, eq_self]
    exact ⟨0, Nat.zero_le _, rfl, _, 0, [], fun _ => false, [], [], rfl, upd_self _ _ _, rfl, by omega, rfl, rfl, rfl⟩
  · rintro t ⟨h0, i, hi, h4, id, cap, rest, D, cs, qs, h3, hH, hcap, hid, hD, hfz, hqs⟩
    refine ⟨_, Gh.rows D hH hD hfz hqs, ?_⟩
    by_cases hil : i = W.length
    · subst hil
      rw [List.take_length]
      simp -implicitDefEqProofs (disch := omega) only [go_sem, ht, h0, h3, h4, eq_self]
      exact end_own1 (mk := fun p => p) (by simp -implicitDefEqProofs (disch := omega) only [go_sem, ht, List.length_map, eq_self] <;> rfl) (by simp -implicitDefEqProofs (disch := omega) only [go_sem, ht, upd_self, eq_self] <;> rfl) (by simp) (by simp; omega)
    · have hlt : i < W.length := by omega
      have hgi := get_SNM' hlt
      have hzl := hW _ (getD_mem (d := []) hlt)
      have hst : (W.take (i + 1)).map SN = (W.take i).map SN ++ [SN (W.getD i [])] := by
        rw [getD_take (d := []) hlt, List.map_append]; rfl
      have hln : ((W.take i).map SN).length = i := by simp; omega
      have hfw := fun D H => Ytfjdfnlkobeehaa.frzL_flat D H 1 (SNM_flat (W.take i))
      have hnw := nn1_SNM (W.take i)
      generalize W.getD i [] = z at *
      generalize (W.take i).map SN = ws at *
      simp -implicitDefEqProofs (disch := omega) only [go_sem, ht, h0, h3, h4, hgi, eq_self]
      refine append_nilS (m := z.length) (sz := 2) (ys := SNc z) T96_elem rfl T103_size T103_bytes T103_zero rfl (by simp -implicitDefEqProofs (disch := omega) only [go_sem, ht, srcP_sl, eq_self]; rw [if_pos (by rw [SNc_len]; omega)]) (SNc_one z) (by omega) (fun h00 => ?_) (fun capr restr hcapr hpos => ?_)
      · have hz0 : z = [] := List.eq_nil_of_length_eq_zero h00
        subst hz0
        simp -implicitDefEqProofs (disch := omega) only [go_sem, ht, h0, h3, h4, eq_self]
        have hne : id ≠ t.nx := by omega
        (refine append_own (by simp -implicitDefEqProofs (disch := omega) only [srcP_ref, srcP_sl, srcP_nil, Option.isSome_some, upd_self, hne, go_sem, ht, eq_self] <;> rfl) (by simp -implicitDefEqProofs (disch := omega) only [srcP_ref, srcP_sl, srcP_nil, Option.isSome_some, upd_self, hne, go_sem, ht, eq_self] <;> rfl) (by simp -implicitDefEqProofs (disch := omega) only [srcP_ref, srcP_sl, srcP_nil, Option.isSome_some, upd_self, hne, go_sem, ht, eq_self] <;> rfl) (by simp -implicitDefEqProofs (disch := omega) only [srcP_ref, srcP_sl, srcP_nil, Option.isSome_some, upd_self, hne, go_sem, ht, eq_self] <;> rfl) (by simp -implicitDefEqProofs (disch := omega) only [srcP_ref, srcP_sl, srcP_nil, Option.isSome_some, upd_self, hne, go_sem, ht, eq_self] <;> rfl) (by simp -implicitDefEqProofs (disch := omega) only [srcP_ref, srcP_sl, srcP_nil, Option.isSome_some, upd_self, hne, go_sem, ht, eq_self] <;> rfl) (by simp -implicitDefEqProofs (disch := omega) only [srcP_ref, srcP_sl, srcP_nil, Option.isSome_some, upd_self, hne, go_sem, ht, eq_self] <;> rfl) (by simp -implicitDefEqProofs (disch := omega) only [srcP_ref, srcP_sl, srcP_nil, Option.isSome_some, upd_self, hne, go_sem, ht, eq_self] <;> rfl) (by first | omega | (simp <;> omega)) (by first | assumption | (simp <;> omega)) (by first | rfl | simp) (by first | omega | (simp <;> omega)) ?_; intro id1 cap1 rest1 H1 nx1 hH1 hcap1 hid1 hnx1 hfr1 hfs1; (try simp only [put_nx, withH_nx, put_H, withH_H] at hid1 hnx1 hfr1 hfs1); (try simp only [app_U, ← List.map_append] at hH1))
        simp -implicitDefEqProofs (disch := omega) only [go_sem, ht, h0, h3, h4, eq_self]
        refine ⟨⟨i + 1, by omega, rfl, id1, cap1, rest1, fun _ => false, _, ws ++ [.val (.slice none 0 0)], rfl, hH1, by omega, by omega, rfl, ?_, ?_⟩, by omega⟩
        · exact mapM_app' (hfw _ _) rfl
        · rw [List.map_append, hnw, hst]; rfl
      · simp -implicitDefEqProofs (disch := omega) only [go_sem, ht, h0, h3, h4, eq_self]
        have hne : id ≠ t.nx := by omega
        have hne2 : id ≠ t.nx + 1 := by omega
        (refine append_own (by simp -implicitDefEqProofs (disch := omega) only [srcP_ref, srcP_sl, srcP_nil, Option.isSome_some, upd_self, hne, hne2, go_sem, ht, eq_self] <;> rfl) (by simp -implicitDefEqProofs (disch := omega) only [srcP_ref, srcP_sl, srcP_nil, Option.isSome_some, upd_self, hne, hne2, go_sem, ht, eq_self] <;> rfl) (by simp -implicitDefEqProofs (disch := omega) only [srcP_ref, srcP_sl, srcP_nil, Option.isSome_some, upd_self, hne, hne2, go_sem, ht, eq_self] <;> rfl) (by simp -implicitDefEqProofs (disch := omega) only [srcP_ref, srcP_sl, srcP_nil, Option.isSome_some, upd_self, hne, hne2, go_sem, ht, eq_self] <;> rfl) (by simp -implicitDefEqProofs (disch := omega) only [srcP_ref, srcP_sl, srcP_nil, Option.isSome_some, upd_self, hne, hne2, go_sem, ht, eq_self] <;> rfl) (by simp -implicitDefEqProofs (disch := omega) only [srcP_ref, srcP_sl, srcP_nil, Option.isSome_some, upd_self, hne, hne2, go_sem, ht, eq_self] <;> rfl) (by simp -implicitDefEqProofs (disch := omega) only [srcP_ref, srcP_sl, srcP_nil, Option.isSome_some, upd_self, hne, hne2, go_sem, ht, eq_self] <;> rfl) (by simp -implicitDefEqProofs (disch := omega) only [srcP_ref, srcP_sl, srcP_nil, Option.isSome_some, upd_self, hne, hne2, go_sem, ht, eq_self] <;> rfl) (by first | omega | (simp <;> omega)) (by first | assumption | (simp <;> omega)) (by first | rfl | simp) (by first | omega | (simp <;> omega)) ?_; intro id1 cap1 rest1 H1 nx1 hH1 hcap1 hid1 hnx1 hfr1 hfs1; (try simp only [put_nx, withH_nx, put_H, withH_H] at hid1 hnx1 hfr1 hfs1); (try simp only [app_U, ← List.map_append] at hH1))
        simp -implicitDefEqProofs (disch := omega) only [go_sem, ht, h0, h3, h4, eq_self]
        have hHr : H1 t.nx = some (SNc z ++ restr.map .val) := by rw [hfr1 _ (by omega) (by omega)]; simp -implicitDefEqProofs (disch := omega) only [go_sem, ht, upd_self, eq_self]
        refine ⟨⟨i + 1, by omega, rfl, id1, cap1, rest1, fun x => decide (x = t.nx), _, ws ++ [SN z], rfl, hH1, by omega, by omega, by simp; omega, ?_, ?_⟩, by omega⟩
        · refine mapM_app' (hfw _ _) ?_
          rw [mapMo_cons, frz_ref, if_pos (by simp), hHr, Option.bind_some, if_pos (by simp [SNc_len]; omega)]
          rw [List.drop_zero, take_SNc z _ rfl, frzL_SNc]; rfl
        · rw [List.map_append, hnw, hst]; rfl
end
end Go.Proofs.Ytfjdfnlkobeehaa.Ref
end

section
set_option maxRecDepth 100000
set_option linter.unusedVariables false
set_option linter.unusedSimpArgs false
namespace Go.Proofs.Ytfjdfnlkobeehaa.Ref
open Ytfjdfnlkobeehaa (SWc SW WX WC WV vals vals_len SM lenM Rn vc vc_lt canZ canZ_len combZ combZ_len combZ_take primZ upZ upZ_len SW_def SM_def cZ get_SM' getD_take getD_mem insR insB zeroB getD_vals wrongM
  EZ echW echT part part_len part_get part_set part_same findP findP_eq findP_end swapL swapL_len swapL_get swp swp_bd clearAll clearAll_len clearAll_get stepE clearZ up_vc0)

theorem getD_map {f : List Int → List Int} {W : List (List Int)} {i : Nat} (h : i < W.length) : (W.map f).getD i [] = f (W.getD i []) := by simp [h]
theorem upZ_z {z : List Int} {k : Nat} (h : ∀ x ∈ z, Z k x) : ∀ x ∈ upZ z, Z k x := fun x hx => by
  rcases Ytfjdfnlkobeehaa.upZ_cases z with e | e
  · rw [e] at hx; exact h x hx
  · rw [e] at hx
    obtain ⟨y, hy, rfl⟩ := List.mem_map.1 hx
    exact (h y hy).neg
section
variable {R : List (List Int)} {cols K B : Nat}
set_option maxHeartbeats 16000000 in
theorem reduce_z (hm : ∀ z ∈ R, (∀ x ∈ z, Z K x) ∧ z.length = cols) (hK : K ≤ 100000) (hcols : cols ≤ 1000) (hlen : R.length ≤ 10000) (hEZ : ∀ c, EZ 4294967296 B R.length cols (echW R c)) (hsh : ∀ c k, k < R.length → ∀ x ∈ (echW R c).1.getD k [], Z (B + 1) x) (hB : 2 * (B + 1) + 1 ≤ 100000) :
    PT Try.prog 57 [SNM R, .val (.int .i64 cols)] (isV (.tup [SNM (echT R cols), .sl (echW R cols).2.length ((echW R cols).2.map I)])) := by
  have hcp := copied_z (W := R) (fun z hz => by rw [(hm z hz).2]; omega) (by omega)
  have hRl : (R.map SN).length = R.length := by simp
  have hUl : (R.map canZ).length = R.length := by simp
  refine PCalls.enter (n := 129) (rs := [.tmp 4, .tmp 5]) (tb := [(22, [(0, []), (1, []), (2, []), (3, []), (4, []), (5, []), (6, []), (7, []), (8, []), (9, []), (10, []), (11, []), (12, []), (13, []), (14, []), (15, []), (16, []), (17, []), (18, []), (19, []), (20, []), (21, []), (22, []), (23, []), (24, [0, 1]), (25, []), (26, [])]), (1000022, [(0, []), (0, []), (0, []), (0, []), (12, []), (28, []), (0, []), (124, []), (252, []), (0, []), (0, []), (1536, []), (3584, []), (0, []), (0, []), (24576, []), (57344, []), (0, []), (253952, []), (516096, []), (0, []), (0, []), (3145728, []), (7340032, []), (16777212, []), (33554431, []), (67108863, [])])]) Try.func57 rfl rfl rfl (by kernel_rfl) (by kernel_rfl) (by simp) fun c hc ht => ?_
  simp -implicitDefEqProofs (disch := omega) only [go_sem, ht, eq_self]
  (refine pCall_ownF (mk := fun p => p) (Ytfjdfnlkobeehaa.mk_id) (by simp -implicitDefEqProofs (disch := omega) only [go_sem, ht, eq_self] <;> rfl) (by simp -implicitDefEqProofs (disch := omega) only [go_sem, ht, eq_self]) (by simp -implicitDefEqProofs (disch := omega) only [go_sem, ht, eq_self]) (SNM_flat _) (hcp) ?_; intro id1 cap1 rest1 nx1 hid1 hnx1 hcap1; simp only [put_nx, withH_nx, begP_nx, List.length_map] at hid1 hcap1; simp -implicitDefEqProofs (disch := omega) only [go_sem, ht, eq_self])
  refine LW.loopW hc ht (by kernel_rfl) (fun t => t.sl 1 = .val (.int .i64 cols) ∧ t.sl 6 = .ref id1 0 R.length cap1 1 ∧ id1 < t.nx ∧ ∃ i : Nat, i ≤ R.length ∧ t.sl 7 = .val (.int .i64 i) ∧ t.H id1 = some (((part (R.map canZ) R i).map SN) ++ rest1.map .val))
    (fun t => match t.sl 7 with | .val (.int _ k) => R.length - k.toNat | _ => 0) ?_ ?_
  · simp -implicitDefEqProofs (disch := omega) only [go_sem, ht, eq_self]
    exact ⟨by omega, 0, Nat.zero_le _, rfl, by simp [part]⟩
  · rintro t ⟨h1, h6, hid, i, hi, h7, hH⟩
    by_cases hil : i = R.length
    · subst hil
      have hpt : part (R.map canZ) R R.length = (echW R 0).1.map upZ := by
        unfold part
        rw [List.take_of_length_le (by omega), List.drop_of_length_le (by omega), List.append_nil]
        show R.map canZ = (R.map primZ).map upZ
        rw [List.map_map]; rfl
      rw [hpt] at hH
      simp -implicitDefEqProofs (disch := omega) only [go_sem, ht, h1, h6, h7, eq_self]
      refine LW.ghost (Gh.nilW 8 1 (by simp -implicitDefEqProofs (disch := omega) only [go_sem, ht, eq_self])) ?_
      refine LW.loopW hc ht (by kernel_rfl) (fun t => t.sl 1 = .val (.int .i64 cols) ∧ t.sl 6 = .ref id1 0 R.length cap1 1 ∧ id1 < t.nx ∧ ∃ c : Nat, c ≤ cols ∧ t.sl 9 = .val (.int .i64 c) ∧ t.H id1 = some ((((echW R c).1.map upZ).map SN) ++ rest1.map .val) ∧
          ∃ (ip cp : Nat) (rp : List Value), t.sl 8 = .ref ip 0 (echW R c).2.length cp 1 ∧ t.H ip = some ((echW R c).2.map I ++ rp.map .val) ∧ (echW R c).2.length + rp.length = cp ∧ ip < t.nx ∧ ip ≠ id1)
        (fun t => match t.sl 9 with | .val (.int _ k) => cols - k.toNat | _ => 0) ?_ ?_
      · simp -implicitDefEqProofs (disch := omega) only [go_sem, ht, h1, h6, h7, eq_self]
        exact ⟨0, Nat.zero_le _, rfl, hH, _, 0, [], rfl, upd_self _ _ _, rfl, by omega, by omega⟩
      · clear h1 h6 hid h7 hH hi hpt
        rintro t ⟨h1, h6, hid, c, hcc, h9, hH, ip, cp, rp, h8, hHp, hcp, hip, hne⟩
        by_cases hcl : c = cols
        · subst hcl
          have E := hEZ c
          have hlW := E.len
          have htle : (echW R c).2.length ≤ R.length := by
            obtain ⟨O, κ, hE, _⟩ := E.st
            exact hE.tle
          unfold echT
          generalize (echW R c).1 = W at *
          generalize (echW R c).2 = Pv at *
          have htk : List.take Pv.length ((W.map upZ).map SN ++ rest1.map .val) = ((W.take Pv.length).map upZ).map SN := by
            rw [List.take_append_of_le_length (by simp; omega), ← List.map_take, ← List.map_take]
          have hfl := SNM_flat ((W.take Pv.length).map upZ)
          have hfl2 := fun d => Ytfjdfnlkobeehaa.frzL_flat (fun _ => true) t.H d hfl
          have hm2 : ((W.take Pv.length).map upZ).length = Pv.length := by simp; omega
          have hif : (if cap1 = 0 then 0 else 0) = 0 := by simp
          have hWl : ((W.map upZ).map SN).length = R.length := by simp; exact hlW
          have hle : Pv.length ≤ W.length + rest1.length := by omega
          have hPl : (Pv.map I).length = Pv.length := by simp
          have hpt2 := take_Il Pv (rp.map .val)
          have hfp := fun d => frzL_I (fun _ => true) t.H d Pv
          have hle2 : Pv.length ≤ Pv.length + rp.length := by omega
          have hpc : Pv.length ≤ cap1 := by omega
          generalize (W.take Pv.length).map upZ = T at *
          simp -implicitDefEqProofs (disch := omega) only [go_sem, ht, h1, h6, h9, h8, hif, hpc, eq_self]
          (refine end_treeM 2 ?_; simp -implicitDefEqProofs (disch := omega) only [go_sem, ht, hH, hHp, htk, hfl2, hfl, hle, if_pos, hm2, hpt2, hfp, hle2, hPl, flatL_I, hRl, hWl, eq_self])
          done
        · have E := hEZ c
          have hshc := hsh c
          have hlW := E.len
          have hrow := E.row
          have htle : (echW R c).2.length ≤ R.length := by
            obtain ⟨O, κ, hE, _⟩ := E.st
            exact hE.tle
          have hst : echW R (c + 1) = stepE c (echW R c) := rfl
          obtain ⟨W, eW⟩ : ∃ W, (echW R c).1 = W := ⟨_, rfl⟩
          obtain ⟨Pv, eP⟩ : ∃ Pv, (echW R c).2 = Pv := ⟨_, rfl⟩
          rw [eW] at hH hlW hrow hshc
          rw [eP] at h8 hHp hcp htle
          have hst2 : echW R (c + 1) = if findP W c Pv.length < W.length then (clearAll (swapL W Pv.length (findP W c Pv.length)) Pv.length c, Pv ++ [c]) else (W, Pv) := by
            rw [hst, stepE, eW, eP]
            split
            · rfl
            · rw [← eW, ← eP]
          clear hst E
          have hUW : (W.map upZ).length = R.length := by simp; exact hlW
          have hUget : ∀ k, k < R.length → (W.map upZ).getD k [] = upZ (W.getD k []) := fun k hk => getD_map (f := upZ) (by omega)
          simp -implicitDefEqProofs (disch := omega) only [go_sem, ht, h1, h6, h9, h8, eq_self]
          refine LW.loopW hc ht (by kernel_rfl) (fun s => s.sl 1 = .val (.int .i64 cols) ∧ s.sl 6 = .ref id1 0 R.length cap1 1 ∧ id1 < s.nx ∧ s.sl 9 = .val (.int .i64 c) ∧ s.sl 10 = .val (.int .i64 Pv.length) ∧ s.H id1 = some (((W.map upZ).map SN) ++ rest1.map .val) ∧
              s.sl 8 = .ref ip 0 Pv.length cp 1 ∧ s.H ip = some (Pv.map I ++ rp.map .val) ∧ ip < s.nx ∧ ∃ i : Nat, i ≤ R.length ∧ Pv.length ≤ i ∧ s.sl 11 = .val (.int .i64 i) ∧ findP W c i = findP W c Pv.length)
            (fun s => match s.sl 11 with | .val (.int _ k) => R.length - k.toNat | _ => 0) ?_ ?_
          · simp -implicitDefEqProofs (disch := omega) only [go_sem, ht, h1, h6, h9, h8, eq_self]
            exact ⟨hid, hH, hHp, hip, Pv.length, htle, Nat.le_refl _, rfl, rfl⟩
          · clear h1 h6 h9 h8 hid hH hHp hip
            rintro s ⟨h1, h6, hid, h9, h10, hH, h8, hHp, hip, i, hi, hri, h11, hfi⟩
            by_cases hil : i = R.length
            · subst hil
              have hend : findP W c Pv.length = W.length := by rw [← hfi]; exact findP_end (by omega)
              rw [if_neg (by omega)] at hst2
              simp -implicitDefEqProofs (disch := omega) only [go_sem, ht, h1, h6, h9, h8, h10, h11, eq_self]
              exact ⟨⟨hid, c + 1, by omega, rfl, by rw [hst2]; exact hH, ip, cp, rp, by rw [hst2], by rw [hst2]; exact hHp, by rw [hst2]; exact hcp, hip, hne⟩, by omega⟩
            · have hlt : i < R.length := by omega
              obtain ⟨hzl, hzp⟩ := hrow i hlt
              have hgi := get_SNM (W := W.map upZ) (i := i) (rest1.map .val) (by omega)
              rw [hUget i hlt] at hgi
              have hul : (upZ (W.getD i [])).length = cols := by rw [upZ_len]; exact hzl
              have hat := SNc_at (zs := upZ (W.getD i [])) (i := c) (by omega)
              have hzs := upZ_z (hshc i hlt)
              have hsg := sign_z (okZ (Ytfjdfnlkobeehaa.vc_z hzs c) (by omega))
              have hfe := findP_eq (W := W) (c := c) (i := i) (by omega)
              by_cases hz0 : vc (W.getD i []) c = 0
              · rw [if_neg (by simpa using hz0)] at hfe
                rw [up_vc0.2 hz0, cZ_eq rfl] at hsg
                rw [up_vc0.2 hz0] at hat
                have hfi2 : findP W c (i + 1) = findP W c Pv.length := by rw [← hfe]; exact hfi
                simp -implicitDefEqProofs (disch := omega) only [go_sem, ht, h1, h6, h9, h8, h10, h11, hH, hgi, hul, hat, eq_self]
                (refine pCall_view (by simp -implicitDefEqProofs (disch := omega) only [h1, h6, h9, h8, h10, h11, hH, hgi, hul, hat, go_sem, ht, eq_self] <;> rfl) (by simp -implicitDefEqProofs (disch := omega) only [h1, h6, h9, h8, h10, h11, hH, hgi, hul, hat, go_sem, ht, eq_self]) (by first | (apply Or.inl; simp -implicitDefEqProofs (disch := omega) only [h1, h6, h9, h8, h10, h11, hH, hgi, hul, hat, go_sem, ht, eq_self]; done) | (apply Or.inr; rintro r rfl; rfl)) (hsg) ?_; rintro _ nx - rfl hnx; (try simp only [put_nx, withH_nx, begP_nx] at hnx); simp -implicitDefEqProofs (disch := omega) only [h1, h6, h9, h8, h10, h11, hH, hgi, hul, hat, go_sem, ht, eq_self])
                exact ⟨⟨by omega, hHp, by omega, i + 1, by omega, by omega, rfl, hfi2⟩, by omega⟩
              · rw [if_pos (by simpa using hz0)] at hfe
                have hfi3 : findP W c Pv.length = i := by rw [← hfi]; exact hfe
                rw [hfi3, if_pos (by omega)] at hst2
                have hu0 : vc (upZ (W.getD i [])) c ≠ 0 := fun e => hz0 (up_vc0.1 e)
                have hs0 : cZ (vc (upZ (W.getD i [])) c) 0 ≠ 0 := fun e => hu0 (Ytfjdfnlkobeehaa.cZ_zero.1 e)
                have hrlt : Pv.length < R.length := by omega
                have hir : i ≠ R.length := by omega
                have hgr := get_SNM (W := W.map upZ) (i := Pv.length) (rest1.map .val) (by omega)
                rw [hUget _ hrlt] at hgr
                have hur : (upZ (W.getD Pv.length [])).length = cols := by rw [upZ_len]; exact (hrow _ hrlt).1
                have hset1 := set_SNM (W := W.map upZ) (i := i) (z := upZ (W.getD Pv.length [])) (n := cols) (rest1.map .val) (by omega) hur.symm
                have hset2 := set_SNM (W := (W.map upZ).set i (upZ (W.getD Pv.length []))) (i := Pv.length) (z := upZ (W.getD i [])) (n := cols) (rest1.map .val) (by simp; omega) hul.symm
                have hsw : ((W.map upZ).set i (upZ (W.getD Pv.length []))).set Pv.length (upZ (W.getD i [])) = (swapL W Pv.length i).map upZ := by
                  unfold swapL
                  rw [List.map_set, List.map_set]
                  by_cases hpi : Pv.length = i
                  · rw [hpi]
                  · exact List.set_comm _ _ (by omega)
                rw [hsw] at hset2
                generalize cZ (vc (upZ (W.getD i [])) c) 0 = sx at *
                simp -implicitDefEqProofs (disch := omega) only [go_sem, ht, h1, h6, h9, h8, h10, h11, hH, hgi, hul, hat, eq_self]
                (refine pCall_view (by simp -implicitDefEqProofs (disch := omega) only [h1, h6, h9, h8, h10, h11, hH, hgi, hul, hat, hgr, hur, hset1, hset2, hir, go_sem, ht, eq_self] <;> rfl) (by simp -implicitDefEqProofs (disch := omega) only [h1, h6, h9, h8, h10, h11, hH, hgi, hul, hat, hgr, hur, hset1, hset2, hir, go_sem, ht, eq_self]) (by first | (apply Or.inl; simp -implicitDefEqProofs (disch := omega) only [h1, h6, h9, h8, h10, h11, hH, hgi, hul, hat, hgr, hur, hset1, hset2, hir, go_sem, ht, eq_self]; done) | (apply Or.inr; rintro r rfl; rfl)) (hsg) ?_; rintro _ nx - rfl hnx; (try simp only [put_nx, withH_nx, begP_nx] at hnx); simp -implicitDefEqProofs (disch := omega) only [h1, h6, h9, h8, h10, h11, hH, hgi, hul, hat, hgr, hur, hset1, hset2, hir, go_sem, ht, eq_self])
                refine ⟨by simp; omega, ?_⟩
                clear hgi hgr hat hset1 hset2 hsg hul hur hzs hu0 hs0
                have hW1l : (swapL W Pv.length i).length = R.length := by rw [swapL_len]; exact hlW
                have hVl : (clearAll (swapL W Pv.length i) Pv.length c).length = R.length := by rw [clearAll_len]; exact hW1l
                have hVr : (clearAll (swapL W Pv.length i) Pv.length c).getD Pv.length [] = (swapL W Pv.length i).getD Pv.length [] := by rw [clearAll_get (by omega), if_pos rfl]
                have hVk : ∀ k, k < R.length → k ≠ Pv.length → (clearAll (swapL W Pv.length i) Pv.length c).getD k [] = clearZ ((swapL W Pv.length i).getD k []) ((swapL W Pv.length i).getD Pv.length []) c := fun k hk hkr => by rw [clearAll_get (by omega), if_neg hkr]
                have hW1 : ∀ k, k < R.length → ((swapL W Pv.length i).getD k []).length = cols ∧ ∀ x ∈ (swapL W Pv.length i).getD k [], Z (B + 1) x := fun k hk => by
                  rw [swapL_get (by omega) (by omega) (by omega)]
                  have hb := swp_bd (i := i) (t := Pv.length) hlt hrlt hk
                  exact ⟨(hrow _ hb).1, hshc _ hb⟩
                have hst3 : echW R (c + 1) = (clearAll (swapL W Pv.length i) Pv.length c, Pv ++ [c]) := hst2
                generalize clearAll (swapL W Pv.length i) Pv.length c = V at *
                generalize swapL W Pv.length i = W1 at *
                refine LW.loopW hc ht (by kernel_rfl) (fun u => u.sl 1 = .val (.int .i64 cols) ∧ u.sl 6 = .ref id1 0 R.length cap1 1 ∧ id1 < u.nx ∧ u.sl 9 = .val (.int .i64 c) ∧ u.sl 10 = .val (.int .i64 Pv.length) ∧
                    u.sl 8 = .ref ip 0 Pv.length cp 1 ∧ u.H ip = some (Pv.map I ++ rp.map .val) ∧ ip < u.nx ∧ ∃ k : Nat, k ≤ R.length ∧ u.sl 13 = .val (.int .i64 k) ∧ u.H id1 = some ((((part V W1 k).map upZ).map SN) ++ rest1.map .val))
                  (fun u => match u.sl 13 with | .val (.int _ k) => R.length - k.toNat | _ => 0) ?_ ?_
                · simp -implicitDefEqProofs (disch := omega) only [go_sem, ht, h1, h6, h9, h8, h10, h11, hHp, hne, eq_self]
                  exact ⟨by omega, by omega, 0, Nat.zero_le _, rfl, by simp [part]⟩
                · clear h1 h6 h9 h8 h10 h11 hid hH hHp hip
                  rintro u ⟨h1, h6, hid, h9, h10, h8, hHp, hip, k, hk, h13, hH⟩
                  by_cases hkl : k = R.length
                  · have hpt : part V W1 k = V := by
                      unfold part
                      rw [List.take_of_length_le (by omega), List.drop_of_length_le (by omega), List.append_nil]
                    rw [hpt] at hH
                    subst hkl
                    simp -implicitDefEqProofs (disch := omega) only [go_sem, ht, h1, h6, h9, h8, h10, h13, eq_self]
                    have hpl : (Pv.map I).length = Pv.length := by simp
                    (refine append_own (by simp -implicitDefEqProofs (disch := omega) only [srcP_ref, srcP_sl, srcP_nil, Option.isSome_some, hHp, go_sem, ht, eq_self] <;> rfl) (by simp -implicitDefEqProofs (disch := omega) only [srcP_ref, srcP_sl, srcP_nil, Option.isSome_some, hHp, go_sem, ht, eq_self] <;> rfl) (by simp -implicitDefEqProofs (disch := omega) only [srcP_ref, srcP_sl, srcP_nil, Option.isSome_some, hHp, go_sem, ht, eq_self] <;> rfl) (by simp -implicitDefEqProofs (disch := omega) only [srcP_ref, srcP_sl, srcP_nil, Option.isSome_some, hHp, go_sem, ht, eq_self] <;> rfl) (by simp -implicitDefEqProofs (disch := omega) only [srcP_ref, srcP_sl, srcP_nil, Option.isSome_some, hHp, go_sem, ht, eq_self] <;> rfl) (by simp -implicitDefEqProofs (disch := omega) only [srcP_ref, srcP_sl, srcP_nil, Option.isSome_some, hHp, go_sem, ht, eq_self] <;> rfl) (by simp -implicitDefEqProofs (disch := omega) only [srcP_ref, srcP_sl, srcP_nil, Option.isSome_some, hHp, go_sem, ht, eq_self] <;> rfl) (by simp -implicitDefEqProofs (disch := omega) only [srcP_ref, srcP_sl, srcP_nil, Option.isSome_some, hHp, go_sem, ht, eq_self] <;> rfl) (by simp <;> omega) (by first | assumption | (simp <;> omega)) (by first | rfl | simp) (by first | omega | (simp <;> omega)) ?_; intro id2 cap2 rest2 H2 nx2 hH2 hcap2 hid2 hnx2 hfr2 hfs2; simp only [put_nx, withH_nx, put_H, withH_H] at hid2 hnx2 hfr2 hfs2; (try simp only [app_U, ← List.map_append] at hH2))
                    have hH2' : H2 id2 = some ((Pv ++ [c]).map I ++ rest2.map .val) := by rw [← app_I]; exact hH2
                    have hHw : H2 id1 = some ((V.map upZ).map SN ++ rest1.map .val) := by rw [hfr2 _ (by omega) (by omega)]; simp -implicitDefEqProofs (disch := omega) only [go_sem, ht, hH, eq_self]
                    simp -implicitDefEqProofs (disch := omega) only [go_sem, ht, h1, h6, h9, h8, h10, h13, eq_self]
                    exact ⟨⟨by omega, c + 1, by omega, rfl, by rw [hst3]; exact hHw, id2, cap2, rest2, by rw [hst3]; simp, by rw [hst3]; exact hH2', by rw [hst3]; simp; omega, by omega, by omega⟩, by omega⟩
                  · have hklt : k < R.length := by omega
                    have hXl := part_len (V := V) (W := W1) (k := k) (by omega) (by omega)
                    by_cases hkr : k = Pv.length
                    · have hps := part_same (V := V) (W := W1) (k := k) (by omega) (by omega) (by rw [hkr]; exact hVr)
                      rw [hps] at hH
                      subst hkr
                      simp -implicitDefEqProofs (disch := omega) only [go_sem, ht, h1, h6, h9, h8, h10, h13, eq_self]
                      exact ⟨⟨hid, hHp, hip, Pv.length + 1, by omega, rfl, hH⟩, by omega⟩
                    · obtain ⟨hl1, hz1⟩ := hW1 k hklt
                      obtain ⟨hl2, hz2⟩ := hW1 Pv.length hrlt
                      have hXk : (part V W1 k).getD k [] = W1.getD k [] := by rw [part_get (by omega) (by omega), if_neg (by omega)]
                      have hXr : (part V W1 k).getD Pv.length [] = W1.getD Pv.length [] := by
                        rw [part_get (by omega) (by omega)]
                        split
                        · exact hVr
                        · rfl
                      have hgk := get_SNM (W := (part V W1 k).map upZ) (i := k) (rest1.map .val) (by simp; omega)
                      have hgr := get_SNM (W := (part V W1 k).map upZ) (i := Pv.length) (rest1.map .val) (by simp; omega)
                      rw [getD_map (f := upZ) (by omega), hXk] at hgk
                      rw [getD_map (f := upZ) (by omega), hXr] at hgr
                      have hlk : (upZ (W1.getD k [])).length = cols := by rw [upZ_len]; exact hl1
                      have hlr : (upZ (W1.getD Pv.length [])).length = cols := by rw [upZ_len]; exact hl2
                      have hat := SNc_at (zs := upZ (W1.getD k [])) (i := c) (by omega)
                      have hatr := SNc_at (zs := upZ (W1.getD Pv.length [])) (i := c) (by omega)
                      have zk := Ytfjdfnlkobeehaa.vc_z (upZ_z hz1) c
                      have zr := Ytfjdfnlkobeehaa.vc_z (upZ_z hz2) c
                      have hsg := sign_z (okZ zk (by omega))
                      by_cases hz0 : vc (W1.getD k []) c = 0
                      · have hps := part_same (V := V) (W := W1) (k := k) (by omega) (by omega) (by rw [hVk k hklt hkr, clearZ, if_pos hz0])
                        rw [up_vc0.2 hz0, cZ_eq rfl] at hsg
                        rw [up_vc0.2 hz0] at hat
                        have hH' := hH
                        rw [hps] at hH'
                        generalize upZ (W1.getD k []) = wk at *
                        simp -implicitDefEqProofs (disch := omega) only [go_sem, ht, h1, h6, h9, h8, h10, h13, hH, hgk, hlk, hat, eq_self]
                        (refine pCall_view (by simp -implicitDefEqProofs (disch := omega) only [h1, h6, h9, h8, h10, h13, hH, hgk, hlk, hat, go_sem, ht, eq_self] <;> rfl) (by simp -implicitDefEqProofs (disch := omega) only [h1, h6, h9, h8, h10, h13, hH, hgk, hlk, hat, go_sem, ht, eq_self]) (by first | (apply Or.inl; simp -implicitDefEqProofs (disch := omega) only [h1, h6, h9, h8, h10, h13, hH, hgk, hlk, hat, go_sem, ht, eq_self]; done) | (apply Or.inr; rintro r rfl; rfl)) (hsg) ?_; rintro _ nx - rfl hnx; (try simp only [put_nx, withH_nx, begP_nx] at hnx); simp -implicitDefEqProofs (disch := omega) only [h1, h6, h9, h8, h10, h13, hH, hgk, hlk, hat, go_sem, ht, eq_self])
                        refine ⟨⟨by omega, hHp, by omega, k + 1, by omega, rfl, ?_⟩, by omega⟩
                        rw [← hps]
                      · have hu0 : vc (upZ (W1.getD k [])) c ≠ 0 := fun e => hz0 (up_vc0.1 e)
                        have hs0 : cZ (vc (upZ (W1.getD k [])) c) 0 ≠ 0 := fun e => hu0 (Ytfjdfnlkobeehaa.cZ_zero.1 e)
                        have hj := joined_z zr zk (upZ_z hz1) (upZ_z hz2) (by omega) hB (by omega)
                        have hjc : canZ (combZ (vc (upZ (W1.getD Pv.length [])) c) (vc (upZ (W1.getD k [])) c) (upZ (W1.getD k [])) (upZ (W1.getD Pv.length []))) = upZ (V.getD k []) := by
                          rw [Ytfjdfnlkobeehaa.join_up hz0, hVk k hklt hkr]
                        rw [hjc] at hj
                        have hlv : (upZ (V.getD k [])).length = cols := by rw [upZ_len, hVk k hklt hkr, Ytfjdfnlkobeehaa.clearZ_len (by omega)]; exact hl1
                        have hps := part_set (V := V) (W := W1) (k := k) (by omega) (by omega)
                        have hset := set_SNM (W := (part V W1 k).map upZ) (i := k) (z := upZ (V.getD k [])) (n := cols) (rest1.map .val) (by simp; omega) hlv.symm
                        rw [← List.map_set, hps] at hset
                        rw [SN_def, SN_def, SN_def, hlk, hlr, hlv] at hj
                        clear zk zr hz0 hjc
                        generalize upZ (V.getD k []) = vk at *
                        generalize vc (upZ (W1.getD k [])) c = xk at *
                        generalize vc (upZ (W1.getD Pv.length [])) c = xr at *
                        generalize upZ (W1.getD k []) = wk at *
                        generalize upZ (W1.getD Pv.length []) = wr at *
                        generalize cZ xk 0 = sx at *
                        simp -implicitDefEqProofs (disch := omega) only [go_sem, ht, h1, h6, h9, h8, h10, h13, hH, hgk, hlk, hat, eq_self]
                        ((refine pCall_view (by simp -implicitDefEqProofs (disch := omega) only [h1, h6, h9, h8, h10, h13, hH, hgk, hgr, hlk, hlr, hat, hatr, hset, hs0, go_sem, ht, eq_self] <;> rfl) (by simp -implicitDefEqProofs (disch := omega) only [h1, h6, h9, h8, h10, h13, hH, hgk, hgr, hlk, hlr, hat, hatr, hset, hs0, go_sem, ht, eq_self]) (by first | (apply Or.inl; simp -implicitDefEqProofs (disch := omega) only [h1, h6, h9, h8, h10, h13, hH, hgk, hgr, hlk, hlr, hat, hatr, hset, hs0, go_sem, ht, eq_self]; done) | (apply Or.inr; rintro r rfl; rfl)) (hsg) ?_; rintro _ nx_1 - rfl hnx_1; (try simp only [put_nx, withH_nx, begP_nx] at hnx_1); simp -implicitDefEqProofs (disch := omega) only [h1, h6, h9, h8, h10, h13, hH, hgk, hgr, hlk, hlr, hat, hatr, hset, hs0, go_sem, ht, eq_self]); (refine pCall_view (by simp -implicitDefEqProofs (disch := omega) only [h1, h6, h9, h8, h10, h13, hH, hgk, hgr, hlk, hlr, hat, hatr, hset, hs0, go_sem, ht, eq_self] <;> rfl) (by simp -implicitDefEqProofs (disch := omega) only [h1, h6, h9, h8, h10, h13, hH, hgk, hgr, hlk, hlr, hat, hatr, hset, hs0, go_sem, ht, eq_self]) (by first | (apply Or.inl; simp -implicitDefEqProofs (disch := omega) only [h1, h6, h9, h8, h10, h13, hH, hgk, hgr, hlk, hlr, hat, hatr, hset, hs0, go_sem, ht, eq_self]; done) | (apply Or.inr; rintro r rfl; rfl)) (hj) ?_; rintro _ nx_2 - rfl hnx_2; (try simp only [put_nx, withH_nx, begP_nx] at hnx_2); simp -implicitDefEqProofs (disch := omega) only [h1, h6, h9, h8, h10, h13, hH, hgk, hgr, hlk, hlr, hat, hatr, hset, hs0, go_sem, ht, eq_self]))
                        exact ⟨⟨by omega, hHp, by omega, k + 1, by omega, rfl, rfl⟩, by omega⟩
    · have hlt : i < R.length := by omega
      obtain ⟨hzz, hzl⟩ := hm _ (getD_mem (d := []) hlt)
      have hXl := part_len (V := R.map canZ) (W := R) (k := i) (by omega) (by omega)
      have hgi := get_SNM (W := part (R.map canZ) R i) (i := i) (rest1.map .val) (by omega)
      have hXi : (part (R.map canZ) R i).getD i [] = R.getD i [] := by rw [part_get (by omega) (by omega), if_neg (by omega)]
      rw [hXi] at hgi
      have hcn := canon_z hzz hK (by omega)
      have hcz : (canZ (R.getD i [])).length = cols := by rw [canZ_len]; exact hzl
      have hset := set_SNM (W := part (R.map canZ) R i) (i := i) (z := canZ (R.getD i [])) (n := cols) (rest1.map .val) (by omega) hcz.symm
      rw [← getD_map (f := canZ) hlt, part_set (by omega) (by omega), getD_map (f := canZ) hlt] at hset
      generalize canZ (R.getD i []) = r at *
      generalize R.getD i [] = z at *
      simp -implicitDefEqProofs (disch := omega) only [go_sem, ht, h1, h6, h7, hH, hgi, eq_self]
      (refine pCall_view (by simp -implicitDefEqProofs (disch := omega) only [h1, h6, h7, hH, hgi, hcz, hset, hzl, go_sem, ht, eq_self] <;> rfl) (by simp -implicitDefEqProofs (disch := omega) only [h1, h6, h7, hH, hgi, hcz, hset, hzl, go_sem, ht, eq_self]) (by first | (apply Or.inl; simp -implicitDefEqProofs (disch := omega) only [h1, h6, h7, hH, hgi, hcz, hset, hzl, go_sem, ht, eq_self]; done) | (apply Or.inr; rintro r rfl; rfl)) (hcn) ?_; rintro _ nx - rfl hnx; (try simp only [put_nx, withH_nx, begP_nx] at hnx); simp -implicitDefEqProofs (disch := omega) only [h1, h6, h7, hH, hgi, hcz, hset, hzl, go_sem, ht, eq_self])
      exact ⟨⟨by omega, i + 1, by omega, rfl, rfl⟩, by omega⟩
end
end Go.Proofs.Ytfjdfnlkobeehaa.Ref
end

section
set_option maxRecDepth 100000
set_option linter.unusedVariables false
set_option linter.unusedSimpArgs false
namespace Go.Proofs.Ytfjdfnlkobeehaa.Ref
open Ytfjdfnlkobeehaa (SWc SW WX WC WV vals vals_len SM lenM Rn vc vc_lt canZ canZ_len combZ combZ_len combZ_take primZ upZ upZ_len SW_def SM_def cZ get_SM' getD_take getD_mem insR insB zeroB getD_vals wrongM echW echT Mx)

theorem canZ_z {z : List Int} {k : Nat} (h : ∀ x ∈ z, Z k x) : ∀ x ∈ canZ z, Z k x := upZ_z fun x hx => by
  obtain ⟨y, hy, rfl⟩ := List.mem_map.1 hx
  exact (h y hy).div
section
variable {m : List (List (Bool × List Nat))}
theorem rwrong_calls {cn : Int} (hml : m.length ≤ 1000000) : PT Try.prog 56 [SM m, .val (.int .i64 cn)] (isV (.val (.bool (wrongM m cn)))) := by
  by_cases h1 : cn < 0
  · rw [show wrongM m cn = true from decide_eq_true (.inl h1)]
    refine PCalls.enter (n := 30) (rs := [.tmp 4]) (tb := []) Try.func56 rfl rfl rfl (by kernel_rfl) (by kernel_rfl) (by simp) fun c hc ht => ?_
    simp -implicitDefEqProofs (disch := omega) only [go_sem, ht, eq_self]
    (refine end_treeW 0 ?_; simp -implicitDefEqProofs (disch := omega) only [go_sem, ht, eq_self])
  by_cases h2 : 32 < cn
  · rw [show wrongM m cn = true from decide_eq_true (.inr (.inl h2))]
    refine PCalls.enter (n := 30) (rs := [.tmp 4]) (tb := []) Try.func56 rfl rfl rfl (by kernel_rfl) (by kernel_rfl) (by simp) fun c hc ht => ?_
    simp -implicitDefEqProofs (disch := omega) only [go_sem, ht, eq_self]
    (refine end_treeW 0 ?_; simp -implicitDefEqProofs (disch := omega) only [go_sem, ht, eq_self])
  by_cases h3 : 64 < m.length
  · rw [show wrongM m cn = true from decide_eq_true (.inr (.inr (.inl h3)))]
    refine PCalls.enter (n := 30) (rs := [.tmp 4]) (tb := []) Try.func56 rfl rfl rfl (by kernel_rfl) (by kernel_rfl) (by simp) fun c hc ht => ?_
    simp -implicitDefEqProofs (disch := omega) only [go_sem, ht, eq_self]
    (refine end_treeW 0 ?_; simp -implicitDefEqProofs (disch := omega) only [go_sem, ht, eq_self])
  refine PCalls.enter (n := 30) (rs := [.tmp 4]) (tb := []) Try.func56 rfl rfl rfl (by kernel_rfl) (by kernel_rfl) (by simp) fun c hc ht => ?_
  simp -implicitDefEqProofs (disch := omega) only [go_sem, ht, eq_self]
  refine LW.loopW hc ht (by kernel_rfl) (fun t => t.sl 0 = .sl m.length (m.map SW) ∧ t.sl 1 = .val (.int .i64 cn) ∧ ∃ i : Nat, i ≤ m.length ∧ t.sl 5 = .val (.int .i64 i) ∧ ∀ l ∈ m.take i, (l.length   : Int) = cn)
    (fun t => match t.sl 5 with | .val (.int _ k) => m.length - k.toNat | _ => 0) ?_ ?_
  · simp -implicitDefEqProofs (disch := omega) only [go_sem, ht, eq_self]
    exact ⟨0, Nat.zero_le _, rfl, by simp⟩
  · rintro t ⟨h0, h1', i, hi, h5, hall⟩
    by_cases hil : i = m.length
    · subst hil
      rw [List.take_length] at hall
      rw [show wrongM m cn = false from decide_eq_false (by
        rintro (h | h | h | ⟨l, hl, hne⟩)
        · exact h1 h
        · exact h2 h
        · exact h3 h
        · exact hne (hall l hl))]
      simp -implicitDefEqProofs (disch := omega) only [go_sem, ht, h0, h1', h5, eq_self]
      (refine end_treeW 0 ?_; simp -implicitDefEqProofs (disch := omega) only [go_sem, ht, eq_self])
    · have hlt : i < m.length := by omega
      have hgi := get_SM' hlt
      have hmem := getD_mem (d := []) hlt
      have hst := getD_take (d := []) hlt
      by_cases he : ((m.getD i []).length   : Int) = cn
      · generalize m.getD i [] = l0 at *
        simp -implicitDefEqProofs (disch := omega) only [go_sem, ht, h0, h1', h5, hgi, he, eq_self]
        refine ⟨⟨i + 1, by omega, rfl, fun l hl => ?_⟩, by omega⟩
        rw [hst] at hl
        rcases List.mem_append.1 hl with hl | hl
        · exact hall l hl
        · have : l = l0 := by simpa using hl
          rw [this]; exact he
      · rw [show wrongM m cn = true from decide_eq_true (.inr (.inr (.inr ⟨_, hmem, he⟩)))]
        generalize m.getD i [] = l0 at *
        simp -implicitDefEqProofs (disch := omega) only [go_sem, ht, h0, h1', h5, hgi, he, eq_self]
        (refine end_treeW 0 ?_; simp -implicitDefEqProofs (disch := omega) only [go_sem, ht, eq_self])
theorem read_z {k : Nat} (hm : ∀ l ∈ m, Rn l k ∧ l.length ≤ 1000000) (hml : m.length ≤ 1000000) : PT Try.prog 58 [SM m] (isV (SNM (m.map vals))) := by
  have hvl : (m.map vals).length = m.length := by simp
  refine PCalls.enter (n := 20) (rs := [.tmp 2]) (tb := []) Try.func58 rfl rfl rfl (by kernel_rfl) (by kernel_rfl) (by simp) fun c hc ht => ?_
  simp -implicitDefEqProofs (disch := omega) only [go_sem, ht, eq_self]
  refine LW.ghost (Gh.nilW 3 1 (by simp -implicitDefEqProofs (disch := omega) only [go_sem, ht, eq_self])) ?_
  refine LW.loopW hc ht (by kernel_rfl) (fun t => t.sl 0 = .sl m.length (m.map SW) ∧ ∃ i : Nat, i ≤ m.length ∧ t.sl 4 = .val (.int .i64 i) ∧ ∃ (id cap : Nat) (rest : List Value), t.sl 3 = .ref id 0 i cap 1 ∧ t.H id = some (((m.map vals).take i).map SN ++ rest.map .val) ∧ i + rest.length = cap ∧ id < t.nx)
    (fun t => match t.sl 4 with | .val (.int _ k) => m.length - k.toNat | _ => 0) ?_ ?_
  · simp -implicitDefEqProofs (disch := omega) only [go_sem, ht, eq_self]
    exact ⟨0, Nat.zero_le _, rfl, _, 0, [], rfl, upd_self _ _ _, rfl, by omega⟩
  · rintro t ⟨h0, i, hi, h4, id, cap, rest, h3, hH, hcap, hid⟩
    by_cases hil : i = m.length
    · subst hil
      rw [List.take_of_length_le (by omega)] at hH
      have hml2 : ((m.map vals).map SN).length = m.length := by simp
      have htk : List.take m.length ((m.map vals).map SN ++ rest.map .val) = (m.map vals).map SN := by
        rw [List.take_append_of_le_length (by omega), List.take_of_length_le (by omega)]
      have hle : m.length ≤ ((m.map vals).map SN).length + rest.length := by omega
      have hfl := Ytfjdfnlkobeehaa.frzL_flat (fun _ => true) t.H 1 (SNM_flat (m.map vals))
      have hfl0 := SNM_flat (m.map vals)
      generalize m.map vals = W at *
      simp -implicitDefEqProofs (disch := omega) only [go_sem, ht, h0, h3, h4, eq_self]
      (refine end_treeW 2 ?_; simp -implicitDefEqProofs (disch := omega) only [go_sem, ht, hH, htk, hfl, hfl0, hle, hvl, eq_self])
      omega
    · have hlt : i < m.length := by omega
      have hgi := get_SM' hlt
      obtain ⟨hrn, hlw⟩ := hm _ (getD_mem (d := []) hlt)
      have hct := all_z hrn hlw
      have hst : ((m.map vals).take i).map SN ++ [.sl (vals (m.getD i [])).length (SNc (vals (m.getD i [])))] = ((m.map vals).take (i + 1)).map SN := by
        rw [getD_take (l := m.map vals) (d := []) (by omega), List.map_append, getD_vals hlt]; rfl
      have hln : (((m.map vals).take i).map SN).length = i := by simp; omega
      generalize m.map vals = W at *
      generalize vals (m.getD i []) = z0 at *
      generalize m.getD i [] = l0 at *
      simp -implicitDefEqProofs (disch := omega) only [go_sem, ht, h0, h3, h4, hgi, eq_self]
      (refine pCall_view (by simp -implicitDefEqProofs (disch := omega) only [h0, h3, h4, hgi, go_sem, ht, eq_self] <;> rfl) (by simp -implicitDefEqProofs (disch := omega) only [h0, h3, h4, hgi, go_sem, ht, eq_self]) (by first | (apply Or.inl; simp -implicitDefEqProofs (disch := omega) only [h0, h3, h4, hgi, go_sem, ht, eq_self]; done) | (apply Or.inr; rintro r rfl; rfl)) (hct) ?_; rintro _ nx - rfl hnx; (try simp only [put_nx, withH_nx, begP_nx] at hnx); simp -implicitDefEqProofs (disch := omega) only [h0, h3, h4, hgi, go_sem, ht, eq_self])
      have hne : id ≠ nx := by omega
      (refine append_own (by simp -implicitDefEqProofs (disch := omega) only [srcP_ref, srcP_sl, srcP_nil, Option.isSome_some, hH, go_sem, ht, eq_self] <;> rfl) (by simp -implicitDefEqProofs (disch := omega) only [srcP_ref, srcP_sl, srcP_nil, Option.isSome_some, hH, go_sem, ht, eq_self] <;> rfl) (by simp -implicitDefEqProofs (disch := omega) only [srcP_ref, srcP_sl, srcP_nil, Option.isSome_some, hH, go_sem, ht, eq_self] <;> rfl) (by simp -implicitDefEqProofs (disch := omega) only [srcP_ref, srcP_sl, srcP_nil, Option.isSome_some, hH, go_sem, ht, eq_self] <;> rfl) (by simp -implicitDefEqProofs (disch := omega) only [srcP_ref, srcP_sl, srcP_nil, Option.isSome_some, hH, go_sem, ht, eq_self] <;> rfl) (by simp -implicitDefEqProofs (disch := omega) only [srcP_ref, srcP_sl, srcP_nil, Option.isSome_some, hH, go_sem, ht, eq_self] <;> rfl) (by simp -implicitDefEqProofs (disch := omega) only [srcP_ref, srcP_sl, srcP_nil, Option.isSome_some, hH, go_sem, ht, eq_self] <;> rfl) (by simp -implicitDefEqProofs (disch := omega) only [srcP_ref, srcP_sl, srcP_nil, Option.isSome_some, hH, go_sem, ht, eq_self] <;> rfl) (by first | omega | (simp <;> omega)) (by first | assumption | (simp <;> omega)) (by first | rfl | simp) (by first | omega | (simp <;> omega)) ?_; intro id1 cap1 rest1 H1 nx1 hH1 hcap1 hid1 hnx1 hfr1 hfs1; (try simp only [put_nx, withH_nx, put_H, withH_H] at hid1 hnx1 hfr1 hfs1); (try simp only [app_U, ← List.map_append] at hH1))
      rw [hst] at hH1
      simp -implicitDefEqProofs (disch := omega) only [go_sem, ht, h0, h3, h4, eq_self]
      exact ⟨⟨i + 1, by omega, rfl, id1, cap1, rest1, rfl, hH1, by omega, by omega⟩, by omega⟩
end
section
variable {R T : List (List Int)} {Pv : List Nat} {v : List Int} {cols j k : Nat}
theorem insR_z (hT : ∀ i, i < Pv.length → ∀ x ∈ T.getD i [], Z j x) (hv : ∀ x ∈ v, Z k x) : ∀ i, i ≤ Pv.length → ∀ x ∈ insR T Pv v i, Z (k + i * (j + 1)) x
  | 0, _ => by simpa [insR] using hv
  | i + 1, hi => by
    have ih := insR_z hT hv i (by omega)
    have hs : k + (i + 1) * (j + 1) = k + i * (j + 1) + j + 1 := by rw [Nat.succ_mul]; omega
    rw [insR]
    split
    · intro x hx
      exact (ih x hx).mono (by omega)
    · rw [hs]
      have hTi := hT i (by omega)
      exact canZ_z (Ytfjdfnlkobeehaa.combZ_z (Ytfjdfnlkobeehaa.vc_z hTi _) (Ytfjdfnlkobeehaa.vc_z ih _) ih hTi)
set_option maxHeartbeats 8000000 in
theorem in_z (hr : PT Try.prog 57 [SNM R, .val (.int .i64 cols)] (isV (.tup [SNM T, .sl Pv.length (Pv.map I)]))) (hT : ∀ i, i < Pv.length → (T.getD i []).length = cols ∧ ∀ x ∈ T.getD i [], Z j x) (hTl : T.length = Pv.length) (hPc : ∀ c ∈ Pv, c < cols) (hv : ∀ x ∈ v, Z k x) (hvl : v.length = cols) (hcols : cols ≤ 1000) (hPl : Pv.length ≤ 1000)
    (hk : 2 * (k + Pv.length * (j + 1) + j) + 1 ≤ 100000) : PT Try.prog 64 [SNM R, .val (.int .i64 cols), SN v] (isV (.val (.bool (insB T Pv v)))) := by
  have hB := Ytfjdfnlkobeehaa.insR_B (T := T) (Pv := Pv) (v := v) hvl (fun i hi => (hT i hi).1)
  have hln := fun i hi => (Ytfjdfnlkobeehaa.insR_ln (T := T) (Pv := Pv) (v := v) hvl (fun i hi => (hT i hi).1) i hi).2.1
  have hzz := insR_z (T := T) (Pv := Pv) (fun i hi => (hT i hi).2) hv
  rw [← hB]
  by_cases hv0 : cols = 0
  · have hP0 : Pv = [] := by
      cases Pv with
      | nil => rfl
      | cons p Pv => have := hPc p (List.mem_cons_self ..); omega
    have hT0 : T = [] := List.eq_nil_of_length_eq_zero (by rw [hTl, hP0]; rfl)
    have hve : v = [] := List.eq_nil_of_length_eq_zero (by omega)
    subst hP0 hT0 hve hv0
    have e : zeroB (insR [] [] [] ([] : List Nat).length) = true := by decide
    rw [e]
    refine PCalls.enter (n := 66) (rs := [.tmp 6]) (tb := [(8, [(0, []), (1, []), (2, []), (3, []), (4, []), (5, []), (6, []), (7, []), (8, []), (9, []), (10, []), (11, []), (12, []), (13, []), (14, []), (15, []), (16, []), (17, [])]), (1000008, [(0, []), (0, []), (3, []), (7, []), (0, []), (31, []), (63, []), (0, []), (0, []), (0, []), (768, []), (1792, []), (0, []), (0, []), (12288, []), (28672, []), (65535, []), (131071, [])])]) Try.func64 rfl rfl rfl (by kernel_rfl) (by kernel_rfl) (by simp) fun c hc ht => ?_
    simp -implicitDefEqProofs (disch := omega) only [go_sem, ht, eq_self]
    (refine pCall_view (by simp -implicitDefEqProofs (disch := omega) only [go_sem, ht, eq_self] <;> rfl) (by simp -implicitDefEqProofs (disch := omega) only [go_sem, ht, eq_self]) (by first | (apply Or.inl; simp -implicitDefEqProofs (disch := omega) only [go_sem, ht, eq_self]; done) | (apply Or.inr; rintro r rfl; rfl)) (hr) ?_; rintro _ nx - rfl hnx; (try simp only [put_nx, withH_nx, begP_nx] at hnx); simp -implicitDefEqProofs (disch := omega) only [go_sem, ht, eq_self])
    refine append_nilS (m := 0) (sz := 2) (ys := []) T96_elem rfl T103_size T103_bytes T103_zero rfl (by simp -implicitDefEqProofs (disch := omega) only [go_sem, ht, srcP_sl, eq_self]; rfl) rfl (by omega) (fun h00 => ?_) (fun capr restr hcapr hpos => absurd hpos (by omega))
    simp -implicitDefEqProofs (disch := omega) only [go_sem, ht, eq_self]
    refine LW.loopW hc ht (by kernel_rfl) (fun t => t.sl 7 = .sl 0 [] ∧ t.sl 9 = .val (.slice none 0 0) ∧ t.sl 10 = .val (.int .i64 0)) (fun t => 0) ?_ ?_
    · simp -implicitDefEqProofs (disch := omega) only [go_sem, ht, eq_self]
      done
    · rintro t ⟨h7, h9, h10⟩
      simp -implicitDefEqProofs (disch := omega) only [go_sem, ht, h7, h9, h10, eq_self]
      refine LW.loopW hc ht (by kernel_rfl) (fun t => t.sl 9 = .val (.slice none 0 0) ∧ t.sl 12 = .val (.int .i64 0)) (fun t => 0) ?_ ?_
      · simp -implicitDefEqProofs (disch := omega) only [go_sem, ht, h9, eq_self]
        done
      · rintro u ⟨h9, h12⟩
        simp -implicitDefEqProofs (disch := omega) only [go_sem, ht, h9, h12, eq_self]
        (refine end_treeW 0 ?_; simp -implicitDefEqProofs (disch := omega) only [go_sem, ht, eq_self])
  · have hvp : 0 < v.length := by omega
    have hfv := SNc_flat v
    have hfz := fun H => Ytfjdfnlkobeehaa.frzL_flat (fun _ => true) H 0 hfv
    have hvt : ∀ rest : List Value, List.take (v.length * 2) (SNc v ++ rest.map .val) = SNc v := fun rest => take_SNc v _ rfl
    have hvn := SNc_len v
    refine PCalls.enter (n := 66) (rs := [.tmp 6]) (tb := [(8, [(0, []), (1, []), (2, []), (3, []), (4, []), (5, []), (6, []), (7, []), (8, []), (9, []), (10, []), (11, []), (12, []), (13, []), (14, []), (15, []), (16, []), (17, [])]), (1000008, [(0, []), (0, []), (3, []), (7, []), (0, []), (31, []), (63, []), (0, []), (0, []), (0, []), (768, []), (1792, []), (0, []), (0, []), (12288, []), (28672, []), (65535, []), (131071, [])])]) Try.func64 rfl rfl rfl (by kernel_rfl) (by kernel_rfl) (by simp) fun c hc ht => ?_
    simp -implicitDefEqProofs (disch := omega) only [go_sem, ht, eq_self]
    (refine pCall_view (by simp -implicitDefEqProofs (disch := omega) only [go_sem, ht, eq_self] <;> rfl) (by simp -implicitDefEqProofs (disch := omega) only [go_sem, ht, eq_self]) (by first | (apply Or.inl; simp -implicitDefEqProofs (disch := omega) only [go_sem, ht, eq_self]; done) | (apply Or.inr; rintro r rfl; rfl)) (hr) ?_; rintro _ nx - rfl hnx; (try simp only [put_nx, withH_nx, begP_nx] at hnx); simp -implicitDefEqProofs (disch := omega) only [go_sem, ht, eq_self])
    refine append_nilS (m := v.length) (sz := 2) (ys := SNc v) T96_elem rfl T103_size T103_bytes T103_zero rfl (by simp -implicitDefEqProofs (disch := omega) only [go_sem, ht, srcP_sl, eq_self]; rw [if_pos (by omega)]) (SNc_one v) (by omega) (fun h00 => by omega) (fun capr restr hcapr hpos => ?_)
    have hle : v.length * 2 ≤ (SNc v).length + restr.length := by omega
    simp -implicitDefEqProofs (disch := omega) only [go_sem, ht, eq_self]
    refine LW.ghost (Gh.frzW 9 1 (q := .sl v.length (SNc v)) (by simp -implicitDefEqProofs (disch := omega) only [go_sem, ht, upd_self, hvt, hfz, hle, if_pos, eq_self])) ?_
    refine LW.loopW hc ht (by kernel_rfl) (fun t => t.sl 7 = .sl Pv.length (T.map SN) ∧ t.sl 8 = .sl Pv.length (Pv.map I) ∧ ∃ i : Nat, i ≤ Pv.length ∧ t.sl 10 = .val (.int .i64 i) ∧ t.sl 9 = .sl cols (SNc (insR T Pv v i)))
      (fun t => match t.sl 10 with | .val (.int _ x) => Pv.length - x.toNat | _ => 0) ?_ ?_
    · simp -implicitDefEqProofs (disch := omega) only [go_sem, ht, hTl, eq_self]
      exact ⟨0, Nat.zero_le _, rfl, by rw [hvl]; rfl⟩
    · rintro t ⟨h7, h8, i, hi, h10, h9⟩
      by_cases hil : i = Pv.length
      · subst hil
        have hwl := hln Pv.length (Nat.le_refl _)
        have hwz := hzz Pv.length (Nat.le_refl _)
        generalize insR T Pv v Pv.length = w at *
        simp -implicitDefEqProofs (disch := omega) only [go_sem, ht, h7, h8, h10, h9, eq_self]
        refine LW.loopW hc ht (by kernel_rfl) (fun u => u.sl 9 = .sl cols (SNc w) ∧ ∃ n : Nat, n ≤ cols ∧ u.sl 12 = .val (.int .i64 n) ∧ ∀ x ∈ w.take n, x = 0)
          (fun u => match u.sl 12 with | .val (.int _ x) => cols - x.toNat | _ => 0) ?_ ?_
        · simp -implicitDefEqProofs (disch := omega) only [go_sem, ht, h9, eq_self]
          exact ⟨0, Nat.zero_le _, rfl, by simp⟩
        · rintro u ⟨h9, n, hn, h12, hz⟩
          by_cases hnl : n = cols
          · have e : zeroB w = true := by
              rw [List.take_of_length_le (by omega)] at hz
              exact decide_eq_true hz
            subst hnl
            rw [e]
            simp -implicitDefEqProofs (disch := omega) only [go_sem, ht, h9, h12, eq_self]
            (refine end_treeW 0 ?_; simp -implicitDefEqProofs (disch := omega) only [go_sem, ht, eq_self])
          · have hnt : n < w.length := by omega
            have hat := SNc_at hnt
            have hsg := sign_z (okZ (Ytfjdfnlkobeehaa.vc_z hwz n) (by omega))
            by_cases h0 : vc w n = 0
            · rw [h0, cZ_eq rfl] at hsg
              rw [h0] at hat
              have hz2 : ∀ x ∈ w.take (n + 1), x = 0 := fun x hx => by
                rw [List.take_succ_eq_append_getElem hnt] at hx
                rcases List.mem_append.1 hx with hx | hx
                · exact hz x hx
                · rw [vc_lt hnt] at h0
                  have : x = w[n] := by simpa using hx
                  rw [this]; exact h0
              simp -implicitDefEqProofs (disch := omega) only [go_sem, ht, h9, h12, hat, eq_self]
              (refine pCall_view (by simp -implicitDefEqProofs (disch := omega) only [h9, h12, hat, go_sem, ht, eq_self] <;> rfl) (by simp -implicitDefEqProofs (disch := omega) only [h9, h12, hat, go_sem, ht, eq_self]) (by first | (apply Or.inl; simp -implicitDefEqProofs (disch := omega) only [h9, h12, hat, go_sem, ht, eq_self]; done) | (apply Or.inr; rintro r rfl; rfl)) (hsg) ?_; rintro _ nx - rfl hnx; (try simp only [put_nx, withH_nx, begP_nx] at hnx); simp -implicitDefEqProofs (disch := omega) only [h9, h12, hat, go_sem, ht, eq_self])
              exact ⟨⟨n + 1, by omega, rfl, hz2⟩, by omega⟩
            · have e : zeroB w = false := decide_eq_false fun hall => h0 (by
                rw [vc_lt hnt]; exact hall _ (List.getElem_mem _))
              have hs0 : cZ (vc w n) 0 ≠ 0 := fun e => h0 (Ytfjdfnlkobeehaa.cZ_zero.1 e)
              rw [e]
              generalize cZ (vc w n) 0 = sx at *
              simp -implicitDefEqProofs (disch := omega) only [go_sem, ht, h9, h12, hat, eq_self]
              (refine pCall_view (by simp -implicitDefEqProofs (disch := omega) only [h9, h12, hat, go_sem, ht, eq_self] <;> rfl) (by simp -implicitDefEqProofs (disch := omega) only [h9, h12, hat, go_sem, ht, eq_self]) (by first | (apply Or.inl; simp -implicitDefEqProofs (disch := omega) only [h9, h12, hat, go_sem, ht, eq_self]; done) | (apply Or.inr; rintro r rfl; rfl)) (hsg) ?_; rintro _ nx - rfl hnx; (try simp only [put_nx, withH_nx, begP_nx] at hnx); simp -implicitDefEqProofs (disch := omega) only [h9, h12, hat, go_sem, ht, eq_self])
              (refine end_treeW 0 ?_; simp -implicitDefEqProofs (disch := omega) only [go_sem, ht, eq_self])
      · have hlt : i < Pv.length := by omega
        have hgp : (Pv.map I)[i]? = some (.val (.int .i64 (Pv.getD i 0 : Nat))) := by simp [hlt, I]
        have hpc : Pv.getD i 0 < cols := hPc _ (getD_mem hlt)
        have hgt := get_SNM' (W := T) (i := i) (by omega)
        obtain ⟨hTc, hTz⟩ := hT i hlt
        have hwl := hln i hi
        have hwz := hzz i hi
        have hsz : i * (j + 1) + (j + 1) ≤ Pv.length * (j + 1) := by
          have := Nat.mul_le_mul_right (j + 1) (show i + 1 ≤ Pv.length from hlt)
          rw [Nat.succ_mul] at this
          exact this
        have hst : insR T Pv v (i + 1) = if vc (insR T Pv v i) (Pv.getD i 0) = 0 then insR T Pv v i else canZ (combZ (vc (T.getD i []) (Pv.getD i 0)) (vc (insR T Pv v i) (Pv.getD i 0)) (insR T Pv v i) (T.getD i [])) := rfl
        have hwl2 := hln (i + 1) hlt
        have hat := SNc_at (zs := insR T Pv v i) (i := Pv.getD i 0) (by omega)
        have hatT := SNc_at (zs := T.getD i []) (i := Pv.getD i 0) (by omega)
        have hsg := sign_z (okZ (Ytfjdfnlkobeehaa.vc_z hwz (Pv.getD i 0)) (by omega))
        by_cases h0 : vc (insR T Pv v i) (Pv.getD i 0) = 0
        · rw [if_pos h0] at hst
          rw [h0, cZ_eq rfl] at hsg
          rw [h0] at hat
          rw [← hst] at hat h9
          obtain ⟨w, ew⟩ : ∃ w, insR T Pv v (i + 1) = w := ⟨_, rfl⟩
          rw [ew] at hat h9 hwl2
          generalize Pv.getD i 0 = p at *
          simp -implicitDefEqProofs (disch := omega) only [go_sem, ht, h7, h8, h10, h9, hgp, hat, eq_self]
          (refine pCall_view (by simp -implicitDefEqProofs (disch := omega) only [h7, h8, h10, h9, hgp, hat, go_sem, ht, eq_self] <;> rfl) (by simp -implicitDefEqProofs (disch := omega) only [h7, h8, h10, h9, hgp, hat, go_sem, ht, eq_self]) (by first | (apply Or.inl; simp -implicitDefEqProofs (disch := omega) only [h7, h8, h10, h9, hgp, hat, go_sem, ht, eq_self]; done) | (apply Or.inr; rintro r rfl; rfl)) (hsg) ?_; rintro _ nx - rfl hnx; (try simp only [put_nx, withH_nx, begP_nx] at hnx); simp -implicitDefEqProofs (disch := omega) only [h7, h8, h10, h9, hgp, hat, go_sem, ht, eq_self])
          exact ⟨⟨i + 1, by omega, rfl, by rw [ew]⟩, by omega⟩
        · rw [if_neg h0] at hst
          have hs0 : cZ (vc (insR T Pv v i) (Pv.getD i 0)) 0 ≠ 0 := fun e => h0 (Ytfjdfnlkobeehaa.cZ_zero.1 e)
          have hj := joined_z (k := k + i * (j + 1) + j) ((Ytfjdfnlkobeehaa.vc_z hTz (Pv.getD i 0)).mono (by omega)) ((Ytfjdfnlkobeehaa.vc_z hwz (Pv.getD i 0)).mono (by omega)) (fun x hx => (hwz x hx).mono (by omega)) (fun x hx => (hTz x hx).mono (by omega)) (by omega) (by omega) (by omega)
          rw [← hst] at hj
          rw [SN_def, SN_def, SN_def, hwl, hTc, hwl2] at hj
          clear hst
          obtain ⟨w2, ew⟩ : ∃ w2, insR T Pv v (i + 1) = w2 := ⟨_, rfl⟩
          rw [ew] at hj hwl2
          generalize cZ (vc (insR T Pv v i) (Pv.getD i 0)) 0 = sx at *
          generalize vc (insR T Pv v i) (Pv.getD i 0) = x1 at *
          generalize vc (T.getD i []) (Pv.getD i 0) = x2 at *
          generalize insR T Pv v i = w at *
          generalize T.getD i [] = tr at *
          generalize Pv.getD i 0 = p at *
          simp -implicitDefEqProofs (disch := omega) only [go_sem, ht, h7, h8, h10, h9, hgp, hat, eq_self]
          ((refine pCall_view (by simp -implicitDefEqProofs (disch := omega) only [h7, h8, h10, h9, hgp, hat, hgt, hTc, hatT, hs0, go_sem, ht, eq_self] <;> rfl) (by simp -implicitDefEqProofs (disch := omega) only [h7, h8, h10, h9, hgp, hat, hgt, hTc, hatT, hs0, go_sem, ht, eq_self]) (by first | (apply Or.inl; simp -implicitDefEqProofs (disch := omega) only [h7, h8, h10, h9, hgp, hat, hgt, hTc, hatT, hs0, go_sem, ht, eq_self]; done) | (apply Or.inr; rintro r rfl; rfl)) (hsg) ?_; rintro _ nx_1 - rfl hnx_1; (try simp only [put_nx, withH_nx, begP_nx] at hnx_1); simp -implicitDefEqProofs (disch := omega) only [h7, h8, h10, h9, hgp, hat, hgt, hTc, hatT, hs0, go_sem, ht, eq_self]); (refine pCall_view (by simp -implicitDefEqProofs (disch := omega) only [h7, h8, h10, h9, hgp, hat, hgt, hTc, hatT, hs0, go_sem, ht, eq_self] <;> rfl) (by simp -implicitDefEqProofs (disch := omega) only [h7, h8, h10, h9, hgp, hat, hgt, hTc, hatT, hs0, go_sem, ht, eq_self]) (by first | (apply Or.inl; simp -implicitDefEqProofs (disch := omega) only [h7, h8, h10, h9, hgp, hat, hgt, hTc, hatT, hs0, go_sem, ht, eq_self]; done) | (apply Or.inr; rintro r rfl; rfl)) (hj) ?_; rintro _ nx_2 - rfl hnx_2; (try simp only [put_nx, withH_nx, begP_nx] at hnx_2); simp -implicitDefEqProofs (disch := omega) only [h7, h8, h10, h9, hgp, hat, hgt, hTc, hatT, hs0, go_sem, ht, eq_self]))
          exact ⟨⟨i + 1, by omega, rfl, by rw [ew]⟩, by omega⟩
end
section
variable {m : List (List (Bool × List Nat))} {v : List (Bool × List Nat)} {B k : Nat}
theorem mred (h : Mx m B) {n : Nat} (hlc : ∀ l ∈ m, l.length = n) (hn : n ≤ 32) (hml : m.length ≤ 64) (hB : 2 * (B + 1) + 1 ≤ 100000) :
    PT Try.prog 57 [SNM (m.map vals), .val (.int .i64 n)] (isV (.tup [SNM (echT (m.map vals) n), .sl (echW (m.map vals) n).2.length ((echW (m.map vals) n).2.map I)])) := by
  obtain ⟨h1, h2⟩ := h.ez hlc
  refine reduce_z (K := B) (B := B) (fun z hz => ?_) (by omega) (by omega) (by simp; omega) (by simpa using h1) (by simpa using h2) hB
  obtain ⟨l, hl, rfl⟩ := List.mem_map.1 hz
  exact ⟨(h.rn hl).z, by rw [vals_len]; exact hlc l hl⟩
theorem mread (h : Mx m B) {n : Nat} (hlc : ∀ l ∈ m, l.length = n) (hn : n ≤ 32) (hml : m.length ≤ 64) : PT Try.prog 58 [SM m] (isV (SNM (m.map vals))) :=
  read_z (fun l hl => ⟨h.rn hl, by rw [hlc l hl]; omega⟩) (by omega)

theorem rins_calls (h : Mx m B) {cn : Int} (hv : Rn v k) (hvl : v.length ≤ 1000000) (hsz : 2 * (k + 32 * (B + 2) + (B + 1)) + 1 ≤ 100000) :
    PT Try.prog 29 [SM m, .val (.int .i64 cn), SW v] (isV (.tup [.val (.bool (Ytfjdfnlkobeehaa.mIns m cn v).1), .val (.int .i64 (Ytfjdfnlkobeehaa.mIns m cn v).2)])) := by
  have hw := rwrong_calls (m := m) (cn := cn) h.n
  have hall := all_z hv hvl
  unfold Ytfjdfnlkobeehaa.mIns
  by_cases hb : wrongM m cn = true
  · rw [hb] at hw
    rw [hb, Bool.true_or, if_pos rfl]
    refine PCalls.enter (n := 23) (rs := [.tmp 6, .tmp 7]) (tb := []) Try.func29 rfl rfl rfl (by kernel_rfl) (by kernel_rfl) (by simp) fun c hc ht => ?_
    simp -implicitDefEqProofs (disch := omega) only [go_sem, ht, eq_self]
    (refine pCall_view (by simp -implicitDefEqProofs (disch := omega) only [go_sem, ht, eq_self] <;> rfl) (by simp -implicitDefEqProofs (disch := omega) only [go_sem, ht, eq_self]) (by first | (apply Or.inl; simp -implicitDefEqProofs (disch := omega) only [go_sem, ht, eq_self]; done) | (apply Or.inr; rintro r rfl; rfl)) (hw) ?_; rintro _ nx - rfl hnx; (try simp only [put_nx, withH_nx, begP_nx] at hnx); simp -implicitDefEqProofs (disch := omega) only [go_sem, ht, eq_self])
    (refine end_treeW 0 ?_; simp -implicitDefEqProofs (disch := omega) only [go_sem, ht, eq_self])
  · have hb' : wrongM m cn = false := by simpa using hb
    rw [hb'] at hw
    by_cases hvc : (v.length : Int) = cn
    · obtain ⟨n, rfl, hn, hml, hlc⟩ := Ytfjdfnlkobeehaa.wrongM_false hb'
      have hvn : v.length = n := by omega
      rw [hb', Bool.false_or, if_neg (by simp [hvn]), Int.toNat_natCast]
      have hrd := mread h hlc hn hml
      have hrr := h.rr hlc
      have hPl : (echW (m.map vals) n).2.length ≤ 32 := by
        have := Ytfjdfnlkobeehaa.inc_nodup hrr.inc
        have h2 := Ytfjdfnlkobeehaa.sub_len this (m := List.range n) (fun x hx => List.mem_range.2 (hrr.col x hx))
        rw [List.length_range] at h2; omega
      have hmul : (echW (m.map vals) n).2.length * (B + 1 + 1) ≤ 32 * (B + 2) := Nat.mul_le_mul_right _ hPl
      have hin := in_z (R := m.map vals) (T := echT (m.map vals) n) (Pv := (echW (m.map vals) n).2) (v := vals v) (cols := n) (j := B + 1) (k := k) (mred h hlc hn hml (by omega)) (fun i hi => hrr.row i (by rw [hrr.len]; exact hi)) hrr.len hrr.col hv.z (by rw [vals_len]; exact hvn) (by omega) (by omega) (by omega)
      have hml2 : (m.map vals).length = m.length := by simp
      have hvl2 : (vals v).length = n := by rw [vals_len]; exact hvn
      rw [SNM_def, hml2, SN_def, hvl2] at hin
      rw [SN_def, hvl2] at hall
      rw [SNM_def, hml2] at hrd
      generalize insB (echT (m.map vals) n) (echW (m.map vals) n).2 (vals v) = b at *
      refine PCalls.enter (n := 23) (rs := [.tmp 6, .tmp 7]) (tb := []) Try.func29 rfl rfl rfl (by kernel_rfl) (by kernel_rfl) (by simp) fun c hc ht => ?_
      simp -implicitDefEqProofs (disch := omega) only [go_sem, ht, hvn, eq_self]
      ((refine pCall_view (by simp -implicitDefEqProofs (disch := omega) only [hvn, go_sem, ht, eq_self] <;> rfl) (by simp -implicitDefEqProofs (disch := omega) only [hvn, go_sem, ht, eq_self]) (by first | (apply Or.inl; simp -implicitDefEqProofs (disch := omega) only [hvn, go_sem, ht, eq_self]; done) | (apply Or.inr; rintro r rfl; rfl)) (hw) ?_; rintro _ nx_3 - rfl hnx_3; (try simp only [put_nx, withH_nx, begP_nx] at hnx_3); simp -implicitDefEqProofs (disch := omega) only [hvn, go_sem, ht, eq_self]); (refine pCall_view (by simp -implicitDefEqProofs (disch := omega) only [hvn, go_sem, ht, eq_self] <;> rfl) (by simp -implicitDefEqProofs (disch := omega) only [hvn, go_sem, ht, eq_self]) (by first | (apply Or.inl; simp -implicitDefEqProofs (disch := omega) only [hvn, go_sem, ht, eq_self]; done) | (apply Or.inr; rintro r rfl; rfl)) (hrd) ?_; rintro _ nx_4 - rfl hnx_4; (try simp only [put_nx, withH_nx, begP_nx] at hnx_4); simp -implicitDefEqProofs (disch := omega) only [hvn, go_sem, ht, eq_self]); (refine pCall_view (by simp -implicitDefEqProofs (disch := omega) only [hvn, go_sem, ht, eq_self] <;> rfl) (by simp -implicitDefEqProofs (disch := omega) only [hvn, go_sem, ht, eq_self]) (by first | (apply Or.inl; simp -implicitDefEqProofs (disch := omega) only [hvn, go_sem, ht, eq_self]; done) | (apply Or.inr; rintro r rfl; rfl)) (hall) ?_; rintro _ nx_5 - rfl hnx_5; (try simp only [put_nx, withH_nx, begP_nx] at hnx_5); simp -implicitDefEqProofs (disch := omega) only [hvn, go_sem, ht, eq_self]); (refine pCall_view (by simp -implicitDefEqProofs (disch := omega) only [hvn, go_sem, ht, eq_self] <;> rfl) (by simp -implicitDefEqProofs (disch := omega) only [hvn, go_sem, ht, eq_self]) (by first | (apply Or.inl; simp -implicitDefEqProofs (disch := omega) only [hvn, go_sem, ht, eq_self]; done) | (apply Or.inr; rintro r rfl; rfl)) (hin) ?_; rintro _ nx_6 - rfl hnx_6; (try simp only [put_nx, withH_nx, begP_nx] at hnx_6); simp -implicitDefEqProofs (disch := omega) only [hvn, go_sem, ht, eq_self]))
      (refine end_treeW 0 ?_; simp -implicitDefEqProofs (disch := omega) only [go_sem, ht, eq_self])
    · rw [if_pos (by simp [hvc])]
      refine PCalls.enter (n := 23) (rs := [.tmp 6, .tmp 7]) (tb := []) Try.func29 rfl rfl rfl (by kernel_rfl) (by kernel_rfl) (by simp) fun c hc ht => ?_
      simp -implicitDefEqProofs (disch := omega) only [go_sem, ht, eq_self]
      (refine pCall_view (by simp -implicitDefEqProofs (disch := omega) only [hvc, go_sem, ht, eq_self] <;> rfl) (by simp -implicitDefEqProofs (disch := omega) only [hvc, go_sem, ht, eq_self]) (by first | (apply Or.inl; simp -implicitDefEqProofs (disch := omega) only [hvc, go_sem, ht, eq_self]; done) | (apply Or.inr; rintro r rfl; rfl)) (hw) ?_; rintro _ nx - rfl hnx; (try simp only [put_nx, withH_nx, begP_nx] at hnx); simp -implicitDefEqProofs (disch := omega) only [hvc, go_sem, ht, eq_self])
      (refine end_treeW 0 ?_; simp -implicitDefEqProofs (disch := omega) only [go_sem, ht, hvc, eq_self])
end
end Go.Proofs.Ytfjdfnlkobeehaa.Ref
end

section
set_option maxRecDepth 100000
set_option linter.unusedVariables false
set_option linter.unusedSimpArgs false
namespace Go.Proofs.Ytfjdfnlkobeehaa

section
variable {m : List (List (Bool × List Nat))} {v : List (Bool × List Nat)}
theorem mIns_e (cn : Int) : (mIns m cn v).2 = 0 ∨ (mIns m cn v).2 = 1 := by unfold mIns; split <;> simp
set_option maxHeartbeats 4000000 in
theorem insides_law {cn : Int} (hm : ∀ l ∈ m, ∀ p ∈ l, Lm p.2) (hb : lenM m + 1 ≤ 1048576) (lo : -9223372036854775808 ≤ cn) (hi : cn ≤ 9223372036854775807) (hv : ∀ p ∈ v, Lm p.2) (hvb : lenW v + 1 ≤ 1048576) :
    PT Try.prog 5 [SM m, .val (.int .i64 cn), SW v] (isV (.val (.bool true))) := by
  have hlr := len_rows (m := m) (by omega)
  have hlw := len_wholes (l := v) (by omega)
  have hml := lenM_len m
  have hvl := lenW_len v
  by_cases hl : 1500 < lenM m + lenW v
  · refine PCalls.enter (n := 44) (rs := [.tmp 6]) (tb := []) Try.func5 rfl rfl rfl (by kernel_rfl) (by kernel_rfl) (by simp) fun c hc ht => ?_
    simp -implicitDefEqProofs (disch := omega) only [go_sem, ht, eq_self]
    ((refine pCall_view (by simp -implicitDefEqProofs (disch := omega) only [go_sem, ht, eq_self] <;> rfl) (by simp -implicitDefEqProofs (disch := omega) only [go_sem, ht, eq_self]) (by first | (apply Or.inl; simp -implicitDefEqProofs (disch := omega) only [go_sem, ht, eq_self]; done) | (apply Or.inr; rintro r rfl; rfl)) (awake_matrix) ?_; rintro _ nx_1 - rfl hnx_1; (try simp only [put_nx, withH_nx, begP_nx] at hnx_1); simp -implicitDefEqProofs (disch := omega) only [go_sem, ht, eq_self]); (refine pCall_view (by simp -implicitDefEqProofs (disch := omega) only [go_sem, ht, eq_self] <;> rfl) (by simp -implicitDefEqProofs (disch := omega) only [go_sem, ht, eq_self]) (by first | (apply Or.inl; simp -implicitDefEqProofs (disch := omega) only [go_sem, ht, eq_self]; done) | (apply Or.inr; rintro r rfl; rfl)) (hlr) ?_; rintro _ nx_2 - rfl hnx_2; (try simp only [put_nx, withH_nx, begP_nx] at hnx_2); simp -implicitDefEqProofs (disch := omega) only [go_sem, ht, eq_self]); (refine pCall_view (by simp -implicitDefEqProofs (disch := omega) only [go_sem, ht, eq_self] <;> rfl) (by simp -implicitDefEqProofs (disch := omega) only [go_sem, ht, eq_self]) (by first | (apply Or.inl; simp -implicitDefEqProofs (disch := omega) only [go_sem, ht, eq_self]; done) | (apply Or.inr; rintro r rfl; rfl)) (hlw) ?_; rintro _ nx_3 - rfl hnx_3; (try simp only [put_nx, withH_nx, begP_nx] at hnx_3); simp -implicitDefEqProofs (disch := omega) only [go_sem, ht, eq_self]))
    (refine end_treeW 0 ?_; simp -implicitDefEqProofs (disch := omega) only [go_sem, ht, eq_self])
  have hMx : Mx m 1500 := ⟨hm, by omega, by omega⟩
  have hvR : Rn v 1500 := ⟨fun p hp => ⟨hv p hp, by have := lenW_mem hp; omega⟩, by omega⟩
  have hcr := copy_rows (m := m) (fun l hl => ⟨fun p hp => by have := (hMx.rn hl).ok p hp; exact ⟨this.1, by omega⟩, by have := lenM_mem hl; have := lenW_len l; omega⟩) (by omega)
  have hcw := copy_wholes (l := v) (fun p hp => by have := hvR.ok p hp; exact ⟨this.1, by omega⟩) (by omega)
  have hin := mins_calls (k := 1500) (j := 1501) hMx (cn := cn) hvR (by omega) (fun n' e _ hlc => hMx.echZ hlc) (by omega)
  have hMx2 : Mx m (lenM m) := ⟨hm, Nat.le_refl _, by omega⟩
  have hvR2 : Rn v (lenW v) := ⟨fun p hp => ⟨hv p hp, by have := lenW_mem hp; omega⟩, by omega⟩
  have hri := Ref.rins_calls (k := lenW v) hMx2 (cn := cn) hvR2 (by omega) (by omega)
  have he := mIns_e (m := m) (v := v) cn
  have hnum := Ref.num_calls (s := (mIns m cn v).2) (by omega) (by omega)
  generalize (mIns m cn v).1 = b at *
  generalize (mIns m cn v).2 = e at *
  clear he
  refine PCalls.enter (n := 44) (rs := [.tmp 6]) (tb := []) Try.func5 rfl rfl rfl (by kernel_rfl) (by kernel_rfl) (by simp) fun c hc ht => ?_
  simp -implicitDefEqProofs (disch := omega) only [go_sem, ht, eq_self]
  ((refine pCall_view (by simp -implicitDefEqProofs (disch := omega) only [go_sem, ht, eq_self] <;> rfl) (by simp -implicitDefEqProofs (disch := omega) only [go_sem, ht, eq_self]) (by first | (apply Or.inl; simp -implicitDefEqProofs (disch := omega) only [go_sem, ht, eq_self]; done) | (apply Or.inr; rintro r rfl; rfl)) (awake_matrix) ?_; rintro _ nx_4 - rfl hnx_4; (try simp only [put_nx, withH_nx, begP_nx] at hnx_4); simp -implicitDefEqProofs (disch := omega) only [go_sem, ht, eq_self]); (refine pCall_view (by simp -implicitDefEqProofs (disch := omega) only [go_sem, ht, eq_self] <;> rfl) (by simp -implicitDefEqProofs (disch := omega) only [go_sem, ht, eq_self]) (by first | (apply Or.inl; simp -implicitDefEqProofs (disch := omega) only [go_sem, ht, eq_self]; done) | (apply Or.inr; rintro r rfl; rfl)) (hlr) ?_; rintro _ nx_5 - rfl hnx_5; (try simp only [put_nx, withH_nx, begP_nx] at hnx_5); simp -implicitDefEqProofs (disch := omega) only [go_sem, ht, eq_self]); (refine pCall_view (by simp -implicitDefEqProofs (disch := omega) only [go_sem, ht, eq_self] <;> rfl) (by simp -implicitDefEqProofs (disch := omega) only [go_sem, ht, eq_self]) (by first | (apply Or.inl; simp -implicitDefEqProofs (disch := omega) only [go_sem, ht, eq_self]; done) | (apply Or.inr; rintro r rfl; rfl)) (hlw) ?_; rintro _ nx_6 - rfl hnx_6; (try simp only [put_nx, withH_nx, begP_nx] at hnx_6); simp -implicitDefEqProofs (disch := omega) only [go_sem, ht, eq_self]); (refine pCall_view (by simp -implicitDefEqProofs (disch := omega) only [go_sem, ht, eq_self] <;> rfl) (by simp -implicitDefEqProofs (disch := omega) only [go_sem, ht, eq_self]) (by first | (apply Or.inl; simp -implicitDefEqProofs (disch := omega) only [go_sem, ht, eq_self]; done) | (apply Or.inr; rintro r rfl; rfl)) (hcr) ?_; rintro _ nx_7 - rfl hnx_7; (try simp only [put_nx, withH_nx, begP_nx] at hnx_7); simp -implicitDefEqProofs (disch := omega) only [go_sem, ht, eq_self]); (refine pCall_view (by simp -implicitDefEqProofs (disch := omega) only [go_sem, ht, eq_self] <;> rfl) (by simp -implicitDefEqProofs (disch := omega) only [go_sem, ht, eq_self]) (by first | (apply Or.inl; simp -implicitDefEqProofs (disch := omega) only [go_sem, ht, eq_self]; done) | (apply Or.inr; rintro r rfl; rfl)) (hcw) ?_; rintro _ nx_8 - rfl hnx_8; (try simp only [put_nx, withH_nx, begP_nx] at hnx_8); simp -implicitDefEqProofs (disch := omega) only [go_sem, ht, eq_self]); (refine pCall_view (by simp -implicitDefEqProofs (disch := omega) only [go_sem, ht, eq_self] <;> rfl) (by simp -implicitDefEqProofs (disch := omega) only [go_sem, ht, eq_self]) (by first | (apply Or.inl; simp -implicitDefEqProofs (disch := omega) only [go_sem, ht, eq_self]; done) | (apply Or.inr; rintro r rfl; rfl)) (hin) ?_; rintro _ nx_9 - rfl hnx_9; (try simp only [put_nx, withH_nx, begP_nx] at hnx_9); simp -implicitDefEqProofs (disch := omega) only [go_sem, ht, eq_self]); (refine pCall_view (by simp -implicitDefEqProofs (disch := omega) only [go_sem, ht, eq_self] <;> rfl) (by simp -implicitDefEqProofs (disch := omega) only [go_sem, ht, eq_self]) (by first | (apply Or.inl; simp -implicitDefEqProofs (disch := omega) only [go_sem, ht, eq_self]; done) | (apply Or.inr; rintro r rfl; rfl)) (hri) ?_; rintro _ nx_10 - rfl hnx_10; (try simp only [put_nx, withH_nx, begP_nx] at hnx_10); simp -implicitDefEqProofs (disch := omega) only [go_sem, ht, eq_self]))
  ((refine pCall_view (by simp -implicitDefEqProofs (disch := omega) only [go_sem, ht, eq_self] <;> rfl) (by simp -implicitDefEqProofs (disch := omega) only [go_sem, ht, eq_self]) (by first | (apply Or.inl; simp -implicitDefEqProofs (disch := omega) only [go_sem, ht, eq_self]; done) | (apply Or.inr; rintro r rfl; rfl)) (hnum) ?_; rintro _ nx_11 - rfl hnx_11; (try simp only [put_nx, withH_nx, begP_nx] at hnx_11); simp -implicitDefEqProofs (disch := omega) only [go_sem, ht, eq_self]))
  (refine end_treeW 0 ?_; simp -implicitDefEqProofs (disch := omega) only [go_sem, ht, eq_self])
end
end Go.Proofs.Ytfjdfnlkobeehaa
open Go.ChangeShapes Go.WideShapes Go.ChangeAt Go.RowKit
namespace Go.Proofs.Ytfjdfnlkobeehaa
set_option maxRecDepth 100000 in
theorem matrixInsides_lifted (os : Os) (started : os.Started) (H : Type) (enc : TypeId × Value → H) (F : Stop.Interp) :
    ReturnsInHanded {} Try.checked os 5 .any ((Rows.OpenSpec.upto Rows.matrixInsidesSpec).pre6 enc Try.prog Try.f5 Rows.matrixInsidesUptoRow.domain false) (((Rows.OpenSpec.upto Rows.matrixInsidesSpec).at F).post enc Try.prog Try.f5 false true false false) := by
  refine returnsInHanded_of_cond (C := Try.checked) (s := Rows.OpenSpec.upto Rows.matrixInsidesSpec) (k := Rows.uptoSmall) rfl law_own started (by kernel_rfl) Try.func5
    (OpenSpec.witness (enc := enc) (C := Try.checked) (s := Rows.OpenSpec.upto Rows.matrixInsidesSpec) (k := Rows.uptoSmall) rfl false ⟨#[], #[.slice none 0 0, .int .i64 0, .slice none 0 0], []⟩ 8 (by kernel_rfl) (by kernel_rfl) (by kernel_rfl) (x := ([.nil, .lit (.int .i64 0), .nil], [], [])) (by kernel_rfl) rfl (by kernel_rfl)) ?_
  intro W base args ds gs before hval0 hW hcnd hk _
  have hval : ∀ (j : Nat) t v, Try.f5.params[j]? = some t → args[j]? = some v → Value.okWide Try.prog W .any base t v := hval0
  have hW' := hW
  obtain ⟨p, q, hA0, hV, rfl, hfz, hnd⟩ := hW
  have hA : DataW.TrodAll enc Try.prog W 0 (fun _ => true) true Try.f5.params.toList args.toList ds p := hA0
  rw [Try.params5] at hA hval
  obtain ⟨v0, vs0, d0, ds0, p0, q0, hargs, rfl, rfl, h0, r0⟩ := trodAll_cons hA
  obtain ⟨v1, vs1, d1, ds1, p1, q1, rfl, rfl, rfl, h1, r1⟩ := trodAll_cons r0
  obtain ⟨v2, vs2, d2, ds2, p2, q2, rfl, rfl, rfl, h2, r2⟩ := trodAll_cons r1
  obtain ⟨rfl, rfl, rfl⟩ := trodAll_nil r2
  obtain rfl : args = #[v0, v1, v2] := by cases args; simp_all
  obtain ⟨rfl, rfl⟩ := trodVars_none hV
  have hbk : Rows.uptoBulkAll [d0, d1, d2] ≤ 1048576 := of_decide_eq_true hk
  simp only [Rows.uptoBulkAll] at hbk
  have lt0 : ∀ x ∈ p0, x.block < W.heap.size := by obtain ⟨m, hm⟩ := h0; exact DataW.trod_lt m _ _ _ hm
  obtain ⟨fu0, g0⟩ := value_cells Try.underlying22 (hval 0 22 v0 rfl rfl) h0
  obtain ⟨l0, lm0, ln0, rep0⟩ := cell_rowsS Try.underlying22 (by kernel_rfl) Try.underlying27 Try.underlying30 (by kernel_rfl) rfl rfl (by kernel_rfl) (by kernel_rfl) Try.underlying4 Try.underlying28 Try.underlying93 (by kernel_rfl) g0
  have lb0 := Nat.le_trans ln0 (show Rows.uptoBulk d0 ≤ 1048576 by omega)
  have lt1 : ∀ x ∈ p1, x.block < W.heap.size := by obtain ⟨m, hm⟩ := h1; exact DataW.trod_lt m _ _ _ hm
  obtain ⟨x1, lo1, hi1, rep1⟩ := arg_int Try.underlying3 (hval 1 3 v1 rfl rfl) h1
  have lt2 : ∀ x ∈ p2, x.block < W.heap.size := by obtain ⟨m, hm⟩ := h2; exact DataW.trod_lt m _ _ _ hm
  obtain ⟨fu2, g2⟩ := value_cells Try.underlying27 (hval 2 27 v2 rfl rfl) h2
  obtain ⟨l2, lm2, ln2, rep2⟩ := cell_wholesS Try.underlying27 Try.underlying30 (by kernel_rfl) rfl rfl (by kernel_rfl) (by kernel_rfl) Try.underlying4 Try.underlying28 Try.underlying93 (by kernel_rfl) g2
  have lb2 := Nat.le_trans ln2 (show Rows.uptoBulk d2 ≤ 1048576 by omega)
  refine (law_run (insides_law lm0 lb0 lo1 hi1 lm2 lb2) (vs := [v0, v1, v2]) (by simp only [RepL]; exact ⟨rep0, ⟨rep1, ⟨rep2, trivial⟩⟩⟩)).mono fun e W' ⟨⟨v, r, he, hr, hx⟩, bel⟩ => ?_
  subst he; rw [hx _ hr]
  exact ⟨_, rfl, _, _, _, [], _, [], hW', trodAll_mk1 (shut_bool Try.underlying4 _), (trodAll_cons_mk (Below.trod law_laidOut (by kernel_rfl) (of_decide_eq_true (by kernel_rfl)) h0 bel lt0) (trodAll_cons_mk (Below.trod law_laidOut (by kernel_rfl) (of_decide_eq_true (by kernel_rfl)) h1 bel lt1) (trodAll_cons_mk (Below.trod law_laidOut (by kernel_rfl) (of_decide_eq_true (by kernel_rfl)) h2 bel lt2) trodAll_mk0))), rfl, bel.frame _, fun h => by cases h⟩
theorem matrixInsidesUpto_holds : Rows.MatrixInsidesUptoSaid :=
  OpenClaim.holds_of_cond 5 Try.f5 rfl rfl rfl rfl rfl rfl rfl ⟨rfl, rfl, rfl, rfl, rfl⟩ rfl rfl rfl rfl rfl (by kernel_rfl) Try.func5 (by kernel_rfl)
    (of_decide_eq_true (by kernel_rfl)) (by unfold Func.isWrapper; first | (rw [if_pos (by decide +kernel)]; kernel_rfl) | (rw [if_neg (by decide +kernel)]; exact ⟨rfl, rfl⟩))
    (fun os started H enc _ F => matrixInsides_lifted os started H enc F)
end Go.Proofs.Ytfjdfnlkobeehaa
end
