/- Part 47 of the way to the statement: the walk and what it needs. -/
import Derived.Test.YtfjdfnlkobeehaaGreatKKeF41
import Derived.Test.YtfjdfnlkobeehaaGreatKKeF42
import Derived.Test.YtfjdfnlkobeehaaGreatKKeF45
import Derived.Test.YtfjdfnlkobeehaaGreatKKeF46
section
set_option maxRecDepth 100000
set_option linter.unusedVariables false
set_option linter.unusedSimpArgs false
namespace Go.Proofs.YtfjdfnlkobeehaaGreat.Ref
open YtfjdfnlkobeehaaGreat (SWc SW WX WC WV vals vals_len SM lenM Rn vc vc_lt SW_def SM_def cZ get_SM' getD_take getD_mem getD_vals wrongM swp_bd swp_swp swp_ge loopN)
end Go.Proofs.YtfjdfnlkobeehaaGreat.Ref
end

section
set_option maxRecDepth 100000
set_option linter.unusedVariables false
set_option linter.unusedSimpArgs false
namespace Go.Proofs.YtfjdfnlkobeehaaGreat.Ref
open YtfjdfnlkobeehaaGreat (SWc SW WX WC WV vals vals_len SM lenM Rn vc vc_lt SW_def SM_def cZ get_SM' getD_take getD_mem getD_vals wrongM swp_bd swp_swp swp_ge loopN)
section
variable {n c idM capM bd bo bk i : Nat} {ids caps : Nat → Nat} {f : Nat → List Rat} {d o x : Rat} {cx : Cx} {Q : Exit → PS → Prop} {s : PS}


def rr (z : List Int) : List Rat := z.map fun x : Int => ((x : Int) : Rat)
end
end Go.Proofs.YtfjdfnlkobeehaaGreat.Ref
end

section
set_option maxRecDepth 100000
set_option linter.unusedVariables false
set_option linter.unusedSimpArgs false
namespace Go.Proofs.YtfjdfnlkobeehaaGreat.Ref
open YtfjdfnlkobeehaaGreat (SWc SW WX WC WV vals vals_len SM lenM Rn vc vc_lt SW_def SM_def cZ get_SM' getD_take getD_mem getD_vals wrongM swp_bd swp_swp swp_ge loopN)

end Go.Proofs.YtfjdfnlkobeehaaGreat.Ref
end

section
set_option maxRecDepth 100000
set_option linter.unusedVariables false
set_option linter.unusedSimpArgs false
namespace Go.Proofs.YtfjdfnlkobeehaaGreat
theorem findP_of {W : List (List Int)} {c p : Nat} (hp : p < W.length) (hz2 : vc (W.getD p []) c ≠ 0) : ∀ (k r : Nat), k + r = p → (∀ i, r ≤ i → i < p → vc (W.getD i []) c = 0) → findP W c r = p
  | 0, r, e, _ => by
    obtain rfl : r = p := by omega
    rw [findP_eq hp, if_pos hz2]
  | k + 1, r, e, hz => by
    rw [findP_eq (by omega), if_neg (by simpa using hz r (Nat.le_refl _) (by omega))]
    exact findP_of hp hz2 k (r + 1) (by omega) fun i h1 h2 => hz i (by omega) h2
theorem findP_no {W : List (List Int)} {c : Nat} : ∀ (k r : Nat), k + r = W.length → (∀ i, r ≤ i → i < W.length → vc (W.getD i []) c = 0) → findP W c r = W.length
  | 0, r, e, _ => findP_end (by omega)
  | k + 1, r, e, hz => by
    rw [findP_eq (by omega), if_neg (by simpa using hz r (Nat.le_refl _) (by omega))]
    exact findP_no k (r + 1) (by omega) fun i h1 h2 => hz i (by omega) h2
end Go.Proofs.YtfjdfnlkobeehaaGreat
namespace Go.Proofs.YtfjdfnlkobeehaaGreat.Ref
open YtfjdfnlkobeehaaGreat (vc vc_lt findP findP_of findP_no findP_spec swapL swapL_len swapL_get bstep bstep_get brow brow_vc barW barD BI detZ swp_bd swp_ge)
end Go.Proofs.YtfjdfnlkobeehaaGreat.Ref
end

section
set_option maxRecDepth 100000
set_option linter.unusedVariables false
set_option linter.unusedSimpArgs false
namespace Go.Proofs.YtfjdfnlkobeehaaGreat.Ref
open YtfjdfnlkobeehaaGreat (SWc SW WX WC WV vals vals_len SM lenM Rn vc vc_lt SW_def SM_def cZ get_SM' getD_take getD_mem getD_vals wrongM wrongM_false Mx mDet detZ barW barD expW expW_det WC_def)
theorem big_z {k : Nat} {z : Int} (h : Z k z) (hk : k ≤ 1000000) : PT Tryz.prog 97 [NZ z] (isV (.val (.bool (decide (32 < (YtfjdfnlkobeehaaGreat.D z.natAbs).length))))) := by
  have hl := long_z h hk
  have h2 := lenZ h
  rw [NZ_def] at hl ⊢
  by_cases h77 : 77 < (D z.natAbs).length
  · have h77i : (77 : Int) < ((D z.natAbs).length : Nat) := by omega
    have e : decide ((32 : Int) < ((YtfjdfnlkobeehaaGreat.D z.natAbs).length : Nat)) = decide (32 < (YtfjdfnlkobeehaaGreat.D z.natAbs).length) := by
      rw [Bool.eq_iff_iff, decide_eq_true_iff, decide_eq_true_iff]; omega
    generalize (YtfjdfnlkobeehaaGreat.D z.natAbs).length = ln at *
    refine PCalls.enter (n := 12) (rs := [.tmp 2]) (tb := []) Tryz.func97 rfl rfl rfl (by kernel_rfl) (by kernel_rfl) (by simp) fun c hc ht => ?_
    simp -implicitDefEqProofs (disch := omega) only [go_sem, ht, h77, h77i]
    (refine pCall_vw (by refine ⟨⟨?_, ?_⟩, ?_, ?_⟩; rotate_left 2; (first | (right; rintro r rfl; rfl) | left); all_goals ((try simp -implicitDefEqProofs (disch := omega) only [h77, h77i, e, go_sem, ht]) <;> rfl)) (hl) ?_; rintro _ nx - rfl hnx; simp -implicitDefEqProofs (disch := omega) only [h77, h77i, e, go_sem, ht])
    (refine end_treeW 0 ?_; simp -implicitDefEqProofs (disch := omega) only [go_sem, ht])
  · have h77i : ¬ (77 : Int) < ((D z.natAbs).length : Nat) := by omega
    have h32 : (YtfjdfnlkobeehaaGreat.D z.natAbs).length ≤ 32 := YtfjdfnlkobeehaaGreat.D_len_le.2 (Nat.lt_of_lt_of_le (D_len_le.1 (show (D z.natAbs).length ≤ 77 by omega)) (by decide))
    rw [show decide (32 < (YtfjdfnlkobeehaaGreat.D z.natAbs).length) = false from decide_eq_false (by omega)]
    refine PCalls.enter (n := 12) (rs := [.tmp 2]) (tb := []) Tryz.func97 rfl rfl rfl (by kernel_rfl) (by kernel_rfl) (by simp) fun c hc ht => ?_
    simp -implicitDefEqProofs (disch := omega) only [go_sem, ht, h77, h77i]
    (refine end_treeW 0 ?_; simp -implicitDefEqProofs (disch := omega) only [go_sem, ht])
end Go.Proofs.YtfjdfnlkobeehaaGreat.Ref
end

section
set_option maxRecDepth 100000
set_option linter.unusedVariables false
set_option linter.unusedSimpArgs false
namespace Go.Proofs.YtfjdfnlkobeehaaGreat.Ref
open YtfjdfnlkobeehaaGreat (SWc SW WX WC WV vals vals_len SM lenM Rn vc vc_lt SW_def SM_def cZ get_SM' getD_take getD_mem getD_vals wrongM wrongM_false Mx CZ CZ_len echW echT longZ mEch mRank WC_def mem_getD)
section
variable {z : List Int} {W : List (List Int)} {m : List (List (Bool × List Nat))} {k cols B : Nat}
theorem alltold_z (hz : ∀ x ∈ z, Z k x) (hk : k ≤ 1000000) (hl : z.length ≤ 1000000) : PT Tryz.prog 73 [SN z] (isV (SW (CZ z))) := by
  have hcl := CZ_len z
  refine PCalls.enter (n := 20) (rs := [.tmp 2]) (tb := []) Tryz.func73 rfl rfl rfl (by kernel_rfl) (by kernel_rfl) (by simp) fun c hc ht => ?_
  simp -implicitDefEqProofs (disch := omega) only [go_sem, ht]
  refine LW.ghost (Gh.nilW 3 2 (by simp -implicitDefEqProofs (disch := omega) only [go_sem, ht])) ?_
  refine LW.loopW hc ht (by kernel_rfl) (fun t => t.sl 0 = .sl z.length (SNc z) ∧ ∃ i : Nat, i ≤ z.length ∧ t.sl 4 = .val (.int .i64 i) ∧ ∃ (id cap : Nat) (rest : List Value), t.sl 3 = .ref id 0 i cap 2 ∧ t.H id = some (SWc (CZ (z.take i)) ++ rest.map .val) ∧ i * 2 + rest.length = cap * 2 ∧ id < t.nx)
    (fun t => match t.sl 4 with | .val (.int _ k) => z.length - k.toNat | _ => 0) ?_ ?_
  · simp -implicitDefEqProofs (disch := omega) only [go_sem, ht]
    exact ⟨0, Nat.zero_le _, rfl, _, 0, [], rfl, upd_self _ _ _, rfl, by omega⟩
  · rintro t ⟨h0, i, hi, h4, id, cap, rest, h3, hH, hcap, hid⟩
    by_cases hil : i = z.length
    · subst hil
      rw [List.take_length] at hH
      have htk := YtfjdfnlkobeehaaGreat.take_SWc (CZ z) (rest.map .val) (n := z.length) (by omega)
      have hl2 := YtfjdfnlkobeehaaGreat.SWc_len (CZ z)
      simp -implicitDefEqProofs (disch := omega) only [go_sem, ht, h0, h3, h4]
      (refine end_treeW 2 ?_; simp -implicitDefEqProofs (disch := omega) only [go_sem, ht, hH, htk, hcl]; omega)
    · have hlt : i < z.length := by omega
      have hat := SNc_at hlt
      have hof := told_z (hz _ (List.getElem_mem hlt)) hk
      rw [← vc_lt hlt, NZ_def, WC_def] at hof
      have htk := YtfjdfnlkobeehaaGreat.SWc_next hlt
      have hln : (SWc (CZ (z.take i))).length = 2 * i := by rw [YtfjdfnlkobeehaaGreat.SWc_len, CZ_len, List.length_take]; omega
      generalize vc z i = x at *
      simp -implicitDefEqProofs (disch := omega) only [go_sem, ht, h0, h3, h4, hat]
      (refine pCall_vw (by refine ⟨⟨?_, ?_⟩, ?_, ?_⟩; rotate_left 2; (first | (right; rintro r rfl; rfl) | left); all_goals ((try simp -implicitDefEqProofs (disch := omega) only [h0, h3, h4, hat, go_sem, ht]) <;> rfl)) (hof) ?_; rintro _ nx - rfl hnx; simp -implicitDefEqProofs (disch := omega) only [h0, h3, h4, hat, go_sem, ht])
      have hne : id ≠ nx := by omega
      (refine append_ownSX (by refine ⟨?_, ?_, ?_, ?_, ?_, ?_, ?_, ?_⟩ <;> (simp -implicitDefEqProofs (disch := omega) only [srcP_ref, srcP_sl, srcP_nil, Option.isSome_some, hH, go_sem, ht] <;> rfl)) (by rfl) (by first | omega | (simp <;> omega)) (by first | assumption | (simp <;> omega)) (by first | rfl | simp) (by first | omega | (simp <;> omega)) ?_; intro id1 cap1 rest1 H1 nx1 hH1 hcap1 hid1 hnx1 hfr1 hfs1; simp only [put_nx, withH_nx, put_H, withH_H] at hid1 hnx1 hfr1 hfs1)
      rw [← htk] at hH1
      simp -implicitDefEqProofs (disch := omega) only [go_sem, ht, h0, h3, h4]
      exact ⟨⟨i + 1, by omega, rfl, id1, cap1, rest1, rfl, hH1, by omega, by omega⟩, by omega⟩
theorem mtold_z (hW : ∀ z ∈ W, (∀ x ∈ z, Z k x) ∧ z.length ≤ 1000000) (hk : k ≤ 1000000) (hl : W.length ≤ 1000000) : PT Tryz.prog 46 [SNM W] (isV (SM (W.map CZ))) := by
  have hvl : (W.map CZ).length = W.length := by simp
  refine PCalls.enter (n := 20) (rs := [.tmp 2]) (tb := []) Tryz.func46 rfl rfl rfl (by kernel_rfl) (by kernel_rfl) (by simp) fun c hc ht => ?_
  simp -implicitDefEqProofs (disch := omega) only [go_sem, ht]
  refine LW.ghost (Gh.nilW 3 1 (by simp -implicitDefEqProofs (disch := omega) only [go_sem, ht])) ?_
  refine LW.loopW hc ht (by kernel_rfl) (fun t => t.sl 0 = .sl W.length (W.map SN) ∧ ∃ i : Nat, i ≤ W.length ∧ t.sl 4 = .val (.int .i64 i) ∧ ∃ (id cap : Nat) (rest : List Value), t.sl 3 = .ref id 0 i cap 1 ∧ t.H id = some (((W.map CZ).take i).map SW ++ rest.map .val) ∧ i + rest.length = cap ∧ id < t.nx)
    (fun t => match t.sl 4 with | .val (.int _ k) => W.length - k.toNat | _ => 0) ?_ ?_
  · simp -implicitDefEqProofs (disch := omega) only [go_sem, ht]
    exact ⟨0, Nat.zero_le _, rfl, _, 0, [], rfl, upd_self _ _ _, rfl, by omega⟩
  · rintro t ⟨h0, i, hi, h4, id, cap, rest, h3, hH, hcap, hid⟩
    by_cases hil : i = W.length
    · subst hil
      rw [List.take_of_length_le (by omega)] at hH
      have hml2 : ((W.map CZ).map SW).length = W.length := by simp
      have htk : List.take W.length ((W.map CZ).map SW ++ rest.map .val) = (W.map CZ).map SW := by
        rw [List.take_append_of_le_length (by omega), List.take_of_length_le (by omega)]
      have hle : W.length ≤ ((W.map CZ).map SW).length + rest.length := by omega
      have hfl := YtfjdfnlkobeehaaGreat.frzL_flat (fun _ => true) t.H 1 (YtfjdfnlkobeehaaGreat.SM_flat (W.map CZ))
      have hfl0 := YtfjdfnlkobeehaaGreat.SM_flat (W.map CZ)
      generalize W.map CZ = V at *
      simp -implicitDefEqProofs (disch := omega) only [go_sem, ht, h0, h3, h4]
      (refine end_treeW 2 ?_; simp -implicitDefEqProofs (disch := omega) only [go_sem, ht, hH, htk, hfl, hfl0, hle, hvl])
      omega
    · have hlt : i < W.length := by omega
      have hgi := get_SNM' hlt
      obtain ⟨hz, hlw⟩ := hW _ (getD_mem (d := []) hlt)
      have hct := alltold_z hz hk hlw
      have hst : ((W.map CZ).take i).map SW ++ [.sl (CZ (W.getD i [])).length (SWc (CZ (W.getD i [])))] = ((W.map CZ).take (i + 1)).map SW := by
        rw [getD_take (d := []) (by omega), List.map_append, YtfjdfnlkobeehaaGreat.getD_CZ hlt]; rfl
      have hln : (((W.map CZ).take i).map SW).length = i := by simp; omega
      generalize W.map CZ = V at *
      generalize W.getD i [] = z0 at *
      simp -implicitDefEqProofs (disch := omega) only [go_sem, ht, h0, h3, h4, hgi]
      (refine pCall_vw (by refine ⟨⟨?_, ?_⟩, ?_, ?_⟩; rotate_left 2; (first | (right; rintro r rfl; rfl) | left); all_goals ((try simp -implicitDefEqProofs (disch := omega) only [h0, h3, h4, hgi, go_sem, ht]) <;> rfl)) (hct) ?_; rintro _ nx - rfl hnx; simp -implicitDefEqProofs (disch := omega) only [h0, h3, h4, hgi, go_sem, ht])
      have hne : id ≠ nx := by omega
      (refine append_ownX (by refine ⟨?_, ?_, ?_, ?_, ?_, ?_, ?_, ?_⟩ <;> (simp -implicitDefEqProofs (disch := omega) only [srcP_ref, srcP_sl, srcP_nil, Option.isSome_some, hH, go_sem, ht] <;> rfl)) (by first | omega | (simp <;> omega)) (by first | assumption | (simp <;> omega)) (by first | rfl | simp) (by first | omega | (simp <;> omega)) ?_; intro id1 cap1 rest1 H1 nx1 hH1 hcap1 hid1 hnx1 hfr1 hfs1; (try simp only [put_nx, withH_nx, put_H, withH_H] at hid1 hnx1 hfr1 hfs1); (try simp only [app_U, ← List.map_append] at hH1))
      rw [hst] at hH1
      simp -implicitDefEqProofs (disch := omega) only [go_sem, ht, h0, h3, h4]
      exact ⟨⟨i + 1, by omega, rfl, id1, cap1, rest1, rfl, hH1, by omega, by omega⟩, by omega⟩
theorem rlong_z (hz : ∀ x ∈ z, Z k x) (hk : k ≤ 1000000) (hl : z.length ≤ 1000000) : PT Tryz.prog 72 [SN z] (isV (.val (.bool (YtfjdfnlkobeehaaGreat.longR z)))) := by
  refine PCalls.enter (n := 15) (rs := [.tmp 2]) (tb := []) Tryz.func72 rfl rfl rfl (by kernel_rfl) (by kernel_rfl) (by simp) fun c hc ht => ?_
  simp -implicitDefEqProofs (disch := omega) only [go_sem, ht]
  refine LW.loopW hc ht (by kernel_rfl) (fun t => t.sl 0 = .sl z.length (SNc z) ∧ ∃ i : Nat, i ≤ z.length ∧ t.sl 3 = .val (.int .i64 i) ∧ ∀ x ∈ z.take i, (YtfjdfnlkobeehaaGreat.D x.natAbs).length ≤ 32)
    (fun t => match t.sl 3 with | .val (.int _ k) => z.length - k.toNat | _ => 0) ?_ ?_
  · simp -implicitDefEqProofs (disch := omega) only [go_sem, ht]
    exact ⟨0, Nat.zero_le _, rfl, by simp⟩
  · rintro t ⟨h0, i, hi, h3, hal⟩
    by_cases hil : i = z.length
    · subst hil
      rw [List.take_length] at hal
      rw [show YtfjdfnlkobeehaaGreat.longR z = false from decide_eq_false (by
        rintro ⟨x, hx, hlt⟩
        have := hal x hx
        omega)]
      simp -implicitDefEqProofs (disch := omega) only [go_sem, ht, h0, h3]
      (refine end_treeW 0 ?_; simp -implicitDefEqProofs (disch := omega) only [go_sem, ht])
    · have hlt : i < z.length := by omega
      have hat := SNc_at hlt
      have hof := big_z (hz _ (List.getElem_mem hlt)) hk
      rw [← vc_lt hlt, NZ_def] at hof
      have h1 : 32 < (YtfjdfnlkobeehaaGreat.D (vc z i).natAbs).length → YtfjdfnlkobeehaaGreat.longR z = true := fun h32 => decide_eq_true ⟨_, List.getElem_mem hlt, by rwa [vc_lt hlt] at h32⟩
      by_cases h32 : 32 < (YtfjdfnlkobeehaaGreat.D (vc z i).natAbs).length
      · rw [h1 h32]
        rw [decide_eq_true h32] at hof
        clear h1 h32
        generalize vc z i = x at *
        simp -implicitDefEqProofs (disch := omega) only [go_sem, ht, h0, h3, hat]
        (refine pCall_vw (by refine ⟨⟨?_, ?_⟩, ?_, ?_⟩; rotate_left 2; (first | (right; rintro r rfl; rfl) | left); all_goals ((try simp -implicitDefEqProofs (disch := omega) only [h0, h3, hat, go_sem, ht]) <;> rfl)) (hof) ?_; rintro _ nx - rfl hnx; simp -implicitDefEqProofs (disch := omega) only [h0, h3, hat, go_sem, ht])
        (refine end_treeW 0 ?_; simp -implicitDefEqProofs (disch := omega) only [go_sem, ht])
      · have hle : ∀ x ∈ z.take (i + 1), (YtfjdfnlkobeehaaGreat.D x.natAbs).length ≤ 32 := fun x hx => by
          rw [List.take_succ_eq_append_getElem hlt] at hx
          rcases List.mem_append.1 hx with hx | hx
          · exact hal x hx
          · have : x = z[i] := by simpa using hx
            rw [this, ← vc_lt hlt]; omega
        rw [decide_eq_false h32] at hof
        clear h1 h32
        generalize vc z i = x at *
        simp -implicitDefEqProofs (disch := omega) only [go_sem, ht, h0, h3, hat]
        (refine pCall_vw (by refine ⟨⟨?_, ?_⟩, ?_, ?_⟩; rotate_left 2; (first | (right; rintro r rfl; rfl) | left); all_goals ((try simp -implicitDefEqProofs (disch := omega) only [h0, h3, hat, go_sem, ht]) <;> rfl)) (hof) ?_; rintro _ nx - rfl hnx; simp -implicitDefEqProofs (disch := omega) only [h0, h3, hat, go_sem, ht])
        exact ⟨⟨i + 1, by omega, rfl, hle⟩, by omega⟩
theorem mlong_z (hW : ∀ z ∈ W, (∀ x ∈ z, Z k x) ∧ z.length ≤ 1000000) (hk : k ≤ 1000000) (hl : W.length ≤ 1000000) : PT Tryz.prog 45 [SNM W] (isV (.val (.bool (longZ W)))) := by
  refine PCalls.enter (n := 15) (rs := [.tmp 2]) (tb := []) Tryz.func45 rfl rfl rfl (by kernel_rfl) (by kernel_rfl) (by simp) fun c hc ht => ?_
  simp -implicitDefEqProofs (disch := omega) only [go_sem, ht]
  refine LW.loopW hc ht (by kernel_rfl) (fun t => t.sl 0 = .sl W.length (W.map SN) ∧ ∃ i : Nat, i ≤ W.length ∧ t.sl 3 = .val (.int .i64 i) ∧ ∀ z ∈ W.take i, YtfjdfnlkobeehaaGreat.longR z = false)
    (fun t => match t.sl 3 with | .val (.int _ k) => W.length - k.toNat | _ => 0) ?_ ?_
  · simp -implicitDefEqProofs (disch := omega) only [go_sem, ht]
    exact ⟨0, Nat.zero_le _, rfl, by simp⟩
  · rintro t ⟨h0, i, hi, h3, hal⟩
    by_cases hil : i = W.length
    · subst hil
      rw [List.take_length] at hal
      rw [show longZ W = false from decide_eq_false (by
        rintro ⟨z, hz, x, hx, hlt⟩
        exact of_decide_eq_false (hal z hz) ⟨x, hx, hlt⟩)]
      simp -implicitDefEqProofs (disch := omega) only [go_sem, ht, h0, h3]
      (refine end_treeW 0 ?_; simp -implicitDefEqProofs (disch := omega) only [go_sem, ht])
    · have hlt : i < W.length := by omega
      have hgi := get_SNM' hlt
      have hmem := getD_mem (d := []) hlt
      obtain ⟨hz, hlw⟩ := hW _ hmem
      have hct := rlong_z hz hk hlw
      by_cases hb : YtfjdfnlkobeehaaGreat.longR (W.getD i []) = true
      · have e : longZ W = true := decide_eq_true (by
          obtain ⟨x, hx, h32⟩ := of_decide_eq_true hb
          exact ⟨_, hmem, x, hx, h32⟩)
        rw [hb] at hct
        rw [e]
        clear hb e hal
        generalize W.getD i [] = z0 at *
        simp -implicitDefEqProofs (disch := omega) only [go_sem, ht, h0, h3, hgi]
        (refine pCall_vw (by refine ⟨⟨?_, ?_⟩, ?_, ?_⟩; rotate_left 2; (first | (right; rintro r rfl; rfl) | left); all_goals ((try simp -implicitDefEqProofs (disch := omega) only [h0, h3, hgi, go_sem, ht]) <;> rfl)) (hct) ?_; rintro _ nx - rfl hnx; simp -implicitDefEqProofs (disch := omega) only [h0, h3, hgi, go_sem, ht])
        (refine end_treeW 0 ?_; simp -implicitDefEqProofs (disch := omega) only [go_sem, ht])
      · have hb' : YtfjdfnlkobeehaaGreat.longR (W.getD i []) = false := by simpa using hb
        have hal2 : ∀ z ∈ W.take (i + 1), YtfjdfnlkobeehaaGreat.longR z = false := fun y hy => by
          rw [getD_take (d := []) hlt] at hy
          rcases List.mem_append.1 hy with hy | hy
          · exact hal y hy
          · have : y = W.getD i [] := by simpa using hy
            rw [this]; exact hb'
        rw [hb'] at hct
        clear hb hb'
        generalize W.getD i [] = z0 at *
        simp -implicitDefEqProofs (disch := omega) only [go_sem, ht, h0, h3, hgi]
        (refine pCall_vw (by refine ⟨⟨?_, ?_⟩, ?_, ?_⟩; rotate_left 2; (first | (right; rintro r rfl; rfl) | left); all_goals ((try simp -implicitDefEqProofs (disch := omega) only [h0, h3, hgi, go_sem, ht]) <;> rfl)) (hct) ?_; rintro _ nx - rfl hnx; simp -implicitDefEqProofs (disch := omega) only [h0, h3, hgi, go_sem, ht])
        exact ⟨⟨i + 1, by omega, rfl, hal2⟩, by omega⟩
theorem rmtold_z (hW : ∀ z ∈ W, (∀ x ∈ z, Z k x) ∧ z.length ≤ 1000000) (hk : k ≤ 1000000) (hl : W.length ≤ 1000000) : PT Tryz.prog 24 [SNM W] (isV (.tup [SM ((if longZ W then [] else W).map CZ), .val (.int .i64 (if longZ W then 2 else 0))])) := by
  have h1 := mlong_z hW hk hl
  have h2 := mtold_z hW hk hl
  have hfl := YtfjdfnlkobeehaaGreat.SM_flat (W.map CZ)
  by_cases hb : longZ W = true
  · rw [hb] at h1
    rw [if_pos hb, if_pos hb]
    refine PCalls.enter (n := 8) (rs := [.tmp 2, .tmp 3]) (tb := []) Tryz.func24 rfl rfl rfl (by kernel_rfl) (by kernel_rfl) (by simp) fun c hc ht => ?_
    simp -implicitDefEqProofs (disch := omega) only [go_sem, ht]
    (refine pCall_vw (by refine ⟨⟨?_, ?_⟩, ?_, ?_⟩; rotate_left 2; (first | (right; rintro r rfl; rfl) | left); all_goals ((try simp -implicitDefEqProofs (disch := omega) only [go_sem, ht]) <;> rfl)) (h1) ?_; rintro _ nx - rfl hnx; simp -implicitDefEqProofs (disch := omega) only [go_sem, ht])
    (refine end_treeM 2 ?_; simp -implicitDefEqProofs (disch := omega) only [go_sem, ht, List.map_nil])
  · rw [show longZ W = false by simpa using hb] at h1
    rw [if_neg hb, if_neg hb]
    generalize W.map CZ = V at *
    refine PCalls.enter (n := 8) (rs := [.tmp 2, .tmp 3]) (tb := []) Tryz.func24 rfl rfl rfl (by kernel_rfl) (by kernel_rfl) (by simp) fun c hc ht => ?_
    simp -implicitDefEqProofs (disch := omega) only [go_sem, ht]
    ((refine pCall_vw (by refine ⟨⟨?_, ?_⟩, ?_, ?_⟩; rotate_left 2; (first | (right; rintro r rfl; rfl) | left); all_goals ((try simp -implicitDefEqProofs (disch := omega) only [go_sem, ht]) <;> rfl)) (h1) ?_; rintro _ nx_1 - rfl hnx_1; simp -implicitDefEqProofs (disch := omega) only [go_sem, ht]); (refine pCall_vw (by refine ⟨⟨?_, ?_⟩, ?_, ?_⟩; rotate_left 2; (first | (right; rintro r rfl; rfl) | left); all_goals ((try simp -implicitDefEqProofs (disch := omega) only [go_sem, ht]) <;> rfl)) (h2) ?_; rintro _ nx_2 - rfl hnx_2; simp -implicitDefEqProofs (disch := omega) only [go_sem, ht]))
    (refine end_treeM 2 ?_; simp -implicitDefEqProofs (disch := omega) only [go_sem, ht, hfl])


end
end Go.Proofs.YtfjdfnlkobeehaaGreat.Ref
end

section
set_option maxRecDepth 100000
set_option linter.unusedVariables false
set_option linter.unusedSimpArgs false
namespace Go.Proofs.YtfjdfnlkobeehaaGreat.Ref
open YtfjdfnlkobeehaaGreat (SWc SW WX WC WV vals vals_len SM lenM Rn vc vc_lt SW_def SM_def cZ get_SM' getD_take getD_mem getD_vals wrongM wrongM_false Mx CZ CZ_len echW echT longZ WC_def mem_getD canZ canZ_len nulV nulV_len frees frees_le frees_count kerR kerR_len kerR_row kerT mKer agZ agZ_len agZ_z KZ echT_RE map_vals_CZ RE lcP EZ sz sz_succ)
theorem nulR_can {T : List (List Int)} {Pv : List Nat} {cols : Nat} (h : RE T Pv cols) (n : Nat) : nulR T Pv cols n = (kerR T Pv cols n).map canZ := by
  unfold nulR YtfjdfnlkobeehaaGreat.kerR
  rw [List.map_map]
  exact List.map_congr_left fun f _ => YtfjdfnlkobeehaaGreat.nul_can h
theorem sz_const (κ : Nat) : ∀ n, sz (fun _ => κ) n = n * (κ + 1)
  | 0 => by rw [YtfjdfnlkobeehaaGreat.sz_zero, Nat.zero_mul]
  | n + 1 => by rw [sz_succ, sz_const κ n, Nat.succ_mul]
section
variable {m : List (List (Bool × List Nat))} {n B κ : Nat}
theorem mnull (h : Mx m B) (hlc : ∀ l ∈ m, l.length = n) (hn : n ≤ 32) (hml : m.length ≤ 64) (hB : 2 * (B + 1) + 1 ≤ 100000) (hkz : KZ m n κ) (hκ : κ ≤ 1560) :
    PT Tryz.prog 25 [SNM (m.map vals), .val (.int .i64 n)] (isV (SNM (kerT (m.map vals) n))) := by
  have hr0 := mred h hlc hn hml hB
  have hrr := h.rr hlc
  obtain ⟨hRE, _, _⟩ := echT_RE h hlc
  obtain ⟨hKM, hKc⟩ := h.ker hlc hn hkz (by omega)
  have hag : ∀ f, ∀ x ∈ agZ (echT (m.map vals) n) (echW (m.map vals) n).2 f n (echW (m.map vals) n).2.length, Z κ x := fun f => agZ_z (hkz.L _ (Nat.le_refl _)) _ fun i hi => hkz.E f i hi
  have hL : (lcP (echT (m.map vals) n) (echW (m.map vals) n).2 (echW (m.map vals) n).2.length).natAbs < 4294967296 ^ κ := hkz.L _ (Nat.le_refl _)
  have hL0 := YtfjdfnlkobeehaaGreat.lcP_ne hRE _ (Nat.le_refl (echW (m.map vals) n).2.length)
  have hfc := frees_count hRE.col hRE.inc
  have hnc := nulR_can hRE n
  have hkl := kerR_len (echT (m.map vals) n) (echW (m.map vals) n).2 n n
  have hec := YtfjdfnlkobeehaaGreat.ech_can (cols := n) hKM kerR_row
  have hrow : ∀ z ∈ nulR (echT (m.map vals) n) (echW (m.map vals) n).2 n n, (∀ x ∈ z, Z κ x) ∧ z.length = n := fun z hz => by
    rw [hnc] at hz
    obtain ⟨y, hy, rfl⟩ := List.mem_map.1 hz
    refine ⟨canZ_z ?_, by rw [canZ_len]; exact kerR_row y hy⟩
    obtain ⟨f, _, rfl⟩ := List.mem_map.1 hy
    exact hag f
  have hrl : (nulR (echT (m.map vals) n) (echW (m.map vals) n).2 n n).length ≤ 32 := by rw [nulR_len]; omega
  have hEZ : ∀ c, EZ 4294967296 (32 * (κ + 1)) (nulR (echT (m.map vals) n) (echW (m.map vals) n).2 n n).length n (echW (nulR (echT (m.map vals) n) (echW (m.map vals) n).2 n n) c) :=
    EZ.all (κ := fun _ => κ) (fun z hz => (hrow z hz).2) (fun k hk x hx => Nat.le_of_lt ((hrow _ (getD_mem (d := []) hk)).1 x hx)) (by rw [sz_const]; exact Nat.mul_le_mul_right _ hrl)
  have hsh : ∀ c k, k < (nulR (echT (m.map vals) n) (echW (m.map vals) n).2 n n).length → ∀ x ∈ (echW (nulR (echT (m.map vals) n) (echW (m.map vals) n).2 n n) c).1.getD k [], Z (32 * (κ + 1) + 1) x := fun c k hk x hx =>
    Nat.lt_of_le_of_lt ((hEZ c).short (by omega) (by omega) hk x hx) (Nat.pow_lt_pow_right (by decide) (by omega))
  have hr1 := reduce_z (K := κ) (B := 32 * (κ + 1)) hrow (by omega) (by omega) (by omega) hEZ hsh (by omega)
  have hnz := null_z (k := B + 1) hr0 hr1 (by omega) (by have := hRE.len; have := h.tle hlc; omega) hrr.len (fun i hi => hrr.row i hi) hrr.col (fun i hi => by have := hRE.pivD hi; omega) (by omega) fun f hf hfp => by
    have hql := nulV_len (T := echT (m.map vals) n) (Pv := (echW (m.map vals) n).2) (f := f) (cols := n) (echW (m.map vals) n).2.length
    have hcl := cleared_z (k := κ) (qs := nulV (echT (m.map vals) n) (echW (m.map vals) n).2 f n (echW (m.map vals) n).2.length) (fun i hi => YtfjdfnlkobeehaaGreat.nul_num hRE i (YtfjdfnlkobeehaaGreat.vc_z (hag f) i)) (fun i hi => Nat.lt_of_le_of_lt (Nat.le_of_dvd (by omega) (YtfjdfnlkobeehaaGreat.nul_den hRE i)) hL) (fun i hi => Nat.lt_of_le_of_lt (YtfjdfnlkobeehaaGreat.nul_lc hRE i) hL) (by omega) (by omega)
    rwa [hql] at hcl
  rw [hnc, hec.1] at hnz
  exact hnz
theorem rker_calls (h : Mx m B) (hB : 2 * (B + 1) + 1 ≤ 100000) {cn : Int} (hk : ∀ n : Nat, cn = n → n ≤ 32 → (∀ l ∈ m, l.length = n) → KZ m n κ) (hκ : κ ≤ 1560) :
    PT Tryz.prog 7 [SM m, .val (.int .i64 cn)] (isV (.tup [SM ((mKer m cn).1.map CZ), .val (.int .i64 (mKer m cn).2)])) := by
  have hw := rwrong_calls (m := m) (cn := cn) (by have := h.n; omega)
  unfold YtfjdfnlkobeehaaGreat.mKer
  by_cases hb : wrongM m cn = true
  · rw [hb] at hw
    rw [if_pos hb]
    refine PCalls.enter (n := 16) (rs := [.tmp 4, .tmp 5]) (tb := []) Tryz.func7 rfl rfl rfl (by kernel_rfl) (by kernel_rfl) (by simp) fun c hc ht => ?_
    simp -implicitDefEqProofs (disch := omega) only [go_sem, ht]
    (refine pCall_vw (by refine ⟨⟨?_, ?_⟩, ?_, ?_⟩; rotate_left 2; (first | (right; rintro r rfl; rfl) | left); all_goals ((try simp -implicitDefEqProofs (disch := omega) only [go_sem, ht]) <;> rfl)) (hw) ?_; rintro _ nx - rfl hnx; simp -implicitDefEqProofs (disch := omega) only [go_sem, ht])
    (refine end_treeM 2 ?_; simp -implicitDefEqProofs (disch := omega) only [go_sem, ht, List.map_nil])
  · rw [if_neg hb]
    have hb' : wrongM m cn = false := by simpa using hb
    obtain ⟨n, rfl, hn, hml, hlc⟩ := wrongM_false hb'
    rw [hb'] at hw
    have hkz := hk n rfl hn hlc
    have hrd := mread h hlc hn hml
    have hnl := mnull h hlc hn hml hB hkz hκ
    obtain ⟨hKM, hKc⟩ := h.ker hlc hn hkz (by omega)
    have hr := hKM.rr hKc
    rw [map_vals_CZ] at hr
    have hKl : (kerT (m.map vals) n).length ≤ 1000000 := by
      have h1 := hr.len
      have h2 := hKM.tle hKc
      rw [map_vals_CZ] at h2
      rw [List.length_map, kerR_len] at h2
      have h3 := frees_le (echW (m.map vals) n).2 n
      unfold YtfjdfnlkobeehaaGreat.kerT
      omega
    have ht' := rmtold_z (W := kerT (m.map vals) n) (k := 491001) (fun z hz => by
      obtain ⟨i, hi, rfl⟩ := mem_getD (d := []) hz
      have h1 : ((kerT (m.map vals) n).getD i []).length = n ∧ ∀ x ∈ (kerT (m.map vals) n).getD i [], Z 491001 x := hr.row i hi
      exact ⟨h1.2, by rw [h1.1]; omega⟩) (by omega) hKl
    rw [Int.toNat_natCast]
    have e : (if longZ (kerT (m.map vals) n) = true then (([], 2) : List (List Int) × Int) else (kerT (m.map vals) n, 0)) = (if longZ (kerT (m.map vals) n) = true then [] else kerT (m.map vals) n, if longZ (kerT (m.map vals) n) = true then 2 else 0) := by split <;> rfl
    rw [e]
    have hfl := YtfjdfnlkobeehaaGreat.SM_flat ((if longZ (kerT (m.map vals) n) = true then [] else kerT (m.map vals) n).map CZ)
    have hml2 : (m.map vals).length = m.length := by simp
    rw [SNM_def, hml2] at hrd
    rw [SNM_def, hml2] at hnl
    clear hr
    generalize (if longZ (kerT (m.map vals) n) = true then [] else kerT (m.map vals) n).map CZ = m2 at *
    generalize (if longZ (kerT (m.map vals) n) = true then (2 : Int) else 0) = er at *
    generalize kerT (m.map vals) n = T at *
    refine PCalls.enter (n := 16) (rs := [.tmp 4, .tmp 5]) (tb := []) Tryz.func7 rfl rfl rfl (by kernel_rfl) (by kernel_rfl) (by simp) fun c hc ht => ?_
    simp -implicitDefEqProofs (disch := omega) only [go_sem, ht]
    ((refine pCall_vw (by refine ⟨⟨?_, ?_⟩, ?_, ?_⟩; rotate_left 2; (first | (right; rintro r rfl; rfl) | left); all_goals ((try simp -implicitDefEqProofs (disch := omega) only [go_sem, ht]) <;> rfl)) (hw) ?_; rintro _ nx_1 - rfl hnx_1; simp -implicitDefEqProofs (disch := omega) only [go_sem, ht]); (refine pCall_vw (by refine ⟨⟨?_, ?_⟩, ?_, ?_⟩; rotate_left 2; (first | (right; rintro r rfl; rfl) | left); all_goals ((try simp -implicitDefEqProofs (disch := omega) only [go_sem, ht]) <;> rfl)) (hrd) ?_; rintro _ nx_2 - rfl hnx_2; simp -implicitDefEqProofs (disch := omega) only [go_sem, ht]); (refine pCall_vw (by refine ⟨⟨?_, ?_⟩, ?_, ?_⟩; rotate_left 2; (first | (right; rintro r rfl; rfl) | left); all_goals ((try simp -implicitDefEqProofs (disch := omega) only [go_sem, ht]) <;> rfl)) (hnl) ?_; rintro _ nx_3 - rfl hnx_3; simp -implicitDefEqProofs (disch := omega) only [go_sem, ht]); (refine pCall_vw (by refine ⟨⟨?_, ?_⟩, ?_, ?_⟩; rotate_left 2; (first | (right; rintro r rfl; rfl) | left); all_goals ((try simp -implicitDefEqProofs (disch := omega) only [go_sem, ht]) <;> rfl)) (ht') ?_; rintro _ nx_4 - rfl hnx_4; simp -implicitDefEqProofs (disch := omega) only [go_sem, ht]))
    (refine end_treeM 2 ?_; simp -implicitDefEqProofs (disch := omega) only [go_sem, ht, hfl])
end
end Go.Proofs.YtfjdfnlkobeehaaGreat.Ref
end

section
set_option maxRecDepth 100000
set_option linter.unusedVariables false
set_option linter.unusedSimpArgs false
namespace Go.Proofs.YtfjdfnlkobeehaaGreat

section
variable {m : List (List (Bool × List Nat))} {H : Nat → Option (List PV)} {nx idb : Nat}
theorem own_nil : PCalls Tryz.prog 12 [.ptr idb 0, .sl 0 []] H nx (memQ (.val (.bool true)) H nx) := by
  refine PCalls.enter (n := 19) (rs := [.tmp 4]) (tb := []) Tryz.func12 rfl rfl rfl (by kernel_rfl) (by kernel_rfl) (by simp) fun c hc ht => ?_
  simp -implicitDefEqProofs (disch := omega) only [go_sem, ht]
  refine LW.loopW hc ht (by kernel_rfl) (fun t => t.sl 1 = .sl 0 [] ∧ t.H = H ∧ t.nx = nx ∧ t.sl 5 = .val (.int .i64 0)) (fun _ => 0) ?_ ?_
  · simp -implicitDefEqProofs (disch := omega) only [go_sem, ht]
  · rintro t ⟨h1, eH, en, h5⟩
    simp -implicitDefEqProofs (disch := omega) only [go_sem, ht, h1, eH, en, h5]
    (refine end_plain (by simp -implicitDefEqProofs (disch := omega) only [eH, en, go_sem, ht] <;> rfl) ?_; simp only [tupP_1, tupP_2]; refine ⟨?_, ?_, ?_⟩ <;> try simp -implicitDefEqProofs (disch := omega) only [eH, en, go_sem, ht])
theorem mKer_cases (m : List (List (Bool × List Nat))) (cn : Int) : (∃ n : Nat, cn = n ∧ n ≤ 32 ∧ m.length ≤ 64 ∧ wrongM m n = false ∧ longZ (kerT (m.map vals) n) = false ∧ mKer m cn = (kerT (m.map vals) n, 0)) ∨ ∃ e : Int, mKer m cn = ([], e) ∧ 0 ≤ e ∧ e ≤ 2 := by
  unfold mKer
  by_cases hw : wrongM m cn = true
  · rw [if_pos hw]
    exact .inr ⟨1, rfl, by omega, by omega⟩
  rw [if_neg hw]
  have hw' : wrongM m cn = false := by simpa using hw
  obtain ⟨n, rfl, hn, hml, hlc⟩ := wrongM_false hw'
  rw [Int.toNat_natCast]
  by_cases hl : longZ (kerT (m.map vals) n) = true
  · rw [if_pos hl]
    exact .inr ⟨2, rfl, by omega, by omega⟩
  · rw [if_neg hl]
    exact .inl ⟨n, rfl, hn, hml, hw', by simpa using hl, rfl⟩
set_option maxHeartbeats 8000000 in
theorem kernels_law {cn : Int} (hm : ∀ l ∈ m, ∀ p ∈ l, Lm p.2) (hb : lenM m + 1 ≤ 1048576) (lo : -9223372036854775808 ≤ cn) (hi : cn ≤ 9223372036854775807) :
    PT Tryz.prog 3 [SM m, .val (.int .i64 cn)] (isV (.val (.bool true))) := by
  have hlr := len_rows (m := m) (by omega)
  have hml := lenM_len m
  by_cases hl : 1500 < lenM m
  · refine PCalls.enter (n := 61) (rs := [.tmp 4]) (tb := []) Tryz.func3 rfl rfl rfl (by kernel_rfl) (by kernel_rfl) (by simp) fun c hc ht => ?_
    simp -implicitDefEqProofs (disch := omega) only [go_sem, ht]
    ((refine pCall_vw (by refine ⟨⟨?_, ?_⟩, ?_, ?_⟩; rotate_left 2; (first | (right; rintro r rfl; rfl) | left); all_goals ((try simp -implicitDefEqProofs (disch := omega) only [go_sem, ht]) <;> rfl)) (awake_matrix) ?_; rintro _ nx_1 - rfl hnx_1; simp -implicitDefEqProofs (disch := omega) only [go_sem, ht]); (refine pCall_vw (by refine ⟨⟨?_, ?_⟩, ?_, ?_⟩; rotate_left 2; (first | (right; rintro r rfl; rfl) | left); all_goals ((try simp -implicitDefEqProofs (disch := omega) only [go_sem, ht]) <;> rfl)) (hlr) ?_; rintro _ nx_2 - rfl hnx_2; simp -implicitDefEqProofs (disch := omega) only [go_sem, ht]))
    (refine end_treeW 0 ?_; simp -implicitDefEqProofs (disch := omega) only [go_sem, ht])
  have hMx : Mx m 1500 := ⟨hm, by omega, by omega⟩
  have hmo : ∀ l ∈ m, (∀ p ∈ l, Ok p.2) ∧ l.length ≤ 1000000 := fun l hl => ⟨fun p hp => by have := (hMx.rn hl).ok p hp; exact ⟨this.1, by omega⟩, by have := lenM_mem hl; have := lenW_len l; omega⟩
  have hcr := copy_rows hmo (by omega)
  have hsm := same_rows hmo (fun l hl => (hmo l hl).1) (by omega)
  rw [decide_eq_true rfl] at hsm
  have hkz : ∀ n : Nat, cn = n → n ≤ 32 → (∀ l ∈ m, l.length = n) → KZ m n 1501 := fun n _ _ hlc => hMx.kz hlc
  have hre := Ref.rker_calls (κ := 1501) (cn := cn) hMx (by omega) hkz (by omega)
  rcases mKer_cases m cn with ⟨n, rfl, hn, hmn, hw, hlz, he⟩ | ⟨e, he, he0, he2⟩
  · have hlc := (wrongM_false hw)
    obtain ⟨n', en, _, _, hlc⟩ := hlc
    obtain rfl : n = n' := by omega
    have hkn := hkz n rfl hn hlc
    have hme := mker_L hMx hw hlz hkn (by omega) (by omega)
    obtain ⟨hKM, hKc⟩ := hMx.ker hlc hn hkn (by omega)
    have hrR := hKM.rr hKc
    rw [map_vals_CZ] at hrR
    change RR (kerT (m.map vals) n) _ _ _ at hrR
    have hTl : (kerT (m.map vals) n).length ≤ 32 := by
      have h1 := hrR.len
      have h2 := hKM.tle hKc
      rw [map_vals_CZ] at h2
      rw [List.length_map, kerR_len] at h2
      have h3 := frees_le (echW (m.map vals) n).2 n
      omega
    have hTo : ∀ l ∈ (kerT (m.map vals) n).map CZ, (∀ p ∈ l, Ok p.2) ∧ l.length ≤ 1000000 := fun l hl => by
      obtain ⟨z, hz, rfl⟩ := List.mem_map.1 hl
      obtain ⟨i, hi, rfl⟩ := mem_getD (d := []) hz
      obtain ⟨g1, g2⟩ := hrR.row i hi
      exact ⟨CZ_ok g2 (by have := hrR.hk; omega), by rw [CZ_len]; omega⟩
    have hst := same_rows hTo (fun l hl => (hTo l hl).1) (by simp; omega)
    rw [decide_eq_true rfl] at hst
    have hn0 := Ref.num_calls (s := 0) (by omega) (by omega)
    rw [he] at hre
    clear hrR
    generalize kerT (m.map vals) n = T at *
    have hTC : (T.map CZ).length = T.length := by simp
    have hst2 : PT Tryz.prog 11 [SM (T.map CZ), .sl T.length ((T.map CZ).map SW)] (isV (.val (.bool true))) := by
      have e : SM (T.map CZ) = .sl T.length ((T.map CZ).map SW) := by rw [SM_def, hTC]
      rw [← e]; exact hst
    have hTn : T.length * n ≤ 1024 := Nat.mul_le_mul hTl hn
    refine PCalls.enter (n := 61) (rs := [.tmp 4]) (tb := []) Tryz.func3 rfl rfl rfl (by kernel_rfl) (by kernel_rfl) (by simp) fun c hc ht => ?_
    simp -implicitDefEqProofs (disch := omega) only [go_sem, ht]
    ((refine pCall_vw (by refine ⟨⟨?_, ?_⟩, ?_, ?_⟩; rotate_left 2; (first | (right; rintro r rfl; rfl) | left); all_goals ((try simp -implicitDefEqProofs (disch := omega) only [go_sem, ht]) <;> rfl)) (awake_matrix) ?_; rintro _ nx_3 - rfl hnx_3; simp -implicitDefEqProofs (disch := omega) only [go_sem, ht]); (refine pCall_vw (by refine ⟨⟨?_, ?_⟩, ?_, ?_⟩; rotate_left 2; (first | (right; rintro r rfl; rfl) | left); all_goals ((try simp -implicitDefEqProofs (disch := omega) only [go_sem, ht]) <;> rfl)) (hlr) ?_; rintro _ nx_4 - rfl hnx_4; simp -implicitDefEqProofs (disch := omega) only [go_sem, ht]))
    generalize nx_4 = idb at *
    ((refine pCall_vw (by refine ⟨⟨?_, ?_⟩, ?_, ?_⟩; rotate_left 2; (first | (right; rintro r rfl; rfl) | left); all_goals ((try simp -implicitDefEqProofs (disch := omega) only [go_sem, ht]) <;> rfl)) (hre) ?_; rintro _ nx_5 - rfl hnx_5; simp -implicitDefEqProofs (disch := omega) only [go_sem, ht]))
    refine LW.loopW hc ht (by kernel_rfl) (fun t => t.sl 0 = .sl m.length (m.map SW) ∧ t.sl 1 = .val (.int .i64 n) ∧ t.sl 5 = .ptr idb 0 ∧ t.sl 6 = .sl T.length ((T.map CZ).map SW) ∧ t.sl 7 = .val (.int .i64 0) ∧
        ∃ i : Nat, i ≤ 2 ∧ t.sl 8 = .val (.int .i64 i) ∧ ∃ es B, BK t.H t.nx idb es B ∧ es.length ≤ i * 2048)
      (fun t => match t.sl 8 with | .val (.int _ k) => 2 - k.toNat | _ => 0) ?_ ?_
    · simp -implicitDefEqProofs (disch := omega) only [go_sem, ht]
      exact ⟨0, Nat.zero_le _, rfl, [], (fun j => j = idb), BK.start (by simp -implicitDefEqProofs (disch := omega) only [go_sem, ht]) (by omega), Nat.zero_le _⟩
    · rintro t ⟨h0, h1, h5, h6, h7, i, hi2, h8, es, B, hB, hes⟩
      by_cases hil : i = 2
      · subst hil
        simp -implicitDefEqProofs (disch := omega) only [go_sem, ht, h0, h1, h5, h6, h7, h8]
        apply pCall_mem
        exact done_calls (es := es) (B := B) (by simp -implicitDefEqProofs (disch := omega) only [go_sem, ht]; exact hB) (by omega)
        rintro _ _ _ ⟨rfl, rfl, rfl⟩ -
        simp -implicitDefEqProofs (disch := omega) only [go_sem, ht]
        (refine end_treeW 0 ?_; simp -implicitDefEqProofs (disch := omega) only [go_sem, ht])
      · have hlt : i < 2 := by omega
        obtain ⟨n0, en0⟩ : ∃ n0, t.nx = n0 := ⟨_, rfl⟩
        rw [en0] at hB
        simp -implicitDefEqProofs (disch := omega) only [go_sem, ht, h0, h1, h5, h6, h7, h8]
        (refine pCall_vw (by refine ⟨⟨?_, ?_⟩, ?_, ?_⟩; rotate_left 2; (first | (right; rintro r rfl; rfl) | left); all_goals ((try simp -implicitDefEqProofs (disch := omega) only [h0, h1, h5, h6, h7, h8, go_sem, ht]) <;> rfl)) (hcr) ?_; rintro _ nx - rfl hnx; simp -implicitDefEqProofs (disch := omega) only [h0, h1, h5, h6, h7, h8, go_sem, ht])
        refine pCall_om (fun k p => by simp [YtfjdfnlkobeehaaGreat.shift, shiftL]) (by simp -implicitDefEqProofs (disch := omega) only [go_sem, ht] <;> rfl) (by simp -implicitDefEqProofs (disch := omega) only [go_sem, ht]) (by simp -implicitDefEqProofs (disch := omega) only [go_sem, ht]) hme ?_
        rintro idM capM H1 n1 hM hfr hn1
        simp only [put_nx, withH_nx, put_H, withH_H] at hM hfr hn1
        rw [en0] at hnx
        have hB1 : BK H1 n1 idb es B := hB.mono (by omega) (fun j hj => hfr j (by omega))
        have hbl := hB.lt
        simp -implicitDefEqProofs (disch := omega) only [go_sem, ht, h0, h1, h5, h6, h7, h8]
        ((refine pCall_vw (by refine ⟨⟨?_, ?_⟩, ?_, ?_⟩; rotate_left 2; (first | (right; rintro r rfl; rfl) | left); all_goals ((try simp -implicitDefEqProofs (disch := omega) only [h0, h1, h5, h6, h7, h8, go_sem, ht]) <;> rfl)) (hn0) ?_; rintro _ nx_6 - rfl hnx_6; simp -implicitDefEqProofs (disch := omega) only [h0, h1, h5, h6, h7, h8, go_sem, ht]))
        apply pCall_mem
        exact hM.borrow (args := [.sl T.length ((T.map CZ).map SW)]) (by rw [flatL_cons]; simp only [YtfjdfnlkobeehaaGreat.flat]; rw [SM_flat]; rfl) hst2
        rintro _ _ _ ⟨rfl, rfl, rfl⟩ -
        simp -implicitDefEqProofs (disch := omega) only [go_sem, ht, h0, h1, h5, h6, h7, h8]
        (refine pCall_vw (by refine ⟨⟨?_, ?_⟩, ?_, ?_⟩; rotate_left 2; (first | (right; rintro r rfl; rfl) | left); all_goals ((try simp -implicitDefEqProofs (disch := omega) only [h0, h1, h5, h6, h7, h8, go_sem, ht]) <;> rfl)) (hsm) ?_; rintro _ nx - rfl hnx; simp -implicitDefEqProofs (disch := omega) only [h0, h1, h5, h6, h7, h8, go_sem, ht])
        apply pCall_mem
        refine own_L (capM := capM) (es := es) (B := B) hM (hB1.mono (by simp -implicitDefEqProofs (disch := omega) only [go_sem, ht]; omega) (fun j hj => rfl)) (fun j h1 h2 h3 => ?_) (by simp -implicitDefEqProofs (disch := omega) only [go_sem, ht]; omega) (by omega) (by omega)
        · have := hbl j h3; omega
        rintro _ H6 n6 ⟨rfl, es6, B6, hB6, hl6⟩ hn6
        simp -implicitDefEqProofs (disch := omega) only [go_sem, ht, h0, h1, h5, h6, h7, h8]
        exact ⟨⟨i + 1, by omega, rfl, es6, B6, hB6, by omega⟩, by omega⟩
  · have hme := mker_calls (κ := 1501) (cn := cn) hMx hkz (by omega) (by omega)
    have hst := same_rows (m := []) (m' := []) (fun l hl => by simp at hl) (fun l hl => by simp at hl) (by simp)
    rw [decide_eq_true rfl] at hst
    have hn0 := Ref.num_calls (s := e) (by omega) (by omega)
    rw [he] at hre hme
    have e0 : SM (([] : List (List Int)).map CZ) = .sl 0 [] := rfl
    have e1 : SM [] = .sl 0 [] := rfl
    simp only [e0] at hre hme
    rw [e1] at hst
    refine PCalls.enter (n := 61) (rs := [.tmp 4]) (tb := []) Tryz.func3 rfl rfl rfl (by kernel_rfl) (by kernel_rfl) (by simp) fun c hc ht => ?_
    simp -implicitDefEqProofs (disch := omega) only [go_sem, ht]
    ((refine pCall_vw (by refine ⟨⟨?_, ?_⟩, ?_, ?_⟩; rotate_left 2; (first | (right; rintro r rfl; rfl) | left); all_goals ((try simp -implicitDefEqProofs (disch := omega) only [go_sem, ht]) <;> rfl)) (awake_matrix) ?_; rintro _ nx_7 - rfl hnx_7; simp -implicitDefEqProofs (disch := omega) only [go_sem, ht]); (refine pCall_vw (by refine ⟨⟨?_, ?_⟩, ?_, ?_⟩; rotate_left 2; (first | (right; rintro r rfl; rfl) | left); all_goals ((try simp -implicitDefEqProofs (disch := omega) only [go_sem, ht]) <;> rfl)) (hlr) ?_; rintro _ nx_8 - rfl hnx_8; simp -implicitDefEqProofs (disch := omega) only [go_sem, ht]))
    generalize nx_8 = idb at *
    ((refine pCall_vw (by refine ⟨⟨?_, ?_⟩, ?_, ?_⟩; rotate_left 2; (first | (right; rintro r rfl; rfl) | left); all_goals ((try simp -implicitDefEqProofs (disch := omega) only [go_sem, ht]) <;> rfl)) (hre) ?_; rintro _ nx_9 - rfl hnx_9; simp -implicitDefEqProofs (disch := omega) only [go_sem, ht]))
    refine LW.loopW hc ht (by kernel_rfl) (fun t => t.sl 0 = .sl m.length (m.map SW) ∧ t.sl 1 = .val (.int .i64 cn) ∧ t.sl 5 = .ptr idb 0 ∧ t.sl 6 = .sl 0 [] ∧ t.sl 7 = .val (.int .i64 e) ∧
        ∃ i : Nat, i ≤ 2 ∧ t.sl 8 = .val (.int .i64 i) ∧ ∃ es B, BK t.H t.nx idb es B ∧ es.length ≤ i * 2048)
      (fun t => match t.sl 8 with | .val (.int _ k) => 2 - k.toNat | _ => 0) ?_ ?_
    · simp -implicitDefEqProofs (disch := omega) only [go_sem, ht]
      exact ⟨0, Nat.zero_le _, rfl, [], (fun j => j = idb), BK.start (by simp -implicitDefEqProofs (disch := omega) only [go_sem, ht]) (by omega), Nat.zero_le _⟩
    · rintro t ⟨h0, h1, h5, h6, h7, i, hi2, h8, es, B, hB, hes⟩
      by_cases hil : i = 2
      · subst hil
        simp -implicitDefEqProofs (disch := omega) only [go_sem, ht, h0, h1, h5, h6, h7, h8]
        apply pCall_mem
        exact done_calls (es := es) (B := B) (by simp -implicitDefEqProofs (disch := omega) only [go_sem, ht]; exact hB) (by omega)
        rintro _ _ _ ⟨rfl, rfl, rfl⟩ -
        simp -implicitDefEqProofs (disch := omega) only [go_sem, ht]
        (refine end_treeW 0 ?_; simp -implicitDefEqProofs (disch := omega) only [go_sem, ht])
      · have hlt : i < 2 := by omega
        obtain ⟨n0, en0⟩ : ∃ n0, t.nx = n0 := ⟨_, rfl⟩
        rw [en0] at hB
        simp -implicitDefEqProofs (disch := omega) only [go_sem, ht, h0, h1, h5, h6, h7, h8]
        (refine pCall_vw (by refine ⟨⟨?_, ?_⟩, ?_, ?_⟩; rotate_left 2; (first | (right; rintro r rfl; rfl) | left); all_goals ((try simp -implicitDefEqProofs (disch := omega) only [h0, h1, h5, h6, h7, h8, go_sem, ht]) <;> rfl)) (hcr) ?_; rintro _ nx - rfl hnx; simp -implicitDefEqProofs (disch := omega) only [h0, h1, h5, h6, h7, h8, go_sem, ht])
        ((refine pCall_vw (by refine ⟨⟨?_, ?_⟩, ?_, ?_⟩; rotate_left 2; (first | (right; rintro r rfl; rfl) | left); all_goals ((try simp -implicitDefEqProofs (disch := omega) only [h0, h1, h5, h6, h7, h8, go_sem, ht]) <;> rfl)) (hme) ?_; rintro _ nx_10 - rfl hnx_10; simp -implicitDefEqProofs (disch := omega) only [h0, h1, h5, h6, h7, h8, go_sem, ht]); (refine pCall_vw (by refine ⟨⟨?_, ?_⟩, ?_, ?_⟩; rotate_left 2; (first | (right; rintro r rfl; rfl) | left); all_goals ((try simp -implicitDefEqProofs (disch := omega) only [h0, h1, h5, h6, h7, h8, go_sem, ht]) <;> rfl)) (hn0) ?_; rintro _ nx_11 - rfl hnx_11; simp -implicitDefEqProofs (disch := omega) only [h0, h1, h5, h6, h7, h8, go_sem, ht]); (refine pCall_vw (by refine ⟨⟨?_, ?_⟩, ?_, ?_⟩; rotate_left 2; (first | (right; rintro r rfl; rfl) | left); all_goals ((try simp -implicitDefEqProofs (disch := omega) only [h0, h1, h5, h6, h7, h8, go_sem, ht]) <;> rfl)) (hst) ?_; rintro _ nx_12 - rfl hnx_12; simp -implicitDefEqProofs (disch := omega) only [h0, h1, h5, h6, h7, h8, go_sem, ht]); (refine pCall_vw (by refine ⟨⟨?_, ?_⟩, ?_, ?_⟩; rotate_left 2; (first | (right; rintro r rfl; rfl) | left); all_goals ((try simp -implicitDefEqProofs (disch := omega) only [h0, h1, h5, h6, h7, h8, go_sem, ht]) <;> rfl)) (hsm) ?_; rintro _ nx_13 - rfl hnx_13; simp -implicitDefEqProofs (disch := omega) only [h0, h1, h5, h6, h7, h8, go_sem, ht]))
        apply pCall_mem
        exact own_nil
        rintro _ _ _ ⟨rfl, rfl, rfl⟩ -
        simp -implicitDefEqProofs (disch := omega) only [go_sem, ht, h0, h1, h5, h6, h7, h8]
        exact ⟨⟨i + 1, by omega, rfl, es, B, hB.mono (by omega) (fun j hj => rfl), by omega⟩, by omega⟩
end
end Go.Proofs.YtfjdfnlkobeehaaGreat
open Go.ChangeShapes Go.WideShapes Go.ChangeAt Go.RowKit
namespace Go.Proofs.YtfjdfnlkobeehaaGreat
end Go.Proofs.YtfjdfnlkobeehaaGreat
end
