/- Part 46 of the way to the statement: the walk and what it needs. -/
import Derived.Test.YtfjdfnlkobeehaaKReF39
import Derived.Test.YtfjdfnlkobeehaaKReF41
import Derived.Test.YtfjdfnlkobeehaaKReF42
import Derived.Test.YtfjdfnlkobeehaaKReF43
import Derived.Test.YtfjdfnlkobeehaaKReF45
section
set_option maxRecDepth 100000
set_option linter.unusedVariables false
set_option linter.unusedSimpArgs false
namespace Go.Proofs.Ytfjdfnlkobeehaa

section
variable {m : List (List (Bool × List Nat))} {B n : Nat}
def mDet (m : List (List (Bool × List Nat))) (c : Int) : Int × Int :=
  if wrongM m c || decide ((m.length : Int) ≠ c) then (0, 1) else if 32 < (D (detZ (m.map vals) c.toNat).natAbs).length then (0, 2) else (detZ (m.map vals) c.toNat, 0)
end
end Go.Proofs.Ytfjdfnlkobeehaa
end

section
set_option maxRecDepth 100000
set_option linter.unusedVariables false
set_option linter.unusedSimpArgs false
namespace Go.Proofs.Ytfjdfnlkobeehaa


end Go.Proofs.Ytfjdfnlkobeehaa
end

section
set_option maxRecDepth 100000
set_option linter.unusedVariables false
set_option linter.unusedSimpArgs false
namespace Go.Proofs.Ytfjdfnlkobeehaa

theorem dropH_at (D : Nat → Bool) (H : Nat → Option (List PV)) (i : Nat) : dropH D H i = if D i = true then none else H i := rfl
end Go.Proofs.Ytfjdfnlkobeehaa
end

section
set_option maxRecDepth 100000
set_option linter.unusedVariables false
set_option linter.unusedSimpArgs false
namespace Go.Proofs.Ytfjdfnlkobeehaa

def loopsC : Code → List Code
  | .seq x y => loopsC x ++ loopsC y
  | .cond _ x y => loopsC x ++ loopsC y
  | .block _ x => loopsC x
  | .scope x => loopsC x
  | .loop x => .loop x :: loopsC x
  | _ => []
def loopN (fn : Func) (k : Nat) : Code := ((fn.body.map loopsC).getD []).getD k .skip
end Go.Proofs.Ytfjdfnlkobeehaa
end

section
set_option maxRecDepth 100000
set_option linter.unusedVariables false
set_option linter.unusedSimpArgs false
namespace Go.Proofs.Ytfjdfnlkobeehaa.Ref
open Ytfjdfnlkobeehaa (SWc SW WX WC WV vals vals_len SM lenM Rn vc vc_lt SW_def SM_def cZ get_SM' getD_take getD_mem getD_vals wrongM swp_bd swp_swp swp_ge)

def qv (qs : List Rat) (k : Nat) : Rat := qs.getD k 0
end Go.Proofs.Ytfjdfnlkobeehaa.Ref
end

section
set_option maxRecDepth 100000
set_option linter.unusedVariables false
set_option linter.unusedSimpArgs false
namespace Go.Proofs.Ytfjdfnlkobeehaa.Ref
open Ytfjdfnlkobeehaa (SWc SW WX WC WV vals vals_len SM lenM Rn vc vc_lt SW_def SM_def cZ get_SM' getD_take getD_mem getD_vals wrongM swp_bd swp_swp swp_ge loopN)
end Go.Proofs.Ytfjdfnlkobeehaa.Ref
end

section
set_option maxRecDepth 100000
set_option linter.unusedVariables false
set_option linter.unusedSimpArgs false
namespace Go.Proofs.Ytfjdfnlkobeehaa.Ref
open Ytfjdfnlkobeehaa (SWc SW WX WC WV vals vals_len SM lenM Rn vc vc_lt SW_def SM_def cZ get_SM' getD_take getD_mem getD_vals wrongM swp_bd swp_swp swp_ge loopN)
section
variable {n c idM capM bd bo bk i : Nat} {ids caps : Nat → Nat} {f : Nat → List Rat} {d o x : Rat} {cx : Cx} {Q : Exit → PS → Prop} {s : PS}
def rr (z : List Int) : List Rat := z.map fun x : Int => ((x : Int) : Rat)
end
end Go.Proofs.Ytfjdfnlkobeehaa.Ref
end

section
set_option maxRecDepth 100000
set_option linter.unusedVariables false
set_option linter.unusedSimpArgs false
namespace Go.Proofs.Ytfjdfnlkobeehaa.Ref
open Ytfjdfnlkobeehaa (SWc SW WX WC WV vals vals_len SM lenM Rn vc vc_lt SW_def SM_def cZ get_SM' getD_take getD_mem getD_vals wrongM swp_bd swp_swp swp_ge loopN)

end Go.Proofs.Ytfjdfnlkobeehaa.Ref
end

section
set_option maxRecDepth 100000
set_option linter.unusedVariables false
set_option linter.unusedSimpArgs false
namespace Go.Proofs.Ytfjdfnlkobeehaa
theorem findP_of {W : List (List Int)} {c p : Nat} (hp : p < W.length) (hz2 : vc (W.getD p []) c ≠ 0) : ∀ (k r : Nat), k + r = p → (∀ i, r ≤ i → i < p → vc (W.getD i []) c = 0) → findP W c r = p
  | 0, r, e, _ => by
    obtain rfl : r = p := by omega
    rw [findP_eq hp, if_pos hz2]
  | k + 1, r, e, hz => by
    rw [findP_eq (by omega), if_neg (by simpa using hz r (Nat.le_refl _) (by omega))]
    exact findP_of hp hz2 k (r + 1) (by omega) fun i h1 h2 => hz i (by omega) h2
theorem findP_no {W : List (List Int)} {c : Nat} : ∀ (k r : Nat), k + r = W.length → (∀ i, r ≤ i → i < W.length → vc (W.getD i []) c = 0) → findP W c r = W.length
  | 0, r, e, _ => findP_end (by omega)
  | k + 1, r, e, hz => by
    rw [findP_eq (by omega), if_neg (by simpa using hz r (Nat.le_refl _) (by omega))]
    exact findP_no k (r + 1) (by omega) fun i h1 h2 => hz i (by omega) h2
end Go.Proofs.Ytfjdfnlkobeehaa
namespace Go.Proofs.Ytfjdfnlkobeehaa.Ref
open Ytfjdfnlkobeehaa (vc vc_lt findP findP_of findP_no findP_spec swapL swapL_len swapL_get bstep bstep_get brow brow_vc barW barD BI detZ swp_bd swp_ge)
end Go.Proofs.Ytfjdfnlkobeehaa.Ref
end

section
set_option maxRecDepth 100000
set_option linter.unusedVariables false
set_option linter.unusedSimpArgs false
namespace Go.Proofs.Ytfjdfnlkobeehaa.Ref
open Ytfjdfnlkobeehaa (SWc SW WX WC WV vals vals_len SM lenM Rn vc vc_lt SW_def SM_def cZ get_SM' getD_take getD_mem getD_vals wrongM wrongM_false Mx mDet detZ barW barD expW expW_det WC_def)
theorem big_z {k : Nat} {z : Int} (h : Z k z) (hk : k ≤ 1000000) : PT Try.prog 73 [NZ z] (isV (.val (.bool (decide (32 < (Ytfjdfnlkobeehaa.D z.natAbs).length))))) := by
  have hl := long_z h hk
  have h2 := lenZ h
  rw [NZ_def] at hl ⊢
  by_cases h77 : 77 < (D z.natAbs).length
  · have h77i : (77 : Int) < ((D z.natAbs).length : Nat) := by omega
    have e : decide ((32 : Int) < ((Ytfjdfnlkobeehaa.D z.natAbs).length : Nat)) = decide (32 < (Ytfjdfnlkobeehaa.D z.natAbs).length) := by
      rw [Bool.eq_iff_iff, decide_eq_true_iff, decide_eq_true_iff]; omega
    generalize (Ytfjdfnlkobeehaa.D z.natAbs).length = ln at *
    refine PCalls.enter (n := 12) (rs := [.tmp 2]) (tb := []) Try.func73 rfl rfl rfl (by kernel_rfl) (by kernel_rfl) (by simp) fun c hc ht => ?_
    simp -implicitDefEqProofs (disch := omega) only [go_sem, ht, h77, h77i]
    (refine pCall_vw (by refine ⟨⟨?_, ?_⟩, ?_, ?_⟩; rotate_left 2; (first | (right; rintro r rfl; rfl) | left); all_goals ((try simp -implicitDefEqProofs (disch := omega) only [h77, h77i, e, go_sem, ht]) <;> rfl)) (hl) ?_; rintro _ nx - rfl hnx; simp -implicitDefEqProofs (disch := omega) only [h77, h77i, e, go_sem, ht])
    (refine end_treeW 0 ?_; simp -implicitDefEqProofs (disch := omega) only [go_sem, ht])
  · have h77i : ¬ (77 : Int) < ((D z.natAbs).length : Nat) := by omega
    have h32 : (Ytfjdfnlkobeehaa.D z.natAbs).length ≤ 32 := Ytfjdfnlkobeehaa.D_len_le.2 (Nat.lt_of_lt_of_le (D_len_le.1 (show (D z.natAbs).length ≤ 77 by omega)) (by decide))
    rw [show decide (32 < (Ytfjdfnlkobeehaa.D z.natAbs).length) = false from decide_eq_false (by omega)]
    refine PCalls.enter (n := 12) (rs := [.tmp 2]) (tb := []) Try.func73 rfl rfl rfl (by kernel_rfl) (by kernel_rfl) (by simp) fun c hc ht => ?_
    simp -implicitDefEqProofs (disch := omega) only [go_sem, ht, h77, h77i]
    (refine end_treeW 0 ?_; simp -implicitDefEqProofs (disch := omega) only [go_sem, ht])
end Go.Proofs.Ytfjdfnlkobeehaa.Ref
end

section
set_option maxRecDepth 100000
set_option linter.unusedVariables false
set_option linter.unusedSimpArgs false
namespace Go.Proofs.Ytfjdfnlkobeehaa.Ref
open Ytfjdfnlkobeehaa (SWc SW WX WC WV vals vals_len SM lenM Rn vc vc_lt SW_def SM_def cZ get_SM' getD_take getD_mem getD_vals wrongM wrongM_false Mx CZ CZ_len echW echT longZ mEch mRank WC_def mem_getD)
section
variable {z : List Int} {W : List (List Int)} {m : List (List (Bool × List Nat))} {k cols B : Nat}
theorem alltold_z (hz : ∀ x ∈ z, Z k x) (hk : k ≤ 1000000) (hl : z.length ≤ 1000000) : PT Try.prog 124 [SN z] (isV (SW (CZ z))) := by
  have hcl := CZ_len z
  refine PCalls.enter (n := 20) (rs := [.tmp 2]) (tb := []) Try.func124 rfl rfl rfl (by kernel_rfl) (by kernel_rfl) (by simp) fun c hc ht => ?_
  simp -implicitDefEqProofs (disch := omega) only [go_sem, ht]
  refine LW.ghost (Gh.nilW 3 2 (by simp -implicitDefEqProofs (disch := omega) only [go_sem, ht])) ?_
  refine LW.loopW hc ht (by kernel_rfl) (fun t => t.sl 0 = .sl z.length (SNc z) ∧ ∃ i : Nat, i ≤ z.length ∧ t.sl 4 = .val (.int .i64 i) ∧ ∃ (id cap : Nat) (rest : List Value), t.sl 3 = .ref id 0 i cap 2 ∧ t.H id = some (SWc (CZ (z.take i)) ++ rest.map .val) ∧ i * 2 + rest.length = cap * 2 ∧ id < t.nx)
    (fun t => match t.sl 4 with | .val (.int _ k) => z.length - k.toNat | _ => 0) ?_ ?_
  · simp -implicitDefEqProofs (disch := omega) only [go_sem, ht]
    exact ⟨0, Nat.zero_le _, rfl, _, 0, [], rfl, upd_self _ _ _, rfl, by omega⟩
  · rintro t ⟨h0, i, hi, h4, id, cap, rest, h3, hH, hcap, hid⟩
    by_cases hil : i = z.length
    · subst hil
      rw [List.take_length] at hH
      have htk := Ytfjdfnlkobeehaa.take_SWc (CZ z) (rest.map .val) (n := z.length) (by omega)
      have hl2 := Ytfjdfnlkobeehaa.SWc_len (CZ z)
      simp -implicitDefEqProofs (disch := omega) only [go_sem, ht, h0, h3, h4]
      (refine end_treeW 2 ?_; simp -implicitDefEqProofs (disch := omega) only [go_sem, ht, hH, htk, hcl]; omega)
    · have hlt : i < z.length := by omega
      have hat := SNc_at hlt
      have hof := told_z (hz _ (List.getElem_mem hlt)) hk
      rw [← vc_lt hlt, NZ_def, WC_def] at hof
      have htk := Ytfjdfnlkobeehaa.SWc_next hlt
      have hln : (SWc (CZ (z.take i))).length = 2 * i := by rw [Ytfjdfnlkobeehaa.SWc_len, CZ_len, List.length_take]; omega
      generalize vc z i = x at *
      simp -implicitDefEqProofs (disch := omega) only [go_sem, ht, h0, h3, h4, hat]
      (refine pCall_vw (by refine ⟨⟨?_, ?_⟩, ?_, ?_⟩; rotate_left 2; (first | (right; rintro r rfl; rfl) | left); all_goals ((try simp -implicitDefEqProofs (disch := omega) only [h0, h3, h4, hat, go_sem, ht]) <;> rfl)) (hof) ?_; rintro _ nx - rfl hnx; simp -implicitDefEqProofs (disch := omega) only [h0, h3, h4, hat, go_sem, ht])
      have hne : id ≠ nx := by omega
      (refine append_ownSX (by refine ⟨?_, ?_, ?_, ?_, ?_, ?_, ?_, ?_⟩ <;> (simp -implicitDefEqProofs (disch := omega) only [srcP_ref, srcP_sl, srcP_nil, Option.isSome_some, hH, go_sem, ht] <;> rfl)) (by rfl) (by first | omega | (simp <;> omega)) (by first | assumption | (simp <;> omega)) (by first | rfl | simp) (by first | omega | (simp <;> omega)) ?_; intro id1 cap1 rest1 H1 nx1 hH1 hcap1 hid1 hnx1 hfr1 hfs1; simp only [put_nx, withH_nx, put_H, withH_H] at hid1 hnx1 hfr1 hfs1)
      rw [← htk] at hH1
      simp -implicitDefEqProofs (disch := omega) only [go_sem, ht, h0, h3, h4]
      exact ⟨⟨i + 1, by omega, rfl, id1, cap1, rest1, rfl, hH1, by omega, by omega⟩, by omega⟩
theorem mtold_z (hW : ∀ z ∈ W, (∀ x ∈ z, Z k x) ∧ z.length ≤ 1000000) (hk : k ≤ 1000000) (hl : W.length ≤ 1000000) : PT Try.prog 99 [SNM W] (isV (SM (W.map CZ))) := by
  have hvl : (W.map CZ).length = W.length := by simp
  refine PCalls.enter (n := 20) (rs := [.tmp 2]) (tb := []) Try.func99 rfl rfl rfl (by kernel_rfl) (by kernel_rfl) (by simp) fun c hc ht => ?_
  simp -implicitDefEqProofs (disch := omega) only [go_sem, ht]
  refine LW.ghost (Gh.nilW 3 1 (by simp -implicitDefEqProofs (disch := omega) only [go_sem, ht])) ?_
  refine LW.loopW hc ht (by kernel_rfl) (fun t => t.sl 0 = .sl W.length (W.map SN) ∧ ∃ i : Nat, i ≤ W.length ∧ t.sl 4 = .val (.int .i64 i) ∧ ∃ (id cap : Nat) (rest : List Value), t.sl 3 = .ref id 0 i cap 1 ∧ t.H id = some (((W.map CZ).take i).map SW ++ rest.map .val) ∧ i + rest.length = cap ∧ id < t.nx)
    (fun t => match t.sl 4 with | .val (.int _ k) => W.length - k.toNat | _ => 0) ?_ ?_
  · simp -implicitDefEqProofs (disch := omega) only [go_sem, ht]
    exact ⟨0, Nat.zero_le _, rfl, _, 0, [], rfl, upd_self _ _ _, rfl, by omega⟩
  · rintro t ⟨h0, i, hi, h4, id, cap, rest, h3, hH, hcap, hid⟩
    by_cases hil : i = W.length
    · subst hil
      rw [List.take_of_length_le (by omega)] at hH
      have hml2 : ((W.map CZ).map SW).length = W.length := by simp
      have htk : List.take W.length ((W.map CZ).map SW ++ rest.map .val) = (W.map CZ).map SW := by
        rw [List.take_append_of_le_length (by omega), List.take_of_length_le (by omega)]
      have hle : W.length ≤ ((W.map CZ).map SW).length + rest.length := by omega
      have hfl := Ytfjdfnlkobeehaa.frzL_flat (fun _ => true) t.H 1 (Ytfjdfnlkobeehaa.SM_flat (W.map CZ))
      have hfl0 := Ytfjdfnlkobeehaa.SM_flat (W.map CZ)
      generalize W.map CZ = V at *
      simp -implicitDefEqProofs (disch := omega) only [go_sem, ht, h0, h3, h4]
      (refine end_treeW 2 ?_; simp -implicitDefEqProofs (disch := omega) only [go_sem, ht, hH, htk, hfl, hfl0, hle, hvl])
      omega
    · have hlt : i < W.length := by omega
      have hgi := get_SNM' hlt
      obtain ⟨hz, hlw⟩ := hW _ (getD_mem (d := []) hlt)
      have hct := alltold_z hz hk hlw
      have hst : ((W.map CZ).take i).map SW ++ [.sl (CZ (W.getD i [])).length (SWc (CZ (W.getD i [])))] = ((W.map CZ).take (i + 1)).map SW := by
        rw [getD_take (d := []) (by omega), List.map_append, Ytfjdfnlkobeehaa.getD_CZ hlt]; rfl
      have hln : (((W.map CZ).take i).map SW).length = i := by simp; omega
      generalize W.map CZ = V at *
      generalize W.getD i [] = z0 at *
      simp -implicitDefEqProofs (disch := omega) only [go_sem, ht, h0, h3, h4, hgi]
      (refine pCall_vw (by refine ⟨⟨?_, ?_⟩, ?_, ?_⟩; rotate_left 2; (first | (right; rintro r rfl; rfl) | left); all_goals ((try simp -implicitDefEqProofs (disch := omega) only [h0, h3, h4, hgi, go_sem, ht]) <;> rfl)) (hct) ?_; rintro _ nx - rfl hnx; simp -implicitDefEqProofs (disch := omega) only [h0, h3, h4, hgi, go_sem, ht])
      have hne : id ≠ nx := by omega
      (refine append_ownX (by refine ⟨?_, ?_, ?_, ?_, ?_, ?_, ?_, ?_⟩ <;> (simp -implicitDefEqProofs (disch := omega) only [srcP_ref, srcP_sl, srcP_nil, Option.isSome_some, hH, go_sem, ht] <;> rfl)) (by first | omega | (simp <;> omega)) (by first | assumption | (simp <;> omega)) (by first | rfl | simp) (by first | omega | (simp <;> omega)) ?_; intro id1 cap1 rest1 H1 nx1 hH1 hcap1 hid1 hnx1 hfr1 hfs1; (try simp only [put_nx, withH_nx, put_H, withH_H] at hid1 hnx1 hfr1 hfs1); (try simp only [app_U, ← List.map_append] at hH1))
      rw [hst] at hH1
      simp -implicitDefEqProofs (disch := omega) only [go_sem, ht, h0, h3, h4]
      exact ⟨⟨i + 1, by omega, rfl, id1, cap1, rest1, rfl, hH1, by omega, by omega⟩, by omega⟩
theorem rlong_z (hz : ∀ x ∈ z, Z k x) (hk : k ≤ 1000000) (hl : z.length ≤ 1000000) : PT Try.prog 123 [SN z] (isV (.val (.bool (Ytfjdfnlkobeehaa.longR z)))) := by
  refine PCalls.enter (n := 15) (rs := [.tmp 2]) (tb := []) Try.func123 rfl rfl rfl (by kernel_rfl) (by kernel_rfl) (by simp) fun c hc ht => ?_
  simp -implicitDefEqProofs (disch := omega) only [go_sem, ht]
  refine LW.loopW hc ht (by kernel_rfl) (fun t => t.sl 0 = .sl z.length (SNc z) ∧ ∃ i : Nat, i ≤ z.length ∧ t.sl 3 = .val (.int .i64 i) ∧ ∀ x ∈ z.take i, (Ytfjdfnlkobeehaa.D x.natAbs).length ≤ 32)
    (fun t => match t.sl 3 with | .val (.int _ k) => z.length - k.toNat | _ => 0) ?_ ?_
  · simp -implicitDefEqProofs (disch := omega) only [go_sem, ht]
    exact ⟨0, Nat.zero_le _, rfl, by simp⟩
  · rintro t ⟨h0, i, hi, h3, hal⟩
    by_cases hil : i = z.length
    · subst hil
      rw [List.take_length] at hal
      rw [show Ytfjdfnlkobeehaa.longR z = false from decide_eq_false (by
        rintro ⟨x, hx, hlt⟩
        have := hal x hx
        omega)]
      simp -implicitDefEqProofs (disch := omega) only [go_sem, ht, h0, h3]
      (refine end_treeW 0 ?_; simp -implicitDefEqProofs (disch := omega) only [go_sem, ht])
    · have hlt : i < z.length := by omega
      have hat := SNc_at hlt
      have hof := big_z (hz _ (List.getElem_mem hlt)) hk
      rw [← vc_lt hlt, NZ_def] at hof
      have h1 : 32 < (Ytfjdfnlkobeehaa.D (vc z i).natAbs).length → Ytfjdfnlkobeehaa.longR z = true := fun h32 => decide_eq_true ⟨_, List.getElem_mem hlt, by rwa [vc_lt hlt] at h32⟩
      by_cases h32 : 32 < (Ytfjdfnlkobeehaa.D (vc z i).natAbs).length
      · rw [h1 h32]
        rw [decide_eq_true h32] at hof
        clear h1 h32
        generalize vc z i = x at *
        simp -implicitDefEqProofs (disch := omega) only [go_sem, ht, h0, h3, hat]
        (refine pCall_vw (by refine ⟨⟨?_, ?_⟩, ?_, ?_⟩; rotate_left 2; (first | (right; rintro r rfl; rfl) | left); all_goals ((try simp -implicitDefEqProofs (disch := omega) only [h0, h3, hat, go_sem, ht]) <;> rfl)) (hof) ?_; rintro _ nx - rfl hnx; simp -implicitDefEqProofs (disch := omega) only [h0, h3, hat, go_sem, ht])
        (refine end_treeW 0 ?_; simp -implicitDefEqProofs (disch := omega) only [go_sem, ht])
      · have hle : ∀ x ∈ z.take (i + 1), (Ytfjdfnlkobeehaa.D x.natAbs).length ≤ 32 := fun x hx => by
          rw [List.take_succ_eq_append_getElem hlt] at hx
          rcases List.mem_append.1 hx with hx | hx
          · exact hal x hx
          · have : x = z[i] := by simpa using hx
            rw [this, ← vc_lt hlt]; omega
        rw [decide_eq_false h32] at hof
        clear h1 h32
        generalize vc z i = x at *
        simp -implicitDefEqProofs (disch := omega) only [go_sem, ht, h0, h3, hat]
        (refine pCall_vw (by refine ⟨⟨?_, ?_⟩, ?_, ?_⟩; rotate_left 2; (first | (right; rintro r rfl; rfl) | left); all_goals ((try simp -implicitDefEqProofs (disch := omega) only [h0, h3, hat, go_sem, ht]) <;> rfl)) (hof) ?_; rintro _ nx - rfl hnx; simp -implicitDefEqProofs (disch := omega) only [h0, h3, hat, go_sem, ht])
        exact ⟨⟨i + 1, by omega, rfl, hle⟩, by omega⟩
theorem mlong_z (hW : ∀ z ∈ W, (∀ x ∈ z, Z k x) ∧ z.length ≤ 1000000) (hk : k ≤ 1000000) (hl : W.length ≤ 1000000) : PT Try.prog 98 [SNM W] (isV (.val (.bool (longZ W)))) := by
  refine PCalls.enter (n := 15) (rs := [.tmp 2]) (tb := []) Try.func98 rfl rfl rfl (by kernel_rfl) (by kernel_rfl) (by simp) fun c hc ht => ?_
  simp -implicitDefEqProofs (disch := omega) only [go_sem, ht]
  refine LW.loopW hc ht (by kernel_rfl) (fun t => t.sl 0 = .sl W.length (W.map SN) ∧ ∃ i : Nat, i ≤ W.length ∧ t.sl 3 = .val (.int .i64 i) ∧ ∀ z ∈ W.take i, Ytfjdfnlkobeehaa.longR z = false)
    (fun t => match t.sl 3 with | .val (.int _ k) => W.length - k.toNat | _ => 0) ?_ ?_
  · simp -implicitDefEqProofs (disch := omega) only [go_sem, ht]
    exact ⟨0, Nat.zero_le _, rfl, by simp⟩
  · rintro t ⟨h0, i, hi, h3, hal⟩
    by_cases hil : i = W.length
    · subst hil
      rw [List.take_length] at hal
      rw [show longZ W = false from decide_eq_false (by
        rintro ⟨z, hz, x, hx, hlt⟩
        exact of_decide_eq_false (hal z hz) ⟨x, hx, hlt⟩)]
      simp -implicitDefEqProofs (disch := omega) only [go_sem, ht, h0, h3]
      (refine end_treeW 0 ?_; simp -implicitDefEqProofs (disch := omega) only [go_sem, ht])
    · have hlt : i < W.length := by omega
      have hgi := get_SNM' hlt
      have hmem := getD_mem (d := []) hlt
      obtain ⟨hz, hlw⟩ := hW _ hmem
      have hct := rlong_z hz hk hlw
      by_cases hb : Ytfjdfnlkobeehaa.longR (W.getD i []) = true
      · have e : longZ W = true := decide_eq_true (by
          obtain ⟨x, hx, h32⟩ := of_decide_eq_true hb
          exact ⟨_, hmem, x, hx, h32⟩)
        rw [hb] at hct
        rw [e]
        clear hb e hal
        generalize W.getD i [] = z0 at *
        simp -implicitDefEqProofs (disch := omega) only [go_sem, ht, h0, h3, hgi]
        (refine pCall_vw (by refine ⟨⟨?_, ?_⟩, ?_, ?_⟩; rotate_left 2; (first | (right; rintro r rfl; rfl) | left); all_goals ((try simp -implicitDefEqProofs (disch := omega) only [h0, h3, hgi, go_sem, ht]) <;> rfl)) (hct) ?_; rintro _ nx - rfl hnx; simp -implicitDefEqProofs (disch := omega) only [h0, h3, hgi, go_sem, ht])
        (refine end_treeW 0 ?_; simp -implicitDefEqProofs (disch := omega) only [go_sem, ht])
      · have hb' : Ytfjdfnlkobeehaa.longR (W.getD i []) = false := by simpa using hb
        have hal2 : ∀ z ∈ W.take (i + 1), Ytfjdfnlkobeehaa.longR z = false := fun y hy => by
          rw [getD_take (d := []) hlt] at hy
          rcases List.mem_append.1 hy with hy | hy
          · exact hal y hy
          · have : y = W.getD i [] := by simpa using hy
            rw [this]; exact hb'
        rw [hb'] at hct
        clear hb hb'
        generalize W.getD i [] = z0 at *
        simp -implicitDefEqProofs (disch := omega) only [go_sem, ht, h0, h3, hgi]
        (refine pCall_vw (by refine ⟨⟨?_, ?_⟩, ?_, ?_⟩; rotate_left 2; (first | (right; rintro r rfl; rfl) | left); all_goals ((try simp -implicitDefEqProofs (disch := omega) only [h0, h3, hgi, go_sem, ht]) <;> rfl)) (hct) ?_; rintro _ nx - rfl hnx; simp -implicitDefEqProofs (disch := omega) only [h0, h3, hgi, go_sem, ht])
        exact ⟨⟨i + 1, by omega, rfl, hal2⟩, by omega⟩
theorem rmtold_z (hW : ∀ z ∈ W, (∀ x ∈ z, Z k x) ∧ z.length ≤ 1000000) (hk : k ≤ 1000000) (hl : W.length ≤ 1000000) : PT Try.prog 59 [SNM W] (isV (.tup [SM ((if longZ W then [] else W).map CZ), .val (.int .i64 (if longZ W then 2 else 0))])) := by
  have h1 := mlong_z hW hk hl
  have h2 := mtold_z hW hk hl
  have hfl := Ytfjdfnlkobeehaa.SM_flat (W.map CZ)
  by_cases hb : longZ W = true
  · rw [hb] at h1
    rw [if_pos hb, if_pos hb]
    refine PCalls.enter (n := 8) (rs := [.tmp 2, .tmp 3]) (tb := []) Try.func59 rfl rfl rfl (by kernel_rfl) (by kernel_rfl) (by simp) fun c hc ht => ?_
    simp -implicitDefEqProofs (disch := omega) only [go_sem, ht]
    (refine pCall_vw (by refine ⟨⟨?_, ?_⟩, ?_, ?_⟩; rotate_left 2; (first | (right; rintro r rfl; rfl) | left); all_goals ((try simp -implicitDefEqProofs (disch := omega) only [go_sem, ht]) <;> rfl)) (h1) ?_; rintro _ nx - rfl hnx; simp -implicitDefEqProofs (disch := omega) only [go_sem, ht])
    (refine end_treeM 2 ?_; simp -implicitDefEqProofs (disch := omega) only [go_sem, ht, List.map_nil])
  · rw [show longZ W = false by simpa using hb] at h1
    rw [if_neg hb, if_neg hb]
    generalize W.map CZ = V at *
    refine PCalls.enter (n := 8) (rs := [.tmp 2, .tmp 3]) (tb := []) Try.func59 rfl rfl rfl (by kernel_rfl) (by kernel_rfl) (by simp) fun c hc ht => ?_
    simp -implicitDefEqProofs (disch := omega) only [go_sem, ht]
    ((refine pCall_vw (by refine ⟨⟨?_, ?_⟩, ?_, ?_⟩; rotate_left 2; (first | (right; rintro r rfl; rfl) | left); all_goals ((try simp -implicitDefEqProofs (disch := omega) only [go_sem, ht]) <;> rfl)) (h1) ?_; rintro _ nx_1 - rfl hnx_1; simp -implicitDefEqProofs (disch := omega) only [go_sem, ht]); (refine pCall_vw (by refine ⟨⟨?_, ?_⟩, ?_, ?_⟩; rotate_left 2; (first | (right; rintro r rfl; rfl) | left); all_goals ((try simp -implicitDefEqProofs (disch := omega) only [go_sem, ht]) <;> rfl)) (h2) ?_; rintro _ nx_2 - rfl hnx_2; simp -implicitDefEqProofs (disch := omega) only [go_sem, ht]))
    (refine end_treeM 2 ?_; simp -implicitDefEqProofs (disch := omega) only [go_sem, ht, hfl])
theorem rech_calls (h : Mx m B) (hB : 2 * (B + 1) + 1 ≤ 100000) {cn : Int} : PT Try.prog 19 [SM m, .val (.int .i64 cn)] (isV (.tup [SM ((mEch m cn).1.map CZ), .val (.int .i64 (mEch m cn).2)])) := by
  have hw := rwrong_calls (m := m) (cn := cn) (by have := h.n; omega)
  unfold Ytfjdfnlkobeehaa.mEch
  by_cases hb : wrongM m cn = true
  · rw [hb] at hw
    rw [if_pos hb]
    refine PCalls.enter (n := 22) (rs := [.tmp 4, .tmp 5]) (tb := []) Try.func19 rfl rfl rfl (by kernel_rfl) (by kernel_rfl) (by simp) fun c hc ht => ?_
    simp -implicitDefEqProofs (disch := omega) only [go_sem, ht]
    (refine pCall_vw (by refine ⟨⟨?_, ?_⟩, ?_, ?_⟩; rotate_left 2; (first | (right; rintro r rfl; rfl) | left); all_goals ((try simp -implicitDefEqProofs (disch := omega) only [go_sem, ht]) <;> rfl)) (hw) ?_; rintro _ nx - rfl hnx; simp -implicitDefEqProofs (disch := omega) only [go_sem, ht])
    (refine end_treeM 2 ?_; simp -implicitDefEqProofs (disch := omega) only [go_sem, ht, List.map_nil])
  · rw [if_neg hb]
    have hb' : wrongM m cn = false := by simpa using hb
    obtain ⟨n, rfl, hn, hml, hlc⟩ := wrongM_false hb'
    rw [hb'] at hw
    have hrd := mread h hlc hn hml
    have hre := mred h hlc hn hml hB
    have hr := h.rr hlc
    have hTl : (echT (m.map vals) n).length ≤ 1000000 := by
      have h1 := hr.len; have h2 := (h.ez hlc).1 n; obtain ⟨O, κ, hI, _⟩ := h2.st; have := hI.tle; omega
    have ht' := rmtold_z (W := echT (m.map vals) n) (k := B + 1) (fun z hz => by
      obtain ⟨i, hi, rfl⟩ := mem_getD (d := []) hz
      exact ⟨(hr.row i hi).2, by rw [(hr.row i hi).1]; omega⟩) hr.hk hTl
    rw [Int.toNat_natCast]
    have e : (if longZ (echT (m.map vals) n) = true then (([], 2) : List (List Int) × Int) else (echT (m.map vals) n, 0)) = (if longZ (echT (m.map vals) n) = true then [] else echT (m.map vals) n, if longZ (echT (m.map vals) n) = true then 2 else 0) := by split <;> rfl
    rw [e]
    have hfl := Ytfjdfnlkobeehaa.SM_flat ((if longZ (echT (m.map vals) n) = true then [] else echT (m.map vals) n).map CZ)
    have hml2 : (m.map vals).length = m.length := by simp
    rw [SNM_def, hml2] at hrd
    rw [SNM_def, hml2] at hre
    generalize (if longZ (echT (m.map vals) n) = true then [] else echT (m.map vals) n).map CZ = m2 at *
    generalize (if longZ (echT (m.map vals) n) = true then (2 : Int) else 0) = er at *
    generalize echT (m.map vals) n = T at *
    generalize (echW (m.map vals) n).2 = Pv at *
    refine PCalls.enter (n := 22) (rs := [.tmp 4, .tmp 5]) (tb := []) Try.func19 rfl rfl rfl (by kernel_rfl) (by kernel_rfl) (by simp) fun c hc ht => ?_
    simp -implicitDefEqProofs (disch := omega) only [go_sem, ht]
    ((refine pCall_vw (by refine ⟨⟨?_, ?_⟩, ?_, ?_⟩; rotate_left 2; (first | (right; rintro r rfl; rfl) | left); all_goals ((try simp -implicitDefEqProofs (disch := omega) only [go_sem, ht]) <;> rfl)) (hw) ?_; rintro _ nx_3 - rfl hnx_3; simp -implicitDefEqProofs (disch := omega) only [go_sem, ht]); (refine pCall_vw (by refine ⟨⟨?_, ?_⟩, ?_, ?_⟩; rotate_left 2; (first | (right; rintro r rfl; rfl) | left); all_goals ((try simp -implicitDefEqProofs (disch := omega) only [go_sem, ht]) <;> rfl)) (hrd) ?_; rintro _ nx_4 - rfl hnx_4; simp -implicitDefEqProofs (disch := omega) only [go_sem, ht]); (refine pCall_vw (by refine ⟨⟨?_, ?_⟩, ?_, ?_⟩; rotate_left 2; (first | (right; rintro r rfl; rfl) | left); all_goals ((try simp -implicitDefEqProofs (disch := omega) only [go_sem, ht]) <;> rfl)) (hre) ?_; rintro _ nx_5 - rfl hnx_5; simp -implicitDefEqProofs (disch := omega) only [go_sem, ht]); (refine pCall_vw (by refine ⟨⟨?_, ?_⟩, ?_, ?_⟩; rotate_left 2; (first | (right; rintro r rfl; rfl) | left); all_goals ((try simp -implicitDefEqProofs (disch := omega) only [go_sem, ht]) <;> rfl)) (ht') ?_; rintro _ nx_6 - rfl hnx_6; simp -implicitDefEqProofs (disch := omega) only [go_sem, ht]))
    (refine end_treeM 2 ?_; simp -implicitDefEqProofs (disch := omega) only [go_sem, ht, hfl])
theorem rrank_calls (h : Mx m B) (hB : 2 * (B + 1) + 1 ≤ 100000) {cn : Int} : PT Try.prog 20 [SM m, .val (.int .i64 cn)] (isV (.tup [.val (.int .i64 (mRank m cn).1), .val (.int .i64 (mRank m cn).2)])) := by
  have hw := rwrong_calls (m := m) (cn := cn) (by have := h.n; omega)
  unfold Ytfjdfnlkobeehaa.mRank
  by_cases hb : wrongM m cn = true
  · rw [hb] at hw
    rw [if_pos hb]
    refine PCalls.enter (n := 20) (rs := [.tmp 4, .tmp 5]) (tb := []) Try.func20 rfl rfl rfl (by kernel_rfl) (by kernel_rfl) (by simp) fun c hc ht => ?_
    simp -implicitDefEqProofs (disch := omega) only [go_sem, ht]
    (refine pCall_vw (by refine ⟨⟨?_, ?_⟩, ?_, ?_⟩; rotate_left 2; (first | (right; rintro r rfl; rfl) | left); all_goals ((try simp -implicitDefEqProofs (disch := omega) only [go_sem, ht]) <;> rfl)) (hw) ?_; rintro _ nx - rfl hnx; simp -implicitDefEqProofs (disch := omega) only [go_sem, ht])
    (refine end_treeW 0 ?_; simp -implicitDefEqProofs (disch := omega) only [go_sem, ht])
  · rw [if_neg hb]
    have hb' : wrongM m cn = false := by simpa using hb
    obtain ⟨n, rfl, hn, hml, hlc⟩ := wrongM_false hb'
    rw [hb'] at hw
    have hrd := mread h hlc hn hml
    have hre := mred h hlc hn hml hB
    have hTl := (h.rr hlc).len
    rw [Int.toNat_natCast]
    have hml2 : (m.map vals).length = m.length := by simp
    rw [SNM_def, hml2] at hrd
    rw [SNM_def, hml2] at hre
    generalize echT (m.map vals) n = T at *
    generalize (echW (m.map vals) n).2 = Pv at *
    refine PCalls.enter (n := 20) (rs := [.tmp 4, .tmp 5]) (tb := []) Try.func20 rfl rfl rfl (by kernel_rfl) (by kernel_rfl) (by simp) fun c hc ht => ?_
    simp -implicitDefEqProofs (disch := omega) only [go_sem, ht]
    ((refine pCall_vw (by refine ⟨⟨?_, ?_⟩, ?_, ?_⟩; rotate_left 2; (first | (right; rintro r rfl; rfl) | left); all_goals ((try simp -implicitDefEqProofs (disch := omega) only [hTl, go_sem, ht]) <;> rfl)) (hw) ?_; rintro _ nx_7 - rfl hnx_7; simp -implicitDefEqProofs (disch := omega) only [hTl, go_sem, ht]); (refine pCall_vw (by refine ⟨⟨?_, ?_⟩, ?_, ?_⟩; rotate_left 2; (first | (right; rintro r rfl; rfl) | left); all_goals ((try simp -implicitDefEqProofs (disch := omega) only [hTl, go_sem, ht]) <;> rfl)) (hrd) ?_; rintro _ nx_8 - rfl hnx_8; simp -implicitDefEqProofs (disch := omega) only [hTl, go_sem, ht]); (refine pCall_vw (by refine ⟨⟨?_, ?_⟩, ?_, ?_⟩; rotate_left 2; (first | (right; rintro r rfl; rfl) | left); all_goals ((try simp -implicitDefEqProofs (disch := omega) only [hTl, go_sem, ht]) <;> rfl)) (hre) ?_; rintro _ nx_9 - rfl hnx_9; simp -implicitDefEqProofs (disch := omega) only [hTl, go_sem, ht]))
    (refine end_treeW 0 ?_; simp -implicitDefEqProofs (disch := omega) only [go_sem, ht, hTl])
end
end Go.Proofs.Ytfjdfnlkobeehaa.Ref
end

section
set_option maxRecDepth 100000
set_option linter.unusedVariables false
set_option linter.unusedSimpArgs false
namespace Go.Proofs.Ytfjdfnlkobeehaa

section
variable {m : List (List (Bool × List Nat))} {H : Nat → Option (List PV)} {nx idb : Nat}
theorem own_nil : PCalls Try.prog 24 [.ptr idb 0, .sl 0 []] H nx (memQ (.val (.bool true)) H nx) := by
  refine PCalls.enter (n := 19) (rs := [.tmp 4]) (tb := []) Try.func24 rfl rfl rfl (by kernel_rfl) (by kernel_rfl) (by simp) fun c hc ht => ?_
  simp -implicitDefEqProofs (disch := omega) only [go_sem, ht]
  refine LW.loopW hc ht (by kernel_rfl) (fun t => t.sl 1 = .sl 0 [] ∧ t.H = H ∧ t.nx = nx ∧ t.sl 5 = .val (.int .i64 0)) (fun _ => 0) ?_ ?_
  · simp -implicitDefEqProofs (disch := omega) only [go_sem, ht]
  · rintro t ⟨h1, eH, en, h5⟩
    simp -implicitDefEqProofs (disch := omega) only [go_sem, ht, h1, eH, en, h5]
    (refine end_plain (by simp -implicitDefEqProofs (disch := omega) only [eH, en, go_sem, ht] <;> rfl) ?_; simp only [tupP_1, tupP_2]; refine ⟨?_, ?_, ?_⟩ <;> try simp -implicitDefEqProofs (disch := omega) only [eH, en, go_sem, ht])
theorem mEch_cases (m : List (List (Bool × List Nat))) (cn : Int) : (∃ n : Nat, cn = n ∧ n ≤ 32 ∧ m.length ≤ 64 ∧ wrongM m n = false ∧ longZ (echT (m.map vals) n) = false ∧ mEch m cn = (echT (m.map vals) n, 0)) ∨ ∃ e : Int, mEch m cn = ([], e) ∧ 0 ≤ e ∧ e ≤ 2 := by
  unfold mEch
  by_cases hw : wrongM m cn = true
  · rw [if_pos hw]
    exact .inr ⟨1, rfl, by omega, by omega⟩
  rw [if_neg hw]
  have hw' : wrongM m cn = false := by simpa using hw
  obtain ⟨n, rfl, hn, hml, hlc⟩ := wrongM_false hw'
  rw [Int.toNat_natCast]
  by_cases hl : longZ (echT (m.map vals) n) = true
  · rw [if_pos hl]
    exact .inr ⟨2, rfl, by omega, by omega⟩
  · rw [if_neg hl]
    exact .inl ⟨n, rfl, hn, hml, hw', by simpa using hl, rfl⟩
set_option maxHeartbeats 8000000 in
theorem reduces_law {cn : Int} (hm : ∀ l ∈ m, ∀ p ∈ l, Lm p.2) (hb : lenM m + 1 ≤ 1048576) (lo : -9223372036854775808 ≤ cn) (hi : cn ≤ 9223372036854775807) :
    PT Try.prog 4 [SM m, .val (.int .i64 cn)] (isV (.val (.bool true))) := by
  have hlr := len_rows (m := m) (by omega)
  have hml := lenM_len m
  by_cases hl : 1500 < lenM m
  · refine PCalls.enter (n := 88) (rs := [.tmp 4]) (tb := []) Try.func4 rfl rfl rfl (by kernel_rfl) (by kernel_rfl) (by simp) fun c hc ht => ?_
    simp -implicitDefEqProofs (disch := omega) only [go_sem, ht]
    ((refine pCall_vw (by refine ⟨⟨?_, ?_⟩, ?_, ?_⟩; rotate_left 2; (first | (right; rintro r rfl; rfl) | left); all_goals ((try simp -implicitDefEqProofs (disch := omega) only [go_sem, ht]) <;> rfl)) (awake_matrix) ?_; rintro _ nx_1 - rfl hnx_1; simp -implicitDefEqProofs (disch := omega) only [go_sem, ht]); (refine pCall_vw (by refine ⟨⟨?_, ?_⟩, ?_, ?_⟩; rotate_left 2; (first | (right; rintro r rfl; rfl) | left); all_goals ((try simp -implicitDefEqProofs (disch := omega) only [go_sem, ht]) <;> rfl)) (hlr) ?_; rintro _ nx_2 - rfl hnx_2; simp -implicitDefEqProofs (disch := omega) only [go_sem, ht]))
    (refine end_treeW 0 ?_; simp -implicitDefEqProofs (disch := omega) only [go_sem, ht])
  have hMx : Mx m 1500 := ⟨hm, by omega, by omega⟩
  have hmo : ∀ l ∈ m, (∀ p ∈ l, Ok p.2) ∧ l.length ≤ 1000000 := fun l hl => ⟨fun p hp => by have := (hMx.rn hl).ok p hp; exact ⟨this.1, by omega⟩, by have := lenM_mem hl; have := lenW_len l; omega⟩
  have hcr := copy_rows hmo (by omega)
  have hsm := same_rows hmo (fun l hl => (hmo l hl).1) (by omega)
  rw [decide_eq_true rfl] at hsm
  have hre := Ref.rech_calls (cn := cn) hMx (by omega)
  have hrr := Ref.rrank_calls (cn := cn) hMx (by omega)
  have hmr := mrank_calls (cn := cn) hMx
  have hre' : (mRank m cn).2 = 0 ∨ (mRank m cn).2 = 1 := by unfold mRank; split <;> simp
  have hnm := Ref.num_calls (s := (mRank m cn).2) (by omega) (by omega)
  clear hre'
  rcases mEch_cases m cn with ⟨n, rfl, hn, hmn, hw, hlz, he⟩ | ⟨e, he, he0, he2⟩
  · have hme := mech_L hMx hw hlz
    have hlc := (wrongM_false hw)
    obtain ⟨n', en, _, _, hlc⟩ := hlc
    obtain rfl : n = n' := by omega
    have hrR := hMx.rr hlc
    have hTl : (echT (m.map vals) n).length ≤ 64 := by have h1 := hrR.len; have := (hMx.ez hlc).1 n; obtain ⟨O, κ, hI, _⟩ := this.st; have := hI.tle; omega
    have hTo : ∀ l ∈ (echT (m.map vals) n).map CZ, (∀ p ∈ l, Ok p.2) ∧ l.length ≤ 1000000 := fun l hl => by
      obtain ⟨z, hz, rfl⟩ := List.mem_map.1 hl
      obtain ⟨i, hi, rfl⟩ := mem_getD (d := []) hz
      obtain ⟨g1, g2⟩ := hrR.row i hi
      exact ⟨CZ_ok g2 (by have := hrR.hk; omega), by rw [CZ_len]; omega⟩
    have hst := same_rows hTo (fun l hl => (hTo l hl).1) (by simp; omega)
    rw [decide_eq_true rfl] at hst
    have hn0 := Ref.num_calls (s := 0) (by omega) (by omega)
    rw [he] at hre
    generalize (mRank m n).1 = rk at *
    generalize (mRank m n).2 = re at *
    generalize echT (m.map vals) n = T at *
    have hTC : (T.map CZ).length = T.length := by simp
    have hst2 : PT Try.prog 18 [SM (T.map CZ), .sl T.length ((T.map CZ).map SW)] (isV (.val (.bool true))) := by
      have e : SM (T.map CZ) = .sl T.length ((T.map CZ).map SW) := by rw [SM_def, hTC]
      rw [← e]; exact hst
    have hTn : T.length * n ≤ 2048 := Nat.mul_le_mul hTl hn
    refine PCalls.enter (n := 88) (rs := [.tmp 4]) (tb := []) Try.func4 rfl rfl rfl (by kernel_rfl) (by kernel_rfl) (by simp) fun c hc ht => ?_
    simp -implicitDefEqProofs (disch := omega) only [go_sem, ht]
    ((refine pCall_vw (by refine ⟨⟨?_, ?_⟩, ?_, ?_⟩; rotate_left 2; (first | (right; rintro r rfl; rfl) | left); all_goals ((try simp -implicitDefEqProofs (disch := omega) only [go_sem, ht]) <;> rfl)) (awake_matrix) ?_; rintro _ nx_3 - rfl hnx_3; simp -implicitDefEqProofs (disch := omega) only [go_sem, ht]); (refine pCall_vw (by refine ⟨⟨?_, ?_⟩, ?_, ?_⟩; rotate_left 2; (first | (right; rintro r rfl; rfl) | left); all_goals ((try simp -implicitDefEqProofs (disch := omega) only [go_sem, ht]) <;> rfl)) (hlr) ?_; rintro _ nx_4 - rfl hnx_4; simp -implicitDefEqProofs (disch := omega) only [go_sem, ht]))
    generalize nx_4 = idb at *
    ((refine pCall_vw (by refine ⟨⟨?_, ?_⟩, ?_, ?_⟩; rotate_left 2; (first | (right; rintro r rfl; rfl) | left); all_goals ((try simp -implicitDefEqProofs (disch := omega) only [go_sem, ht]) <;> rfl)) (hre) ?_; rintro _ nx_5 - rfl hnx_5; simp -implicitDefEqProofs (disch := omega) only [go_sem, ht]); (refine pCall_vw (by refine ⟨⟨?_, ?_⟩, ?_, ?_⟩; rotate_left 2; (first | (right; rintro r rfl; rfl) | left); all_goals ((try simp -implicitDefEqProofs (disch := omega) only [go_sem, ht]) <;> rfl)) (hrr) ?_; rintro _ nx_6 - rfl hnx_6; simp -implicitDefEqProofs (disch := omega) only [go_sem, ht]))
    refine LW.loopW hc ht (by kernel_rfl) (fun t => t.sl 0 = .sl m.length (m.map SW) ∧ t.sl 1 = .val (.int .i64 n) ∧ t.sl 5 = .ptr idb 0 ∧ t.sl 6 = .sl T.length ((T.map CZ).map SW) ∧ t.sl 7 = .val (.int .i64 0) ∧ t.sl 8 = .val (.int .i64 rk) ∧ t.sl 9 = .val (.int .i64 re) ∧
        ∃ i : Nat, i ≤ 2 ∧ t.sl 10 = .val (.int .i64 i) ∧ ∃ es B, BK t.H t.nx idb es B ∧ es.length ≤ i * 2048)
      (fun t => match t.sl 10 with | .val (.int _ k) => 2 - k.toNat | _ => 0) ?_ ?_
    · simp -implicitDefEqProofs (disch := omega) only [go_sem, ht]
      exact ⟨0, Nat.zero_le _, rfl, [], (fun j => j = idb), BK.start (by simp -implicitDefEqProofs (disch := omega) only [go_sem, ht]) (by omega), Nat.zero_le _⟩
    · rintro t ⟨h0, h1, h5, h6, h7, h8, h9, i, hi2, h10, es, B, hB, hes⟩
      by_cases hil : i = 2
      · subst hil
        simp -implicitDefEqProofs (disch := omega) only [go_sem, ht, h0, h1, h5, h6, h7, h8, h9, h10]
        apply pCall_mem
        exact done_calls (es := es) (B := B) (by simp -implicitDefEqProofs (disch := omega) only [go_sem, ht]; exact hB) (by omega)
        rintro _ _ _ ⟨rfl, rfl, rfl⟩ -
        simp -implicitDefEqProofs (disch := omega) only [go_sem, ht]
        (refine end_treeW 0 ?_; simp -implicitDefEqProofs (disch := omega) only [go_sem, ht])
      · have hlt : i < 2 := by omega
        obtain ⟨n0, en0⟩ : ∃ n0, t.nx = n0 := ⟨_, rfl⟩
        rw [en0] at hB
        simp -implicitDefEqProofs (disch := omega) only [go_sem, ht, h0, h1, h5, h6, h7, h8, h9, h10]
        (refine pCall_vw (by refine ⟨⟨?_, ?_⟩, ?_, ?_⟩; rotate_left 2; (first | (right; rintro r rfl; rfl) | left); all_goals ((try simp -implicitDefEqProofs (disch := omega) only [h0, h1, h5, h6, h7, h8, h9, h10, go_sem, ht]) <;> rfl)) (hcr) ?_; rintro _ nx - rfl hnx; simp -implicitDefEqProofs (disch := omega) only [h0, h1, h5, h6, h7, h8, h9, h10, go_sem, ht])
        refine pCall_om (fun k p => by simp [Ytfjdfnlkobeehaa.shift, shiftL]) (by simp -implicitDefEqProofs (disch := omega) only [go_sem, ht] <;> rfl) (by simp -implicitDefEqProofs (disch := omega) only [go_sem, ht]) (by simp -implicitDefEqProofs (disch := omega) only [go_sem, ht]) hme ?_
        rintro idM capM H1 n1 hM hfr hn1
        simp only [put_nx, withH_nx, put_H, withH_H] at hM hfr hn1
        rw [en0] at hnx
        have hB1 : BK H1 n1 idb es B := hB.mono (by omega) (fun j hj => hfr j (by omega))
        have hbl := hB.lt
        simp -implicitDefEqProofs (disch := omega) only [go_sem, ht, h0, h1, h5, h6, h7, h8, h9, h10]
        ((refine pCall_vw (by refine ⟨⟨?_, ?_⟩, ?_, ?_⟩; rotate_left 2; (first | (right; rintro r rfl; rfl) | left); all_goals ((try simp -implicitDefEqProofs (disch := omega) only [h0, h1, h5, h6, h7, h8, h9, h10, go_sem, ht]) <;> rfl)) (hmr) ?_; rintro _ nx_7 - rfl hnx_7; simp -implicitDefEqProofs (disch := omega) only [h0, h1, h5, h6, h7, h8, h9, h10, go_sem, ht]); (refine pCall_vw (by refine ⟨⟨?_, ?_⟩, ?_, ?_⟩; rotate_left 2; (first | (right; rintro r rfl; rfl) | left); all_goals ((try simp -implicitDefEqProofs (disch := omega) only [h0, h1, h5, h6, h7, h8, h9, h10, go_sem, ht]) <;> rfl)) (hn0) ?_; rintro _ nx_8 - rfl hnx_8; simp -implicitDefEqProofs (disch := omega) only [h0, h1, h5, h6, h7, h8, h9, h10, go_sem, ht]); (refine pCall_vw (by refine ⟨⟨?_, ?_⟩, ?_, ?_⟩; rotate_left 2; (first | (right; rintro r rfl; rfl) | left); all_goals ((try simp -implicitDefEqProofs (disch := omega) only [h0, h1, h5, h6, h7, h8, h9, h10, go_sem, ht]) <;> rfl)) (hnm) ?_; rintro _ nx_9 - rfl hnx_9; simp -implicitDefEqProofs (disch := omega) only [h0, h1, h5, h6, h7, h8, h9, h10, go_sem, ht]))
        apply pCall_mem
        exact hM.borrow (args := [.sl T.length ((T.map CZ).map SW)]) (by rw [flatL_cons]; simp only [Ytfjdfnlkobeehaa.flat]; rw [SM_flat]; rfl) hst2
        rintro _ _ _ ⟨rfl, rfl, rfl⟩ -
        simp -implicitDefEqProofs (disch := omega) only [go_sem, ht, h0, h1, h5, h6, h7, h8, h9, h10]
        (refine pCall_vw (by refine ⟨⟨?_, ?_⟩, ?_, ?_⟩; rotate_left 2; (first | (right; rintro r rfl; rfl) | left); all_goals ((try simp -implicitDefEqProofs (disch := omega) only [h0, h1, h5, h6, h7, h8, h9, h10, go_sem, ht]) <;> rfl)) (hsm) ?_; rintro _ nx - rfl hnx; simp -implicitDefEqProofs (disch := omega) only [h0, h1, h5, h6, h7, h8, h9, h10, go_sem, ht])
        apply pCall_mem
        refine own_L (capM := capM) (es := es) (B := B) hM (hB1.mono (by simp -implicitDefEqProofs (disch := omega) only [go_sem, ht]; omega) (fun j hj => rfl)) (fun j h1 h2 h3 => ?_) (by simp -implicitDefEqProofs (disch := omega) only [go_sem, ht]; omega) (by omega) (by omega)
        · have := hbl j h3; omega
        rintro _ H6 n6 ⟨rfl, es6, B6, hB6, hl6⟩ hn6
        simp -implicitDefEqProofs (disch := omega) only [go_sem, ht, h0, h1, h5, h6, h7, h8, h9, h10]
        exact ⟨⟨i + 1, by omega, rfl, es6, B6, hB6, by omega⟩, by omega⟩
  · have hme := mech_calls (cn := cn) hMx
    have hst := same_rows (m := []) (m' := []) (fun l hl => by simp at hl) (fun l hl => by simp at hl) (by simp)
    rw [decide_eq_true rfl] at hst
    have hn0 := Ref.num_calls (s := e) (by omega) (by omega)
    rw [he] at hre hme
    have e0 : SM (([] : List (List Int)).map CZ) = .sl 0 [] := rfl
    have e1 : SM [] = .sl 0 [] := rfl
    simp only [e0] at hre hme
    rw [e1] at hst
    generalize (mRank m cn).1 = rk at *
    generalize (mRank m cn).2 = re at *
    refine PCalls.enter (n := 88) (rs := [.tmp 4]) (tb := []) Try.func4 rfl rfl rfl (by kernel_rfl) (by kernel_rfl) (by simp) fun c hc ht => ?_
    simp -implicitDefEqProofs (disch := omega) only [go_sem, ht]
    ((refine pCall_vw (by refine ⟨⟨?_, ?_⟩, ?_, ?_⟩; rotate_left 2; (first | (right; rintro r rfl; rfl) | left); all_goals ((try simp -implicitDefEqProofs (disch := omega) only [go_sem, ht]) <;> rfl)) (awake_matrix) ?_; rintro _ nx_10 - rfl hnx_10; simp -implicitDefEqProofs (disch := omega) only [go_sem, ht]); (refine pCall_vw (by refine ⟨⟨?_, ?_⟩, ?_, ?_⟩; rotate_left 2; (first | (right; rintro r rfl; rfl) | left); all_goals ((try simp -implicitDefEqProofs (disch := omega) only [go_sem, ht]) <;> rfl)) (hlr) ?_; rintro _ nx_11 - rfl hnx_11; simp -implicitDefEqProofs (disch := omega) only [go_sem, ht]))
    generalize nx_11 = idb at *
    ((refine pCall_vw (by refine ⟨⟨?_, ?_⟩, ?_, ?_⟩; rotate_left 2; (first | (right; rintro r rfl; rfl) | left); all_goals ((try simp -implicitDefEqProofs (disch := omega) only [go_sem, ht]) <;> rfl)) (hre) ?_; rintro _ nx_12 - rfl hnx_12; simp -implicitDefEqProofs (disch := omega) only [go_sem, ht]); (refine pCall_vw (by refine ⟨⟨?_, ?_⟩, ?_, ?_⟩; rotate_left 2; (first | (right; rintro r rfl; rfl) | left); all_goals ((try simp -implicitDefEqProofs (disch := omega) only [go_sem, ht]) <;> rfl)) (hrr) ?_; rintro _ nx_13 - rfl hnx_13; simp -implicitDefEqProofs (disch := omega) only [go_sem, ht]))
    refine LW.loopW hc ht (by kernel_rfl) (fun t => t.sl 0 = .sl m.length (m.map SW) ∧ t.sl 1 = .val (.int .i64 cn) ∧ t.sl 5 = .ptr idb 0 ∧ t.sl 6 = .sl 0 [] ∧ t.sl 7 = .val (.int .i64 e) ∧ t.sl 8 = .val (.int .i64 rk) ∧ t.sl 9 = .val (.int .i64 re) ∧
        ∃ i : Nat, i ≤ 2 ∧ t.sl 10 = .val (.int .i64 i) ∧ ∃ es B, BK t.H t.nx idb es B ∧ es.length ≤ i * 2048)
      (fun t => match t.sl 10 with | .val (.int _ k) => 2 - k.toNat | _ => 0) ?_ ?_
    · simp -implicitDefEqProofs (disch := omega) only [go_sem, ht]
      exact ⟨0, Nat.zero_le _, rfl, [], (fun j => j = idb), BK.start (by simp -implicitDefEqProofs (disch := omega) only [go_sem, ht]) (by omega), Nat.zero_le _⟩
    · rintro t ⟨h0, h1, h5, h6, h7, h8, h9, i, hi2, h10, es, B, hB, hes⟩
      by_cases hil : i = 2
      · subst hil
        simp -implicitDefEqProofs (disch := omega) only [go_sem, ht, h0, h1, h5, h6, h7, h8, h9, h10]
        apply pCall_mem
        exact done_calls (es := es) (B := B) (by simp -implicitDefEqProofs (disch := omega) only [go_sem, ht]; exact hB) (by omega)
        rintro _ _ _ ⟨rfl, rfl, rfl⟩ -
        simp -implicitDefEqProofs (disch := omega) only [go_sem, ht]
        (refine end_treeW 0 ?_; simp -implicitDefEqProofs (disch := omega) only [go_sem, ht])
      · have hlt : i < 2 := by omega
        obtain ⟨n0, en0⟩ : ∃ n0, t.nx = n0 := ⟨_, rfl⟩
        rw [en0] at hB
        simp -implicitDefEqProofs (disch := omega) only [go_sem, ht, h0, h1, h5, h6, h7, h8, h9, h10]
        (refine pCall_vw (by refine ⟨⟨?_, ?_⟩, ?_, ?_⟩; rotate_left 2; (first | (right; rintro r rfl; rfl) | left); all_goals ((try simp -implicitDefEqProofs (disch := omega) only [h0, h1, h5, h6, h7, h8, h9, h10, go_sem, ht]) <;> rfl)) (hcr) ?_; rintro _ nx - rfl hnx; simp -implicitDefEqProofs (disch := omega) only [h0, h1, h5, h6, h7, h8, h9, h10, go_sem, ht])
        ((refine pCall_vw (by refine ⟨⟨?_, ?_⟩, ?_, ?_⟩; rotate_left 2; (first | (right; rintro r rfl; rfl) | left); all_goals ((try simp -implicitDefEqProofs (disch := omega) only [h0, h1, h5, h6, h7, h8, h9, h10, go_sem, ht]) <;> rfl)) (hme) ?_; rintro _ nx_14 - rfl hnx_14; simp -implicitDefEqProofs (disch := omega) only [h0, h1, h5, h6, h7, h8, h9, h10, go_sem, ht]); (refine pCall_vw (by refine ⟨⟨?_, ?_⟩, ?_, ?_⟩; rotate_left 2; (first | (right; rintro r rfl; rfl) | left); all_goals ((try simp -implicitDefEqProofs (disch := omega) only [h0, h1, h5, h6, h7, h8, h9, h10, go_sem, ht]) <;> rfl)) (hmr) ?_; rintro _ nx_15 - rfl hnx_15; simp -implicitDefEqProofs (disch := omega) only [h0, h1, h5, h6, h7, h8, h9, h10, go_sem, ht]); (refine pCall_vw (by refine ⟨⟨?_, ?_⟩, ?_, ?_⟩; rotate_left 2; (first | (right; rintro r rfl; rfl) | left); all_goals ((try simp -implicitDefEqProofs (disch := omega) only [h0, h1, h5, h6, h7, h8, h9, h10, go_sem, ht]) <;> rfl)) (hn0) ?_; rintro _ nx_16 - rfl hnx_16; simp -implicitDefEqProofs (disch := omega) only [h0, h1, h5, h6, h7, h8, h9, h10, go_sem, ht]); (refine pCall_vw (by refine ⟨⟨?_, ?_⟩, ?_, ?_⟩; rotate_left 2; (first | (right; rintro r rfl; rfl) | left); all_goals ((try simp -implicitDefEqProofs (disch := omega) only [h0, h1, h5, h6, h7, h8, h9, h10, go_sem, ht]) <;> rfl)) (hnm) ?_; rintro _ nx_17 - rfl hnx_17; simp -implicitDefEqProofs (disch := omega) only [h0, h1, h5, h6, h7, h8, h9, h10, go_sem, ht]); (refine pCall_vw (by refine ⟨⟨?_, ?_⟩, ?_, ?_⟩; rotate_left 2; (first | (right; rintro r rfl; rfl) | left); all_goals ((try simp -implicitDefEqProofs (disch := omega) only [h0, h1, h5, h6, h7, h8, h9, h10, go_sem, ht]) <;> rfl)) (hst) ?_; rintro _ nx_18 - rfl hnx_18; simp -implicitDefEqProofs (disch := omega) only [h0, h1, h5, h6, h7, h8, h9, h10, go_sem, ht]); (refine pCall_vw (by refine ⟨⟨?_, ?_⟩, ?_, ?_⟩; rotate_left 2; (first | (right; rintro r rfl; rfl) | left); all_goals ((try simp -implicitDefEqProofs (disch := omega) only [h0, h1, h5, h6, h7, h8, h9, h10, go_sem, ht]) <;> rfl)) (hsm) ?_; rintro _ nx_19 - rfl hnx_19; simp -implicitDefEqProofs (disch := omega) only [h0, h1, h5, h6, h7, h8, h9, h10, go_sem, ht]))
        apply pCall_mem
        exact own_nil
        rintro _ _ _ ⟨rfl, rfl, rfl⟩ -
        simp -implicitDefEqProofs (disch := omega) only [go_sem, ht, h0, h1, h5, h6, h7, h8, h9, h10]
        exact ⟨⟨i + 1, by omega, rfl, es, B, hB.mono (by omega) (fun j hj => rfl), by omega⟩, by omega⟩
end
end Go.Proofs.Ytfjdfnlkobeehaa
open Go.ChangeShapes Go.WideShapes Go.ChangeAt Go.RowKit
namespace Go.Proofs.Ytfjdfnlkobeehaa
end Go.Proofs.Ytfjdfnlkobeehaa
end
