/- Part 46 of the way to the statement: the walk and what it needs. -/
import Derived.Test.YtfjdfnlkobeehaaGreatKKeF37
import Derived.Test.YtfjdfnlkobeehaaGreatKKeF39
import Derived.Test.YtfjdfnlkobeehaaGreatKKeF43
import Derived.Test.YtfjdfnlkobeehaaGreatKKeF45
section
set_option maxRecDepth 100000
set_option linter.unusedVariables false
set_option linter.unusedSimpArgs false
namespace Go.Proofs.YtfjdfnlkobeehaaGreat

section
variable {m : List (List (Bool × List Nat))} {B n : Nat}
def mDet (m : List (List (Bool × List Nat))) (c : Int) : Int × Int :=
  if wrongM m c || decide ((m.length : Int) ≠ c) then (0, 1) else if 32 < (D (detZ (m.map vals) c.toNat).natAbs).length then (0, 2) else (detZ (m.map vals) c.toNat, 0)

end
end Go.Proofs.YtfjdfnlkobeehaaGreat
end

section
set_option maxRecDepth 100000
set_option linter.unusedVariables false
set_option linter.unusedSimpArgs false
namespace Go.Proofs.YtfjdfnlkobeehaaGreat


end Go.Proofs.YtfjdfnlkobeehaaGreat
end

section
set_option maxRecDepth 100000
set_option linter.unusedVariables false
set_option linter.unusedSimpArgs false
namespace Go.Proofs.YtfjdfnlkobeehaaGreat

theorem dropH_at (D : Nat → Bool) (H : Nat → Option (List PV)) (i : Nat) : dropH D H i = if D i = true then none else H i := rfl
end Go.Proofs.YtfjdfnlkobeehaaGreat
end

section
set_option maxRecDepth 100000
set_option linter.unusedVariables false
set_option linter.unusedSimpArgs false
namespace Go.Proofs.YtfjdfnlkobeehaaGreat

def loopsC : Code → List Code
  | .seq x y => loopsC x ++ loopsC y
  | .cond _ x y => loopsC x ++ loopsC y
  | .block _ x => loopsC x
  | .scope x => loopsC x
  | .loop x => .loop x :: loopsC x
  | _ => []
def loopN (fn : Func) (k : Nat) : Code := ((fn.body.map loopsC).getD []).getD k .skip
theorem LW.ofLoop {P : Program} {fn : Func} {k : Nat} {x : Code} {c : Cx} {Q : Exit → PS → Prop} {s : PS} (h : loopN fn k = Code.loop x) (hw : LW P c (.loop x) Q s) : LW P c (loopN fn k) Q s := h ▸ hw
end Go.Proofs.YtfjdfnlkobeehaaGreat
end

section
set_option maxRecDepth 100000
set_option linter.unusedVariables false
set_option linter.unusedSimpArgs false
namespace Go.Proofs.YtfjdfnlkobeehaaGreat.Ref
open YtfjdfnlkobeehaaGreat (SWc SW WX WC WV vals vals_len SM lenM Rn vc vc_lt SW_def SM_def cZ get_SM' getD_take getD_mem getD_vals wrongM swp_bd swp_swp swp_ge)

def QR (q : Rat) : List PV := [.val (.bool (decide (q.num < 0))), .sl (D q.num.natAbs).length ((D q.num.natAbs).map I), .val (.bool false), .sl (D q.den).length ((D q.den).map I)]
def QC (qs : List Rat) : List PV := qs.flatMap QR
theorem QC_cons (q : Rat) (qs : List Rat) : QC (q :: qs) = .val (.bool (decide (q.num < 0))) :: .sl (D q.num.natAbs).length ((D q.num.natAbs).map I) :: .val (.bool false) :: .sl (D q.den).length ((D q.den).map I) :: QC qs := rfl
theorem QC_app (x y : List Rat) : QC (x ++ y) = QC x ++ QC y := by unfold QC; rw [List.flatMap_append]
theorem QC_len : ∀ qs : List Rat, (QC qs).length = qs.length * 4
  | [] => rfl
  | q :: qs => by rw [QC_cons]; simp only [List.length_cons, QC_len qs]; omega
theorem QC_drop : ∀ (qs : List Rat) (c : Nat), (QC qs).drop (c * 4) = QC (qs.drop c)
  | qs, 0 => rfl
  | [], c + 1 => by simp [QC]
  | q :: qs, c + 1 => by
    rw [Nat.succ_mul, QC_cons]
    exact QC_drop qs c
theorem QC_take : ∀ (qs : List Rat) (c : Nat), (QC qs).take (c * 4) = QC (qs.take c)
  | qs, 0 => by simp [QC]
  | [], c + 1 => by simp [QC]
  | q :: qs, c + 1 => by
    rw [Nat.succ_mul, QC_cons]
    show _ :: _ :: _ :: _ :: (QC qs).take (c * 4) = _
    rw [QC_take qs c]; rfl

def qv (qs : List Rat) (k : Nat) : Rat := qs.getD k 0
theorem qv_lt {qs : List Rat} {k : Nat} (h : k < qs.length) : qv qs k = qs[k] := by simp [qv, h]
theorem QC_at {qs : List Rat} {c : Nat} (r : List PV) (h : c < qs.length) : (QC qs ++ r).drop (c * 4) = .val (.bool (decide ((qv qs c).num < 0))) :: .sl (D (qv qs c).num.natAbs).length ((D (qv qs c).num.natAbs).map I) :: .val (.bool false) :: .sl (D (qv qs c).den).length ((D (qv qs c).den).map I) :: (QC (qs.drop (c + 1)) ++ r) := by
  rw [List.drop_append_of_le_length (by rw [QC_len]; omega), QC_drop, List.drop_eq_getElem_cons h, QC_cons, qv_lt h]; rfl
theorem QC_set {qs : List Rat} {c : Nat} (r : List PV) (h : c < qs.length) (q : Rat) : spl (QC qs ++ r) (c * 4) [.val (.bool (decide (q.num < 0))), .sl (D q.num.natAbs).length ((D q.num.natAbs).map I), .val (.bool false), .sl (D q.den).length ((D q.den).map I)] = QC (qs.set c q) ++ r := by
  rw [YtfjdfnlkobeehaaGreat.spl_app (by rw [QC_len]; simp; omega)]
  congr 1
  unfold spl
  have h4 : c * 4 + 4 = (c + 1) * 4 := by omega
  simp only [List.length_cons, List.length_nil, Nat.zero_add, Nat.reduceAdd]
  rw [QC_take, h4, QC_drop, List.set_eq_take_append_cons_drop, if_pos h, QC_app]; rfl
end Go.Proofs.YtfjdfnlkobeehaaGreat.Ref
end

section
set_option maxRecDepth 100000
set_option linter.unusedVariables false
set_option linter.unusedSimpArgs false
namespace Go.Proofs.YtfjdfnlkobeehaaGreat.Ref
open YtfjdfnlkobeehaaGreat (SWc SW WX WC WV vals vals_len SM lenM Rn vc vc_lt SW_def SM_def cZ get_SM' getD_take getD_mem getD_vals canZ canZ_len)

def denP (qs : List Rat) : Nat → Nat
  | 0 => 1
  | i + 1 => denP qs i * ((qv qs i).den / Nat.gcd (denP qs i) (qv qs i).den)

def clrL (qs : List Rat) : List Int := qs.map fun q => q.num * ((denP qs qs.length / q.den : Nat) : Int)
theorem clrL_len (qs : List Rat) : (clrL qs).length = qs.length := by simp [clrL]
theorem clrL_vc {qs : List Rat} {i : Nat} (h : i < qs.length) : vc (clrL qs) i = (qv qs i).num * ((denP qs qs.length / (qv qs i).den : Nat) : Int) := by
  rw [vc_lt (by rw [clrL_len]; exact h), qv_lt h]; simp [clrL]
section
variable {qs : List Rat} {Pv : List Nat} {k f : Nat}
theorem within_z (hl : Pv.length ≤ 1000000) : PT Tryz.prog 48 [.sl Pv.length (Pv.map I), .val (.int .i64 f)] (isV (.val (.bool (decide (f ∈ Pv))))) := by
  refine PCalls.enter (n := 18) (rs := [.tmp 4]) (tb := []) Tryz.func48 rfl rfl rfl (by kernel_rfl) (by kernel_rfl) (by simp) fun c hc ht => ?_
  simp -implicitDefEqProofs (disch := omega) only [go_sem, ht]
  refine LW.loopW hc ht (by kernel_rfl) (fun t => t.sl 0 = .sl Pv.length (Pv.map I) ∧ t.sl 1 = .val (.int .i64 f) ∧ ∃ i : Nat, i ≤ Pv.length ∧ t.sl 5 = .val (.int .i64 i) ∧ f ∉ Pv.take i)
    (fun t => match t.sl 5 with | .val (.int _ k) => Pv.length - k.toNat | _ => 0) ?_ ?_
  · simp -implicitDefEqProofs (disch := omega) only [go_sem, ht]
    exact ⟨0, Nat.zero_le _, rfl, by simp⟩
  · rintro t ⟨h0, h1, i, hi, h5, hno⟩
    by_cases hil : i = Pv.length
    · subst hil
      rw [List.take_length] at hno
      rw [decide_eq_false hno]
      simp -implicitDefEqProofs (disch := omega) only [go_sem, ht, h0, h1, h5]
      (refine end_treeW 0 ?_; simp -implicitDefEqProofs (disch := omega) only [go_sem, ht])
    · have hlt : i < Pv.length := by omega
      have hgp : (Pv.map I)[i]? = some (.val (.int .i64 (Pv.getD i 0 : Nat))) := by simp [hlt, I]
      have hst := getD_take (d := 0) hlt
      have hmem := getD_mem (d := 0) hlt
      by_cases he : Pv.getD i 0 = f
      · rw [decide_eq_true (by rw [← he]; exact hmem)]
        rw [he] at hgp
        simp -implicitDefEqProofs (disch := omega) only [go_sem, ht, h0, h1, h5, hgp]
        (refine end_treeW 0 ?_; simp -implicitDefEqProofs (disch := omega) only [go_sem, ht])
      · have hei : ¬ ((Pv.getD i 0 : Nat) : Int) = (f : Int) := by omega
        have hno2 : f ∉ Pv.take (i + 1) := fun h => by
          rw [hst] at h
          rcases List.mem_append.1 h with h | h
          · exact hno h
          · exact he (List.mem_singleton.1 h).symm
        generalize Pv.getD i 0 = p at *
        simp -implicitDefEqProofs (disch := omega) only [go_sem, ht, h0, h1, h5, hgp, hei]
        exact ⟨⟨i + 1, by omega, rfl, hno2⟩, by omega⟩
theorem denP_pos (qs : List Rat) : ∀ i, denP qs i ≠ 0
  | 0 => by show 1 ≠ 0; decide
  | i + 1 => by
    have h1 := denP_pos qs i
    have hd := (qv qs i).den_pos
    have hg : Nat.gcd (denP qs i) (qv qs i).den ∣ (qv qs i).den := Nat.gcd_dvd_right _ _
    have := Nat.div_pos (Nat.le_of_dvd hd hg) (Nat.gcd_pos_of_pos_right _ hd)
    exact Nat.mul_ne_zero h1 (by omega)
theorem nn_int (n : Nat) : sg (decide ((n : Int) < 0)) n = n := by rw [decide_eq_false (by omega)]; rfl
set_option maxHeartbeats 8000000 in
theorem cleared_z (hn : ∀ i, i < qs.length → Z k (qv qs i).num) (hd : ∀ i, i < qs.length → (qv qs i).den < 4294967296 ^ k) (hL : ∀ i, i ≤ qs.length → denP qs i < 4294967296 ^ k) (hk : 2 * k ≤ 100000) (hlen : qs.length ≤ 1000000) :
    PT Tryz.prog 53 [.sl qs.length (QC qs)] (isV (SN (canZ (clrL qs)))) := by
  have hcl := clrL_len qs
  have hz : ∀ x ∈ clrL qs, Z (2 * k) x := fun x hx => by
    obtain ⟨i, hi, rfl⟩ := List.mem_iff_getElem.1 hx
    rw [hcl] at hi
    rw [← vc_lt, clrL_vc hi]
    exact Zn _ (hn i hi) (Nat.lt_of_le_of_lt (Nat.div_le_self _ _) (hL _ (Nat.le_refl _)))
  have hcn := canon_z hz hk (by omega)
  have hcc := canZ_len (clrL qs)
  rw [SN_def, hcl] at hcn
  have hi1 := int_z (v := 1) (by omega) (by omega)
  rw [show ((1 : Int)) = ((1 : Nat) : Int) from rfl, NZ_nat_def] at hi1
  generalize hr : canZ (clrL qs) = r at *
  refine PCalls.enter (n := 53) (rs := [.tmp 2]) (tb := [(5, [(0, []), (1, []), (2, []), (3, []), (4, []), (5, []), (6, []), (7, []), (8, []), (9, []), (10, []), (11, []), (12, [0, 1, 2, 3, 4, 5]), (13, [0]), (14, []), (15, [])]), (1000005, [(0, []), (0, []), (0, []), (6, []), (14, []), (30, []), (0, []), (0, []), (0, []), (384, []), (896, []), (1920, []), (4032, []), (8190, []), (16383, []), (32767, [])]), (10, [(0, []), (1, []), (2, []), (3, []), (4, []), (5, []), (6, []), (7, []), (8, []), (9, []), (10, []), (11, []), (12, [0, 1, 2, 3, 4, 5]), (13, [0]), (14, [0]), (15, []), (16, [])]), (1000010, [(0, []), (0, []), (0, []), (6, []), (14, []), (30, []), (0, []), (0, []), (0, []), (384, []), (896, []), (1920, []), (4032, []), (8190, []), (16382, []), (32767, []), (65535, [])])]) Tryz.func53 rfl rfl rfl (by kernel_rfl) (by kernel_rfl) (by simp) fun c hc ht => ?_
  simp -implicitDefEqProofs (disch := omega) only [go_sem, ht]
  (refine pCall_vw (by refine ⟨⟨?_, ?_⟩, ?_, ?_⟩; rotate_left 2; (first | (right; rintro r rfl; rfl) | left); all_goals ((try simp -implicitDefEqProofs (disch := omega) only [go_sem, ht]) <;> rfl)) (hi1) ?_; rintro _ nx - rfl hnx; simp -implicitDefEqProofs (disch := omega) only [go_sem, ht])
  have hbx : ∃ b, b = nx := ⟨_, rfl⟩
  obtain ⟨b, eb⟩ := hbx
  rw [← eb]
  refine LW.loopW hc ht (by kernel_rfl) (fun t => t.sl 0 = .sl qs.length (QC qs) ∧ t.sl 3 = .ptr b 0 ∧ b < t.nx ∧ ∃ i : Nat, i ≤ qs.length ∧ t.sl 4 = .val (.int .i64 i) ∧ t.H b = some [.val (.bool false), .sl (D (denP qs i)).length ((D (denP qs i)).map I)])
    (fun t => match t.sl 4 with | .val (.int _ k) => qs.length - k.toNat | _ => 0) ?_ ?_
  · simp -implicitDefEqProofs (disch := omega) only [go_sem, ht, eb]
    exact ⟨by omega, 0, Nat.zero_le _, rfl, rfl⟩
  · rintro t ⟨h0, h3, hb, i, hi, h4, hH⟩
    by_cases hil : i = qs.length
    · subst hil
      obtain ⟨L, eL⟩ : ∃ L, denP qs qs.length = L := ⟨_, rfl⟩
      have hL0 : L < 4294967296 ^ k := by rw [← eL]; exact hL _ (Nat.le_refl _)
      rw [eL] at hH
      simp -implicitDefEqProofs (disch := omega) only [go_sem, ht, h0, h3, h4]
      refine LW.ghost (Gh.nilW 5 2 (by simp -implicitDefEqProofs (disch := omega) only [go_sem, ht])) ?_
      refine LW.loopW hc ht (by kernel_rfl) (fun u => u.sl 0 = .sl qs.length (QC qs) ∧ u.sl 3 = .ptr b 0 ∧ b < u.nx ∧ u.H b = some [.val (.bool false), .sl (D L).length ((D L).map I)] ∧ ∃ i : Nat, i ≤ qs.length ∧ u.sl 6 = .val (.int .i64 i) ∧
          ∃ (id cap : Nat) (rest : List Value), u.sl 5 = .ref id 0 i cap 2 ∧ u.H id = some (SNc ((clrL qs).take i) ++ rest.map .val) ∧ i * 2 + rest.length = cap * 2 ∧ id < u.nx ∧ b < id)
        (fun u => match u.sl 6 with | .val (.int _ k) => qs.length - k.toNat | _ => 0) ?_ ?_
      · have hbn : b ≠ t.nx := by omega
        simp -implicitDefEqProofs (disch := omega) only [go_sem, ht, h0, h3, hbn]
        exact ⟨hH, 0, Nat.zero_le _, rfl, _, 0, [], rfl, upd_self _ _ _, rfl, by omega, by omega⟩
      · clear h0 h3 h4 hb hH
        rintro u ⟨h0, h3, hb, hH, i, hi, h6, id, cap, rest, h5, hHi, hcap, hid, hbid⟩
        by_cases hil : i = qs.length
        · subst hil
          rw [List.take_of_length_le (by omega)] at hHi
          have htk := take_SNc (clrL qs) (rest.map .val) (n := qs.length) (by omega)
          have hl2 := SNc_len (clrL qs)
          have hle : qs.length * 2 ≤ (SNc (clrL qs)).length + rest.length := by omega
          simp -implicitDefEqProofs (disch := omega) only [go_sem, ht, h0, h3, h5, h6]
          (refine pCall_frz (fun _ => true) 1 (by simp -implicitDefEqProofs (disch := omega) only [hHi, htk, hle, go_sem, ht] <;> rfl) (by simp -implicitDefEqProofs (disch := omega) only [hHi, htk, hle, go_sem, ht]) (by simp -implicitDefEqProofs (disch := omega) only [hHi, htk, hle, go_sem, ht] <;> rfl) (by simp -implicitDefEqProofs (disch := omega) only [hHi, htk, hle, go_sem, ht]) (hcn) ?_; rintro _ nx - rfl hnx; (try simp only [put_nx, withH_nx, begP_nx] at hnx); simp -implicitDefEqProofs (disch := omega) only [hHi, htk, hle, go_sem, ht])
          (refine end_treeW 2 ?_; simp -implicitDefEqProofs (disch := omega) only [go_sem, ht])
        · have hlt : i < qs.length := by omega
          have hat := QC_at [] hlt
          rw [List.append_nil] at hat
          have hst := clrL_vc hlt
          rw [eL] at hst
          have hov := over_z (k := k) (x := ((L : Nat) : Int)) (g := (qv qs i).den) hL0 (hd i hlt) (by omega) (qv qs i).den_nz
          rw [Int.natAbs_natCast, show decide (((L : Nat) : Int) < 0) = false from decide_eq_false (by omega)] at hov
          change PT _ _ _ (isV (NZ ((L / (qv qs i).den : Nat) : Int))) at hov
          have hmu := mul_zn (k := k) (n := L / (qv qs i).den) (hn i hlt) (Nat.lt_of_le_of_lt (Nat.div_le_self _ _) hL0) (by omega)
          rw [← hst] at hmu
          rw [NZ_nat_def, NZ_nat_def, NZ_nat_def] at hov
          rw [NZ_nat_def] at hmu
          have htk := SNc_take (zs := clrL qs) (i := i) (by omega)
          have hln : (SNc ((clrL qs).take i)).length = i * 2 := by rw [SNc_len, List.length_take]; omega
          rw [NZ_def, NZ_def] at hmu
          clear hst
          generalize L / (qv qs i).den = e at *
          generalize vc (clrL qs) i = y at *
          simp -implicitDefEqProofs (disch := omega) only [go_sem, ht, h0, h3, h5, h6, hH, hat]
          ((refine pCall_vw (by refine ⟨⟨?_, ?_⟩, ?_, ?_⟩; rotate_left 2; (first | (right; rintro r rfl; rfl) | left); all_goals ((try simp -implicitDefEqProofs (disch := omega) only [h0, h3, h5, h6, hH, hat, go_sem, ht]) <;> rfl)) (hov) ?_; rintro _ nx_1 - rfl hnx_1; simp -implicitDefEqProofs (disch := omega) only [h0, h3, h5, h6, hH, hat, go_sem, ht]); (refine pCall_vw (by refine ⟨⟨?_, ?_⟩, ?_, ?_⟩; rotate_left 2; (first | (right; rintro r rfl; rfl) | left); all_goals ((try simp -implicitDefEqProofs (disch := omega) only [h0, h3, h5, h6, hH, hat, go_sem, ht]) <;> rfl)) (hmu) ?_; rintro _ nx_2 - rfl hnx_2; simp -implicitDefEqProofs (disch := omega) only [h0, h3, h5, h6, hH, hat, go_sem, ht]))
          have hne : id ≠ nx_2 := by omega
          (refine append_ownSX (by refine ⟨?_, ?_, ?_, ?_, ?_, ?_, ?_, ?_⟩ <;> (simp -implicitDefEqProofs (disch := omega) only [srcP_ref, srcP_sl, srcP_nil, Option.isSome_some, hHi, go_sem, ht] <;> rfl)) (by rfl) (by first | omega | (simp <;> omega)) (by first | assumption | (simp <;> omega)) (by first | rfl | simp) (by first | omega | (simp <;> omega)) ?_; intro id1 cap1 rest1 H1 nx1 hH1 hcap1 hid1 hnx1 hfr1 hfs1; simp only [put_nx, withH_nx, put_H, withH_H] at hid1 hnx1 hfr1 hfs1)
          rw [htk] at hH1
          have hA : H1 b = some [.val (.bool false), .sl (D L).length ((D L).map I)] := by rw [hfr1 b (by omega) (by omega)]; simp -implicitDefEqProofs (disch := omega) only [go_sem, ht, hH]
          simp -implicitDefEqProofs (disch := omega) only [go_sem, ht, h0, h3, h5, h6]
          exact ⟨⟨by omega, hA, i + 1, by omega, rfl, id1, cap1, rest1, rfl, hH1, by omega, by omega, by omega⟩, by omega⟩
    · have hlt : i < qs.length := by omega
      have hat := QC_at [] hlt
      rw [List.append_nil] at hat
      have hLi := hL i (by omega)
      have hLs := hL (i + 1) (by omega)
      have hst : denP qs (i + 1) = denP qs i * ((qv qs i).den / Nat.gcd (denP qs i) (qv qs i).den) := rfl
      have hgp : 0 < Nat.gcd (denP qs i) (qv qs i).den := Nat.gcd_pos_of_pos_right _ (qv qs i).den_pos
      have hgl : Nat.gcd (denP qs i) (qv qs i).den ≤ (qv qs i).den := Nat.le_of_dvd (qv qs i).den_pos (Nat.gcd_dvd_right _ _)
      have hgz := gcd_z (k := k) (a := ((denP qs i : Nat) : Int)) (b := (((qv qs i).den : Nat) : Int)) hLi (hd i hlt) (by omega)
      rw [show Int.gcd ((denP qs i : Nat) : Int) (((qv qs i).den : Nat) : Int) = Nat.gcd (denP qs i) (qv qs i).den from rfl] at hgz
      have hov := over_z (k := k) (x := (((qv qs i).den : Nat) : Int)) (g := Nat.gcd (denP qs i) (qv qs i).den) (hd i hlt) (Nat.lt_of_le_of_lt hgl (hd i hlt)) (by omega) (by omega)
      rw [Int.natAbs_natCast, show decide ((((qv qs i).den : Nat) : Int) < 0) = false from decide_eq_false (by omega)] at hov
      change PT _ _ _ (isV (NZ (((qv qs i).den / Nat.gcd (denP qs i) (qv qs i).den : Nat) : Int))) at hov
      have hmu := mul_nn (k := k) (m := denP qs i) (n := (qv qs i).den / Nat.gcd (denP qs i) (qv qs i).den) hLi (Nat.lt_of_le_of_lt (Nat.div_le_self _ _) (hd i hlt)) (by omega)
      rw [← hst] at hmu
      rw [NZ_nat_def, NZ_nat_def, NZ_nat_def] at hgz hov hmu
      clear hst hgp hgl
      obtain ⟨L2, eL2⟩ : ∃ L2, denP qs (i + 1) = L2 := ⟨_, rfl⟩
      rw [eL2] at hmu
      generalize (qv qs i).den / Nat.gcd (denP qs i) (qv qs i).den = e at *
      generalize Nat.gcd (denP qs i) (qv qs i).den = g at *
      generalize denP qs i = L1 at *
      generalize (qv qs i).den = dd at *
      simp -implicitDefEqProofs (disch := omega) only [go_sem, ht, h0, h3, h4, hH, hat]
      ((refine pCall_vw (by refine ⟨⟨?_, ?_⟩, ?_, ?_⟩; rotate_left 2; (first | (right; rintro r rfl; rfl) | left); all_goals ((try simp -implicitDefEqProofs (disch := omega) only [h0, h3, h4, hH, hat, go_sem, ht]) <;> rfl)) (hgz) ?_; rintro _ nx_3 - rfl hnx_3; simp -implicitDefEqProofs (disch := omega) only [h0, h3, h4, hH, hat, go_sem, ht]); (refine pCall_vw (by refine ⟨⟨?_, ?_⟩, ?_, ?_⟩; rotate_left 2; (first | (right; rintro r rfl; rfl) | left); all_goals ((try simp -implicitDefEqProofs (disch := omega) only [h0, h3, h4, hH, hat, go_sem, ht]) <;> rfl)) (hov) ?_; rintro _ nx_4 - rfl hnx_4; simp -implicitDefEqProofs (disch := omega) only [h0, h3, h4, hH, hat, go_sem, ht]); (refine pCall_vw (by refine ⟨⟨?_, ?_⟩, ?_, ?_⟩; rotate_left 2; (first | (right; rintro r rfl; rfl) | left); all_goals ((try simp -implicitDefEqProofs (disch := omega) only [h0, h3, h4, hH, hat, go_sem, ht]) <;> rfl)) (hmu) ?_; rintro _ nx_5 - rfl hnx_5; simp -implicitDefEqProofs (disch := omega) only [h0, h3, h4, hH, hat, go_sem, ht]))
      exact ⟨⟨by omega, i + 1, by omega, rfl, by rw [eL2]⟩, by omega⟩
end
end Go.Proofs.YtfjdfnlkobeehaaGreat.Ref
end

section
set_option maxRecDepth 100000
set_option linter.unusedVariables false
set_option linter.unusedSimpArgs false
namespace Go.Proofs.YtfjdfnlkobeehaaGreat
open Ref (denP clrL clrL_len clrL_vc qv_lt denP_pos)
theorem denP_lcm (qs : List Rat) (i : Nat) : denP qs (i + 1) = Nat.lcm (denP qs i) (Ref.qv qs i).den := by
  show denP qs i * ((Ref.qv qs i).den / Nat.gcd (denP qs i) (Ref.qv qs i).den) = _
  rw [← Nat.mul_div_assoc _ (Nat.gcd_dvd_right _ _)]; rfl
theorem denP_dvd {qs : List Rat} {X : Nat} : ∀ {i : Nat}, (∀ j, j < i → (Ref.qv qs j).den ∣ X) → denP qs i ∣ X
  | 0, _ => Nat.one_dvd _
  | i + 1, h => by rw [denP_lcm]; exact Nat.lcm_dvd (denP_dvd fun j hj => h j (by omega)) (h i (by omega))
theorem den_dvd {qs : List Rat} {j : Nat} : ∀ {i : Nat}, j < i → (Ref.qv qs j).den ∣ denP qs i
  | 0, h => by omega
  | i + 1, h => by
    rw [denP_lcm]
    by_cases e : j = i
    · subst e; exact Nat.dvd_lcm_right _ _
    · exact Nat.dvd_trans (den_dvd (by omega)) (Nat.dvd_lcm_left _ _)

def nulV (T : List (List Int)) (Pv : List Nat) (f cols : Nat) : Nat → List Rat
  | 0 => (List.replicate cols 0).set f 1
  | i + 1 => (nulV T Pv f cols i).set (Pv.getD i 0) (Rat.divInt (-vc (T.getD i []) f) (vc (T.getD i []) (Pv.getD i 0)))
theorem nulV_len {T : List (List Int)} {Pv : List Nat} {f cols : Nat} : ∀ i, (nulV T Pv f cols i).length = cols
  | 0 => by simp [nulV]
  | i + 1 => by rw [nulV, List.length_set]; exact nulV_len i
theorem vc_set' (z : List Int) (p : Nat) (x : Int) (j : Nat) : vc (z.set p x) j = if p = j ∧ p < z.length then x else vc z j := by
  unfold vc
  rw [List.getD_eq_getElem?_getD, List.getElem?_set]
  by_cases h : p = j
  · subst h
    by_cases hp : p < z.length <;> simp [hp]
  · simp [h]
theorem qv_set' (z : List Rat) (p : Nat) (x : Rat) (j : Nat) : Ref.qv (z.set p x) j = if p = j ∧ p < z.length then x else Ref.qv z j := by
  unfold Ref.qv
  rw [List.getD_eq_getElem?_getD, List.getElem?_set]
  by_cases h : p = j
  · subst h
    by_cases hp : p < z.length <;> simp [hp]
  · simp [h]
theorem vc_repl (n j : Nat) : vc (List.replicate n 0) j = 0 := by
  unfold vc
  rw [List.getD_eq_getElem?_getD, List.getElem?_replicate]
  split <;> rfl
theorem qv_repl (n j : Nat) : Ref.qv (List.replicate n 0) j = 0 := by
  unfold Ref.qv
  rw [List.getD_eq_getElem?_getD, List.getElem?_replicate]
  split <;> rfl
section
variable {T : List (List Int)} {Pv : List Nat} {cols f κ : Nat}
theorem nul_ag (h : RE T Pv cols) (j : Nat) : ∀ n, n ≤ Pv.length → (vc (agZ T Pv f cols n) j : Rat) = (lcP T Pv Pv.length : Rat) * Ref.qv (nulV T Pv f cols n) j
  | 0, _ => by
    show (vc ((List.replicate cols 0).set f (lcP T Pv Pv.length)) j : Rat) = _
    rw [nulV, vc_set', qv_set', List.length_replicate, List.length_replicate, vc_repl, qv_repl]
    split <;> grind
  | n + 1, hn => by
    have ih := nul_ag h j n (by omega)
    show (vc ((agZ T Pv f cols n).set (Pv.getD n 0) (-(lcP T Pv Pv.length / vc (T.getD n []) (Pv.getD n 0) * vc (T.getD n []) f))) j : Rat) = _
    rw [nulV, vc_set', qv_set', agZ_len, nulV_len]
    have hd := piv_dvd (T := T) (Pv := Pv) (show n < Pv.length by omega)
    have hp := h.pivD (show n < Pv.length by omega)
    split
    · obtain ⟨c, hc⟩ := hd
      rw [hc, Int.mul_ediv_cancel_left _ (by omega), Rat.divInt_eq_div]
      generalize vc (T.getD n []) (Pv.getD n 0) = p at *
      have hp0 : (p : Rat) ≠ 0 := by
        have : p ≠ 0 := by omega
        exact_mod_cast this
      push_cast
      grind
    · exact ih
theorem nul_int (h : RE T Pv cols) (j : Nat) : vc (agZ T Pv f cols Pv.length) j * ((Ref.qv (nulV T Pv f cols Pv.length) j).den : Int) = lcP T Pv Pv.length * (Ref.qv (nulV T Pv f cols Pv.length) j).num := by
  have h1 := nul_ag (f := f) h j Pv.length (Nat.le_refl _)
  generalize Ref.qv (nulV T Pv f cols Pv.length) j = q at *
  have hd : (q.den : Rat) ≠ 0 := by
    have := q.den_nz
    exact_mod_cast this
  have hq : (q.num : Rat) = q * q.den := by
    have := Rat.num_divInt_den q
    rw [Rat.divInt_eq_div] at this
    push_cast at this
    grind
  have : (vc (agZ T Pv f cols Pv.length) j : Rat) * (q.den : Rat) = (lcP T Pv Pv.length : Rat) * (q.num : Rat) := by
    rw [hq, h1]; grind
  exact_mod_cast this
theorem nul_den (h : RE T Pv cols) (j : Nat) : (Ref.qv (nulV T Pv f cols Pv.length) j).den ∣ (lcP T Pv Pv.length).natAbs := by
  have h1 := congrArg Int.natAbs (nul_int (f := f) h j)
  rw [Int.natAbs_mul, Int.natAbs_mul, Int.natAbs_natCast] at h1
  generalize Ref.qv (nulV T Pv f cols Pv.length) j = q at *
  exact q.reduced.symm.dvd_of_dvd_mul_right ⟨_, by rw [← h1, Nat.mul_comm]⟩
theorem nul_num (h : RE T Pv cols) (j : Nat) (hz : Z κ (vc (agZ T Pv f cols Pv.length) j)) : Z κ (Ref.qv (nulV T Pv f cols Pv.length) j).num := by
  have h0 := nul_int (f := f) h j
  have h1 := congrArg Int.natAbs h0
  rw [Int.natAbs_mul, Int.natAbs_mul, Int.natAbs_natCast] at h1
  have hL := lcP_ne h _ (Nat.le_refl Pv.length)
  generalize Ref.qv (nulV T Pv f cols Pv.length) j = q at *
  generalize vc (agZ T Pv f cols Pv.length) j = x at *
  by_cases hx : x = 0
  · rw [hx, Int.zero_mul] at h0
    rw [(Int.mul_eq_zero.1 h0.symm).resolve_left hL]
    exact Z.zero κ
  · have hd : q.num.natAbs ∣ x.natAbs := q.reduced.dvd_of_dvd_mul_right ⟨(lcP T Pv Pv.length).natAbs, by rw [h1, Nat.mul_comm]⟩
    exact Z.le hz (Nat.le_of_dvd (by omega) hd)
theorem nul_lc (h : RE T Pv cols) (i : Nat) : denP (nulV T Pv f cols Pv.length) i ≤ (lcP T Pv Pv.length).natAbs := by
  have hL := lcP_ne h _ (Nat.le_refl Pv.length)
  exact Nat.le_of_dvd (by omega) (denP_dvd fun j _ => nul_den h j)

theorem nul_can (h : RE T Pv cols) : canZ (clrL (nulV T Pv f cols Pv.length)) = canZ (agZ T Pv f cols Pv.length) := by
  have hL := lcP_ne h _ (Nat.le_refl Pv.length)
  have hM := denP_pos (nulV T Pv f cols Pv.length) (nulV T Pv f cols Pv.length).length
  have hql := nulV_len (T := T) (Pv := Pv) (f := f) (cols := cols) Pv.length
  have hal := agZ_len (T := T) (Pv := Pv) (f := f) (cols := cols) Pv.length
  have key : mulL (lcP T Pv Pv.length) (clrL (nulV T Pv f cols Pv.length)) = mulL (denP (nulV T Pv f cols Pv.length) (nulV T Pv f cols Pv.length).length : Nat) (agZ T Pv f cols Pv.length) := by
    refine List.ext_getElem (by rw [mulL_len, mulL_len, clrL_len, hql, hal]) fun j h1 h2 => ?_
    rw [← vc_lt, ← vc_lt, mulL_vc, mulL_vc]
    rw [mulL_len, clrL_len] at h1
    rw [clrL_vc h1]
    have hi := nul_int (f := f) h j
    obtain ⟨e, he⟩ := den_dvd (qs := nulV T Pv f cols Pv.length) h1
    have hd := (Ref.qv (nulV T Pv f cols Pv.length) j).den_pos
    rw [he, Nat.mul_div_cancel_left _ hd]
    generalize Ref.qv (nulV T Pv f cols Pv.length) j = q at *
    generalize vc (agZ T Pv f cols Pv.length) j = x at *
    generalize lcP T Pv Pv.length = L at *
    rw [← Int.mul_assoc, ← hi, Int.natCast_mul]
    rw [Int.mul_comm x, Int.mul_assoc, Int.mul_comm x, Int.mul_assoc]
  have := congrArg canZ key
  rwa [canZ_mul hL, canZ_mul (by omega)] at this
end
theorem canZ_short {z : List Int} {j : Nat} : (vc (canZ z) j).natAbs ≤ (vc z j).natAbs := by
  have h1 := primZ_vc z j
  have h2 := upZ_abs (primZ z) j
  show (vc (upZ (primZ z)) j).natAbs ≤ _
  rw [h2]
  by_cases h0 : gcdL z = 0
  · have hz := gcdL_zero.1 h0
    by_cases hj : j < (primZ z).length
    · have hj' := hj
      rw [primZ_len] at hj'
      rw [vc_lt hj]
      simp only [primZ, List.getElem_map]
      rw [hz _ (List.getElem_mem hj')]; simp
    · rw [vc_ge (by omega)]; simp
  · rw [← h1, Int.natAbs_mul, Int.natAbs_natCast]
    exact Nat.le_mul_of_pos_left _ (by omega)
theorem lenW_le' : ∀ {z w : List Int}, w.length = z.length → (∀ j, (vc w j).natAbs ≤ (vc z j).natAbs) → lenW (CZ w) ≤ lenW (CZ z)
  | [], [], _, _ => Nat.le_refl _
  | x :: z, y :: w, hl, h => by
    have ih := lenW_le' (z := z) (w := w) (by simpa using hl) fun j => h (j + 1)
    have h0 : y.natAbs ≤ x.natAbs := h 0
    have h1 : (D y.natAbs).length ≤ (D x.natAbs).length := by
      refine D_len_le.2 ?_
      exact Nat.lt_of_le_of_lt h0 (D_len_le.1 (Nat.le_refl _))
    show lenW (toC y :: CZ w) ≤ lenW (toC x :: CZ z)
    simp only [lenW, toC]
    omega
  | [], _ :: _, hl, _ => by simp at hl
  | _ :: _, [], hl, _ => by simp at hl
theorem lenM_can : ∀ W : List (List Int), lenM ((W.map canZ).map CZ) ≤ lenM (W.map CZ)
  | [] => Nat.le_refl _
  | z :: W => by
    have ih := lenM_can W
    have h1 := lenW_le' (z := z) (w := canZ z) (canZ_len z) fun j => canZ_short
    simp only [List.map_cons, lenM, List.sum_cons] at ih ⊢
    omega

theorem ech_can {W : List (List Int)} {cols B : Nat} (hM : Mx (W.map CZ) B) (hc : ∀ z ∈ W, z.length = cols) : echT (W.map canZ) cols = echT W cols ∧ (echW (W.map canZ) cols).2 = (echW W cols).2 := by
  have hM' : Mx ((W.map canZ).map CZ) B := ⟨fun l hl p hp => by
    obtain ⟨z, _, rfl⟩ := List.mem_map.1 hl
    exact CZ_lm z p hp, Nat.le_trans (lenM_can W) hM.len, hM.hB⟩
  have := ech_same (cols := cols) hM' hM (fun l hl => by
      obtain ⟨z, hz, rfl⟩ := List.mem_map.1 hl
      obtain ⟨y, hy, rfl⟩ := List.mem_map.1 hz
      rw [CZ_len, canZ_len]; exact hc y hy) (fun l hl => by
      obtain ⟨z, hz, rfl⟩ := List.mem_map.1 hl
      rw [CZ_len]; exact hc z hz) (fun r hr => ?_) (fun r hr => ?_)
  · rwa [map_vals_CZ, map_vals_CZ] at this
  · rw [map_vals_CZ] at hr ⊢
    obtain ⟨z, hz, rfl⟩ := rows_mem'.1 hr
    obtain ⟨y, hy, rfl⟩ := List.mem_map.1 hz
    obtain ⟨s, t, hs, ht, h⟩ := Ln.can y
    exact (Sp.mem (rows_mem'.2 ⟨y, hy, rfl⟩)).scale hs h
  · rw [map_vals_CZ] at hr ⊢
    obtain ⟨y, hy, rfl⟩ := rows_mem'.1 hr
    obtain ⟨s, t, hs, ht, h⟩ := Ln.can y
    exact (Sp.mem (rows_mem'.2 ⟨canZ y, List.mem_map.2 ⟨y, hy, rfl⟩, rfl⟩)).scale ht fun j => (h j).symm
end Go.Proofs.YtfjdfnlkobeehaaGreat
end

section
set_option maxRecDepth 100000
set_option linter.unusedVariables false
set_option linter.unusedSimpArgs false
namespace Go.Proofs.YtfjdfnlkobeehaaGreat.Ref
open YtfjdfnlkobeehaaGreat (SWc SW WX WC WV vals vals_len SM lenM Rn vc vc_lt SW_def SM_def cZ get_SM' getD_take getD_mem getD_vals canZ canZ_len loopN nulV nulV_len frees frees_succ mem_frees echT echW)
theorem QC_flat : ∀ qs : List Rat, flatL (QC qs) = true
  | [] => rfl
  | q :: qs => by rw [QC_cons]; simp [flatL, flat, QC_flat qs, flatL_I]

def NB (T : List (List Int)) (Pv : List Nat) (cols f idO : Nat) (o : PV) (cs : List PV) (t : PS) : Prop :=
  t.sl 1 = .val (.int .i64 cols) ∧ t.sl 5 = .sl Pv.length (T.map SN) ∧ t.sl 6 = .sl Pv.length (Pv.map I) ∧ t.sl 7 = o ∧ t.sl 8 = .val (.int .i64 f) ∧ t.H idO = some cs ∧ idO < t.nx

def nulR (T : List (List Int)) (Pv : List Nat) (cols n : Nat) : List (List Int) := (frees Pv n).map fun f => canZ (clrL (nulV T Pv f cols Pv.length))
theorem nulR_len (T : List (List Int)) (Pv : List Nat) (cols n : Nat) : (nulR T Pv cols n).length = (frees Pv n).length := by simp [nulR]
section
variable {T R : List (List Int)} {Pv : List Nat} {cols f idO b k : Nat} {o : PV} {cs : List PV} {cx : Cx} {Q : Exit → PS → Prop} {s : PS}
theorem zero_q' : PT Tryz.prog 49 [] (isV (QZ (0 : Rat).num (0 : Rat).den)) := zero_q
set_option maxHeartbeats 8000000 in
theorem nul1 (hc : cx.n = 86) (ht : cx.tb = [(16, [(0, []), (1, []), (2, []), (3, []), (4, []), (5, []), (6, []), (7, []), (8, []), (9, []), (10, []), (11, []), (13, []), (14, []), (15, []), (16, []), (17, []), (18, []), (19, []), (20, []), (21, []), (22, []), (12, [0, 1, 2, 3, 4, 13, 14, 15, 16, 17, 18, 19, 20, 21, 22]), (23, [0, 1, 2, 3, 4]), (24, []), (25, [])]), (1000016, [(0, []), (0, []), (0, []), (6, []), (14, []), (0, []), (0, []), (96, []), (224, []), (0, []), (992, []), (2016, []), (4064, []), (0, []), (0, []), (24576, []), (57344, []), (0, []), (0, []), (393216, []), (917504, []), (2088960, []), (4186112, []), (8388576, []), (16777215, []), (33554431, [])])]) (hn : cols ≤ 1000)
    (hI : NB T Pv cols f idO o cs s ∧ s.sl 9 = .ref b 0 cols cols 4 ∧ s.sl 10 = .val (.int .i64 (0 : Nat)) ∧ b < s.nx ∧ idO ≠ b ∧ (∃ cs : List PV, s.H b = some cs ∧ cs.length = cols * 4))
    (hQ : ∀ t : PS, NB T Pv cols f idO o cs t → t.sl 9 = .ref b 0 cols cols 4 → t.H b = some (QC (List.replicate cols 0)) → b < t.nx → Q (.exit 2) t) : LW Tryz.prog cx (loopN Tryz.f25 1) Q s := by
  refine YtfjdfnlkobeehaaGreat.LW.ofLoop rfl ?_
  refine LW.loopW hc ht (by kernel_rfl) (fun t => NB T Pv cols f idO o cs t ∧ t.sl 9 = .ref b 0 cols cols 4 ∧ b < t.nx ∧ ∃ i : Nat, i ≤ cols ∧ t.sl 10 = .val (.int .i64 i) ∧ ∃ ds : List PV, t.H b = some (QC (List.replicate i 0) ++ ds) ∧ ds.length = (cols - i) * 4)
    (fun t => match t.sl 10 with | .val (.int _ k) => cols - k.toNat | _ => 0) ?_ ?_
  · obtain ⟨g1, g9, g10, gb, gne, ds, gH, gl⟩ := hI
    exact ⟨g1, g9, gb, 0, Nat.zero_le _, g10, ds, gH, gl⟩
  have hne := hI.2.2.2.2.1
  rintro t ⟨⟨h1, h5, h6, h7, h8, hO, hOn⟩, h9, hb, i, hi, h10, ds, hH, hl⟩
  by_cases hie : i = cols
  · subst hie
    have : ds = [] := List.eq_nil_of_length_eq_zero (by omega)
    subst this
    rw [List.append_nil] at hH
    simp -implicitDefEqProofs (disch := omega) only [go_sem, ht, h1, h5, h6, h7, h8, h9, h10]
    exact hQ _ ⟨by simp -implicitDefEqProofs (disch := omega) only [go_sem, ht, h1], by simp -implicitDefEqProofs (disch := omega) only [go_sem, ht, h5], by simp -implicitDefEqProofs (disch := omega) only [go_sem, ht, h6], by simp -implicitDefEqProofs (disch := omega) only [go_sem, ht, h7], by simp -implicitDefEqProofs (disch := omega) only [go_sem, ht, h8], by simp -implicitDefEqProofs (disch := omega) only [go_sem, ht, hO], by simp -implicitDefEqProofs (disch := omega) only [go_sem, ht]; exact hOn⟩ (by simp -implicitDefEqProofs (disch := omega) only [go_sem, ht, h9]) (by simp -implicitDefEqProofs (disch := omega) only [go_sem, ht, hH]) (by simp -implicitDefEqProofs (disch := omega) only [go_sem, ht]; exact hb)
  · have hlt : i < cols := by omega
    obtain ⟨x0, x1, x2, x3, ds', rfl⟩ : ∃ x0 x1 x2 x3 ds', ds = x0 :: x1 :: x2 :: x3 :: ds' := by
      match ds, hl with
      | [], h => exfalso; simp at h; omega
      | [_], h => exfalso; simp at h; omega
      | [_, _], h => exfalso; simp at h; omega
      | [_, _, _], h => exfalso; simp at h; omega
      | x0 :: x1 :: x2 :: x3 :: ds', _ => exact ⟨x0, x1, x2, x3, ds', rfl⟩
    have hll : (QC (List.replicate i 0)).length = i * 4 := by rw [QC_len, List.length_replicate]
    have hsp : spl (QC (List.replicate i 0) ++ x0 :: x1 :: x2 :: x3 :: ds') (i * 4) [.val (.bool (decide ((0 : Rat).num < 0))), .sl (D (0 : Rat).num.natAbs).length ((D (0 : Rat).num.natAbs).map I), .val (.bool false), .sl (D (0 : Rat).den).length ((D (0 : Rat).den).map I)] = QC (List.replicate (i + 1) 0) ++ ds' := by
      have e1 : List.take (i * 4) (QC (List.replicate i 0) ++ x0 :: x1 :: x2 :: x3 :: ds') = QC (List.replicate i 0) := List.take_left' hll
      have e2 : List.drop (i * 4 + 4) (QC (List.replicate i 0) ++ x0 :: x1 :: x2 :: x3 :: ds') = ds' := by
        rw [← List.drop_drop, List.drop_left' hll]; rfl
      unfold spl
      simp only [List.length_cons, List.length_nil, Nat.zero_add, Nat.reduceAdd]
      rw [e1, e2, List.replicate_succ', QC_app, List.append_assoc]; rfl
    have hln : (QC (List.replicate i 0) ++ x0 :: x1 :: x2 :: x3 :: ds').length = cols * 4 := by simp at hl ⊢; omega
    have hf0 := zero_q'
    simp -implicitDefEqProofs (disch := omega) only [go_sem, ht, h1, h5, h6, h7, h8, h9, h10, hH]
    ((refine pCall_vw (by refine ⟨⟨?_, ?_⟩, ?_, ?_⟩; rotate_left 2; (first | (right; rintro r rfl; rfl) | left); all_goals ((try simp -implicitDefEqProofs (disch := omega) only [h1, h5, h6, h7, h8, h9, h10, hH, hsp, hln, go_sem, ht]) <;> rfl)) (hf0) ?_; rintro _ nx_1 - rfl hnx_1; simp -implicitDefEqProofs (disch := omega) only [h1, h5, h6, h7, h8, h9, h10, hH, hsp, hln, go_sem, ht]))
    exact ⟨⟨⟨by simp -implicitDefEqProofs (disch := omega) only [go_sem, ht, h1], by simp -implicitDefEqProofs (disch := omega) only [go_sem, ht, h5], by simp -implicitDefEqProofs (disch := omega) only [go_sem, ht, h6], by simp -implicitDefEqProofs (disch := omega) only [go_sem, ht, h7], by simp -implicitDefEqProofs (disch := omega) only [go_sem, ht, h8], by simp -implicitDefEqProofs (disch := omega) only [go_sem, ht, hO, hne], by simp -implicitDefEqProofs (disch := omega) only [go_sem, ht]; omega⟩, by omega, i + 1, by omega, rfl, ds', rfl, by simp at hl; omega⟩, by omega⟩
set_option maxHeartbeats 8000000 in
theorem nul2 (hc : cx.n = 86) (ht : cx.tb = [(16, [(0, []), (1, []), (2, []), (3, []), (4, []), (5, []), (6, []), (7, []), (8, []), (9, []), (10, []), (11, []), (13, []), (14, []), (15, []), (16, []), (17, []), (18, []), (19, []), (20, []), (21, []), (22, []), (12, [0, 1, 2, 3, 4, 13, 14, 15, 16, 17, 18, 19, 20, 21, 22]), (23, [0, 1, 2, 3, 4]), (24, []), (25, [])]), (1000016, [(0, []), (0, []), (0, []), (6, []), (14, []), (0, []), (0, []), (96, []), (224, []), (0, []), (992, []), (2016, []), (4064, []), (0, []), (0, []), (24576, []), (57344, []), (0, []), (0, []), (393216, []), (917504, []), (2088960, []), (4186112, []), (8388576, []), (16777215, []), (33554431, [])])]) (hn : cols ≤ 1000) (hPl : Pv.length ≤ 1000) (hTl : T.length = Pv.length) (hTr : ∀ i, i < T.length → (T.getD i []).length = cols ∧ ∀ x ∈ T.getD i [], Z k x) (hPc : ∀ c ∈ Pv, c < cols)
    (hp : ∀ i, i < Pv.length → vc (T.getD i []) (Pv.getD i 0) ≠ 0) (hk : k ≤ 100000) (hf : f < cols)
    (hI : NB T Pv cols f idO o cs s ∧ s.sl 9 = .ref b 0 cols cols 4 ∧ s.sl 11 = .val (.int .i64 (0 : Nat)) ∧ b < s.nx ∧ idO ≠ b ∧ s.H b = some (QC (nulV T Pv f cols 0)))
    (hQ : ∀ t : PS, NB T Pv cols f idO o cs t → t.sl 9 = .ref b 0 cols cols 4 → t.H b = some (QC (nulV T Pv f cols Pv.length)) → b < t.nx → Q (.exit 4) t) : LW Tryz.prog cx (loopN Tryz.f25 2) Q s := by
  refine YtfjdfnlkobeehaaGreat.LW.ofLoop rfl ?_
  refine LW.loopW hc ht (by kernel_rfl) (fun t => NB T Pv cols f idO o cs t ∧ t.sl 9 = .ref b 0 cols cols 4 ∧ b < t.nx ∧ ∃ i : Nat, i ≤ Pv.length ∧ t.sl 11 = .val (.int .i64 i) ∧ t.H b = some (QC (nulV T Pv f cols i)))
    (fun t => match t.sl 11 with | .val (.int _ k) => Pv.length - k.toNat | _ => 0) ?_ ?_
  · obtain ⟨g1, g9, g11, gb, gne, gH⟩ := hI
    exact ⟨g1, g9, gb, 0, Nat.zero_le _, g11, gH⟩
  have hne := hI.2.2.2.2.1
  rintro t ⟨⟨h1, h5, h6, h7, h8, hO, hOn⟩, h9, hb, i, hi, h11, hH⟩
  by_cases hie : i = Pv.length
  · subst hie
    simp -implicitDefEqProofs (disch := omega) only [go_sem, ht, h1, h5, h6, h7, h8, h9, h11]
    exact hQ _ ⟨by simp -implicitDefEqProofs (disch := omega) only [go_sem, ht, h1], by simp -implicitDefEqProofs (disch := omega) only [go_sem, ht, h5], by simp -implicitDefEqProofs (disch := omega) only [go_sem, ht, h6], by simp -implicitDefEqProofs (disch := omega) only [go_sem, ht, h7], by simp -implicitDefEqProofs (disch := omega) only [go_sem, ht, h8], by simp -implicitDefEqProofs (disch := omega) only [go_sem, ht, hO], by simp -implicitDefEqProofs (disch := omega) only [go_sem, ht]; exact hOn⟩ (by simp -implicitDefEqProofs (disch := omega) only [go_sem, ht, h9]) (by simp -implicitDefEqProofs (disch := omega) only [go_sem, ht, hH]) (by simp -implicitDefEqProofs (disch := omega) only [go_sem, ht]; exact hb)
  · have hlt : i < Pv.length := by omega
    have hgp : (Pv.map I)[i]? = some (.val (.int .i64 (Pv.getD i 0 : Nat))) := by simp [hlt, I]
    have hpc : Pv.getD i 0 < cols := hPc _ (getD_mem hlt)
    have hgt := get_SNM' (W := T) (i := i) (by omega)
    obtain ⟨hTc, hTz⟩ := hTr i (by omega)
    have hpi := hp i hlt
    have hatf := SNc_at (zs := T.getD i []) (i := f) (by omega)
    have hatp := SNc_at (zs := T.getD i []) (i := Pv.getD i 0) (by omega)
    have zf : Z k (vc (T.getD i []) f) := YtfjdfnlkobeehaaGreat.vc_z hTz f
    have zp : Z k (vc (T.getD i []) (Pv.getD i 0)) := YtfjdfnlkobeehaaGreat.vc_z hTz _
    have hmi := minus_z (okZ zf (by omega))
    have hmk := make_z (k := k) zf.neg zp hk hpi
    have hst : nulV T Pv f cols (i + 1) = (nulV T Pv f cols i).set (Pv.getD i 0) (Rat.divInt (-vc (T.getD i []) f) (vc (T.getD i []) (Pv.getD i 0))) := rfl
    have hvl := nulV_len (T := T) (Pv := Pv) (f := f) (cols := cols) i
    have hsp := QC_set [] (qs := nulV T Pv f cols i) (c := Pv.getD i 0) (by omega) (Rat.divInt (-vc (T.getD i []) f) (vc (T.getD i []) (Pv.getD i 0)))
    rw [← hst, List.append_nil, List.append_nil] at hsp
    have hln : (QC (nulV T Pv f cols i)).length = cols * 4 := by rw [QC_len, hvl]
    obtain ⟨v2, ev2⟩ : ∃ v2, nulV T Pv f cols (i + 1) = v2 := ⟨_, rfl⟩
    rw [ev2] at hsp
    rw [NZ_def, NZ_def] at hmi
    rw [NZ_def, NZ_def] at hmk
    clear hst hpi zf zp
    generalize Rat.divInt (-vc (T.getD i []) f) (vc (T.getD i []) (Pv.getD i 0)) = q at *
    generalize -vc (T.getD i []) f = y at *
    generalize vc (T.getD i []) f = x at *
    generalize vc (T.getD i []) (Pv.getD i 0) = z at *
    generalize nulV T Pv f cols i = v1 at *
    generalize T.getD i [] = tr at *
    generalize Pv.getD i 0 = p at *
    simp -implicitDefEqProofs (disch := omega) only [go_sem, ht, h1, h5, h6, h7, h8, h9, h11, hgp, hgt, hatf, hatp, hTc]
    ((refine pCall_vw (by refine ⟨⟨?_, ?_⟩, ?_, ?_⟩; rotate_left 2; (first | (right; rintro r rfl; rfl) | left); all_goals ((try simp -implicitDefEqProofs (disch := omega) only [h1, h5, h6, h7, h8, h9, h11, hH, hgp, hgt, hatf, hatp, hTc, hsp, hln, go_sem, ht]) <;> rfl)) (hmi) ?_; rintro _ nx_2 - rfl hnx_2; simp -implicitDefEqProofs (disch := omega) only [h1, h5, h6, h7, h8, h9, h11, hH, hgp, hgt, hatf, hatp, hTc, hsp, hln, go_sem, ht]); (refine pCall_vw (by refine ⟨⟨?_, ?_⟩, ?_, ?_⟩; rotate_left 2; (first | (right; rintro r rfl; rfl) | left); all_goals ((try simp -implicitDefEqProofs (disch := omega) only [h1, h5, h6, h7, h8, h9, h11, hH, hgp, hgt, hatf, hatp, hTc, hsp, hln, go_sem, ht]) <;> rfl)) (hmk) ?_; rintro _ nx_3 - rfl hnx_3; simp -implicitDefEqProofs (disch := omega) only [h1, h5, h6, h7, h8, h9, h11, hH, hgp, hgt, hatf, hatp, hTc, hsp, hln, go_sem, ht]))
    exact ⟨⟨⟨by simp -implicitDefEqProofs (disch := omega) only [go_sem, ht, h1], by simp -implicitDefEqProofs (disch := omega) only [go_sem, ht, h5], by simp -implicitDefEqProofs (disch := omega) only [go_sem, ht, h6], by simp -implicitDefEqProofs (disch := omega) only [go_sem, ht, h7], by simp -implicitDefEqProofs (disch := omega) only [go_sem, ht, h8], by simp -implicitDefEqProofs (disch := omega) only [go_sem, ht, hO, hne], by simp -implicitDefEqProofs (disch := omega) only [go_sem, ht]; omega⟩, by omega, i + 1, by omega, rfl, by rw [ev2]⟩, by omega⟩
set_option maxHeartbeats 8000000 in
theorem null_z {Pq : List Nat} (hr0 : PT Tryz.prog 47 [SNM R, .val (.int .i64 cols)] (isV (.tup [SNM T, .sl Pv.length (Pv.map I)])))
    (hr1 : PT Tryz.prog 47 [SNM (nulR T Pv cols cols), .val (.int .i64 cols)] (isV (.tup [SNM (echT (nulR T Pv cols cols) cols), .sl Pq.length (Pq.map I)])))
    (hn : cols ≤ 1000) (hPl : Pv.length ≤ 1000) (hTl : T.length = Pv.length) (hTr : ∀ i, i < T.length → (T.getD i []).length = cols ∧ ∀ x ∈ T.getD i [], Z k x) (hPc : ∀ c ∈ Pv, c < cols)
    (hp : ∀ i, i < Pv.length → vc (T.getD i []) (Pv.getD i 0) ≠ 0) (hk : k ≤ 100000)
    (hC : ∀ f, f < cols → f ∉ Pv → PT Tryz.prog 53 [.sl cols (QC (nulV T Pv f cols Pv.length))] (isV (SN (canZ (clrL (nulV T Pv f cols Pv.length)))))) :
    PT Tryz.prog 25 [SNM R, .val (.int .i64 cols)] (isV (SNM (echT (nulR T Pv cols cols) cols))) := by
  have hi1 := int_z (v := 1) (by omega) (by omega)
  rw [show ((1 : Int)) = ((1 : Nat) : Int) from rfl, NZ_nat_def] at hi1
  rw [SNM_def T, hTl] at hr0
  refine PCalls.enter (n := 86) (rs := [.tmp 4]) (tb := [(16, [(0, []), (1, []), (2, []), (3, []), (4, []), (5, []), (6, []), (7, []), (8, []), (9, []), (10, []), (11, []), (13, []), (14, []), (15, []), (16, []), (17, []), (18, []), (19, []), (20, []), (21, []), (22, []), (12, [0, 1, 2, 3, 4, 13, 14, 15, 16, 17, 18, 19, 20, 21, 22]), (23, [0, 1, 2, 3, 4]), (24, []), (25, [])]), (1000016, [(0, []), (0, []), (0, []), (6, []), (14, []), (0, []), (0, []), (96, []), (224, []), (0, []), (992, []), (2016, []), (4064, []), (0, []), (0, []), (24576, []), (57344, []), (0, []), (0, []), (393216, []), (917504, []), (2088960, []), (4186112, []), (8388576, []), (16777215, []), (33554431, [])])]) Tryz.func25 rfl rfl rfl (by kernel_rfl) (by kernel_rfl) (by simp) fun c hc ht => ?_
  simp -implicitDefEqProofs (disch := omega) only [go_sem, ht]
  (refine pCall_vw (by refine ⟨⟨?_, ?_⟩, ?_, ?_⟩; rotate_left 2; (first | (right; rintro r rfl; rfl) | left); all_goals ((try simp -implicitDefEqProofs (disch := omega) only [go_sem, ht]) <;> rfl)) (hr0) ?_; rintro _ nx - rfl hnx; simp -implicitDefEqProofs (disch := omega) only [go_sem, ht])
  refine LW.ghost (Gh.nilW 7 1 (by simp -implicitDefEqProofs (disch := omega) only [go_sem, ht])) ?_
  refine LW.loopW hc ht (by kernel_rfl) (fun t => t.sl 1 = .val (.int .i64 cols) ∧ t.sl 5 = .sl Pv.length (T.map SN) ∧ t.sl 6 = .sl Pv.length (Pv.map I) ∧ ∃ f : Nat, f ≤ cols ∧ t.sl 8 = .val (.int .i64 f) ∧
      ∃ (idO capO : Nat) (restO : List Value), t.sl 7 = .ref idO 0 (frees Pv f).length capO 1 ∧ t.H idO = some ((nulR T Pv cols f).map SN ++ restO.map .val) ∧ (frees Pv f).length + restO.length = capO ∧ idO < t.nx)
    (fun t => match t.sl 8 with | .val (.int _ k) => cols - k.toNat | _ => 0) ?_ ?_
  · simp -implicitDefEqProofs (disch := omega) only [go_sem, ht]
    exact ⟨0, Nat.zero_le _, rfl, _, 0, [], rfl, upd_self _ _ _, rfl, by omega⟩
  · rintro t ⟨h1, h5, h6, f, hf, h8, idO, capO, restO, h7, hH, hcO, hid⟩
    have hol := nulR_len T Pv cols f
    by_cases hfc : f = cols
    · subst hfc
      have hfl := YtfjdfnlkobeehaaGreat.frzL_flat (fun _ => true) t.H 0 (SNM_flat (nulR T Pv f f))
      have hfl2 := SNM_flat (nulR T Pv f f)
      have hml : ((nulR T Pv f f).map SN).length = (frees Pv f).length := by rw [List.length_map, hol]
      have htk : List.take (frees Pv f).length ((nulR T Pv f f).map SN ++ restO.map .val) = (nulR T Pv f f).map SN := by rw [← hml, List.take_left]
      have hle : (frees Pv f).length ≤ (nulR T Pv f f).length + restO.length := by omega
      rw [SNM_def (nulR T Pv f f), hol] at hr1
      have hfl3 := SNM_flat (echT (nulR T Pv f f) f)
      generalize echT (nulR T Pv f f) f = E at *
      generalize (nulR T Pv f f).map SN = c1 at *
      simp -implicitDefEqProofs (disch := omega) only [go_sem, ht, h1, h5, h6, h7, h8]
      (refine pCall_frz (fun _ => true) 1 (by simp -implicitDefEqProofs (disch := omega) only [h1, h5, h6, h7, h8, hH, htk, hle, hfl, hfl2, if_pos, go_sem, ht] <;> rfl) (by simp -implicitDefEqProofs (disch := omega) only [h1, h5, h6, h7, h8, hH, htk, hle, hfl, hfl2, if_pos, go_sem, ht]) (by simp -implicitDefEqProofs (disch := omega) only [h1, h5, h6, h7, h8, hH, htk, hle, hfl, hfl2, if_pos, go_sem, ht] <;> rfl) (by simp -implicitDefEqProofs (disch := omega) only [h1, h5, h6, h7, h8, hH, htk, hle, hfl, hfl2, if_pos, go_sem, ht]) (hr1) ?_; rintro _ nx - rfl hnx; (try simp only [put_nx, withH_nx, begP_nx] at hnx); simp -implicitDefEqProofs (disch := omega) only [h1, h5, h6, h7, h8, hH, htk, hle, hfl, hfl2, if_pos, go_sem, ht])
      (refine end_treeM 2 ?_; simp -implicitDefEqProofs (disch := omega) only [go_sem, ht, hfl3])
    · have hlt : f < cols := by omega
      have hwi := within_z (Pv := Pv) (f := f) (by omega)
      by_cases hm : f ∈ Pv
      · rw [decide_eq_true hm] at hwi
        have hfr : frees Pv (f + 1) = frees Pv f := by rw [frees_succ, if_pos hm, List.append_nil]
        have hnr : nulR T Pv cols (f + 1) = nulR T Pv cols f := by unfold nulR; rw [hfr]
        simp -implicitDefEqProofs (disch := omega) only [go_sem, ht, h1, h5, h6, h7, h8]
        (refine pCall_vw (by refine ⟨⟨?_, ?_⟩, ?_, ?_⟩; rotate_left 2; (first | (right; rintro r rfl; rfl) | left); all_goals ((try simp -implicitDefEqProofs (disch := omega) only [h1, h5, h6, h7, h8, go_sem, ht]) <;> rfl)) (hwi) ?_; rintro _ nx - rfl hnx; simp -implicitDefEqProofs (disch := omega) only [h1, h5, h6, h7, h8, go_sem, ht])
        exact ⟨⟨f + 1, by omega, rfl, idO, capO, restO, by rw [hfr], by rw [hnr]; exact hH, by rw [hfr]; exact hcO, by omega⟩, by omega⟩
      · rw [decide_eq_false hm] at hwi
        have hfr : frees Pv (f + 1) = frees Pv f ++ [f] := by rw [frees_succ, if_neg hm]
        have hnr : nulR T Pv cols (f + 1) = nulR T Pv cols f ++ [canZ (clrL (nulV T Pv f cols Pv.length))] := by unfold nulR; rw [hfr, List.map_append]; rfl
        have hCf := hC f hlt hm
        obtain ⟨cs, ecs⟩ : ∃ cs, (nulR T Pv cols f).map SN ++ restO.map .val = cs := ⟨_, rfl⟩
        rw [ecs] at hH
        simp -implicitDefEqProofs (disch := omega) only [go_sem, ht, h1, h5, h6, h7, h8]
        (refine pCall_vw (by refine ⟨⟨?_, ?_⟩, ?_, ?_⟩; rotate_left 2; (first | (right; rintro r rfl; rfl) | left); all_goals ((try simp -implicitDefEqProofs (disch := omega) only [h1, h5, h6, h7, h8, go_sem, ht]) <;> rfl)) (hwi) ?_; rintro _ nx - rfl hnx; simp -implicitDefEqProofs (disch := omega) only [h1, h5, h6, h7, h8, go_sem, ht])
        have hrl3 : (repl cols [PV.val (.bool false), PV.val (.slice none 0 0), PV.val (.bool false), PV.val (.slice none 0 0)]).length = cols * 4 := by unfold repl; simp
        obtain ⟨b, eb⟩ : ∃ b, nx = b := ⟨_, rfl⟩
        rw [eb] at hnx ⊢
        have hne : idO ≠ b := by omega
        refine nul1 (T := T) (Pv := Pv) (cols := cols) (f := f) (idO := idO) (b := b) (o := .ref idO 0 (frees Pv f).length capO 1) (cs := cs) hc ht hn ⟨⟨by simp -implicitDefEqProofs (disch := omega) only [go_sem, ht, h1], by simp -implicitDefEqProofs (disch := omega) only [go_sem, ht, h5], by simp -implicitDefEqProofs (disch := omega) only [go_sem, ht, h6], by simp -implicitDefEqProofs (disch := omega) only [go_sem, ht, h7], by simp -implicitDefEqProofs (disch := omega) only [go_sem, ht, h8], by simp -implicitDefEqProofs (disch := omega) only [go_sem, ht, hH, hne], by first | omega | (simp -implicitDefEqProofs (disch := omega) only [go_sem, ht]; done) | (simp -implicitDefEqProofs (disch := omega) only [go_sem, ht]; omega)⟩, by simp -implicitDefEqProofs (disch := omega) only [go_sem, ht] <;> rfl, by simp -implicitDefEqProofs (disch := omega) only [go_sem, ht] <;> rfl, by first | omega | (simp -implicitDefEqProofs (disch := omega) only [go_sem, ht]; done) | (simp -implicitDefEqProofs (disch := omega) only [go_sem, ht]; omega), hne, ⟨_, by simp -implicitDefEqProofs (disch := omega) only [go_sem, ht, upd_self] <;> rfl, hrl3⟩⟩ ?_
        clear h1 h5 h6 h7 h8 hH
        rintro t2 ⟨h1, h5, h6, h7, h8, hH, hidO⟩ h9 hHb hb
        have hat1 := QC_set [] (qs := List.replicate cols 0) (c := f) (by simpa using hlt) 1
        rw [List.append_nil, List.append_nil] at hat1
        change spl (QC (List.replicate cols 0)) (f * 4) [.val (.bool false), .sl (D 1).length ((D 1).map I), .val (.bool false), .sl (D 1).length ((D 1).map I)] = QC (nulV T Pv f cols 0) at hat1
        have hln : (QC (List.replicate cols 0)).length = cols * 4 := by rw [QC_len, List.length_replicate]
        obtain ⟨v0, ev0⟩ : ∃ v0, QC (nulV T Pv f cols 0) = v0 := ⟨_, rfl⟩
        rw [ev0] at hat1
        simp -implicitDefEqProofs (disch := omega) only [go_sem, ht, h1, h5, h6, h7, h8, h9]
        ((refine pCall_vw (by refine ⟨⟨?_, ?_⟩, ?_, ?_⟩; rotate_left 2; (first | (right; rintro r rfl; rfl) | left); all_goals ((try simp -implicitDefEqProofs (disch := omega) only [h1, h5, h6, h7, h8, h9, hHb, hat1, hln, go_sem, ht]) <;> rfl)) (hi1) ?_; rintro _ nx_4 - rfl hnx_4; simp -implicitDefEqProofs (disch := omega) only [h1, h5, h6, h7, h8, h9, hHb, hat1, hln, go_sem, ht]); (refine pCall_vw (by refine ⟨⟨?_, ?_⟩, ?_, ?_⟩; rotate_left 2; (first | (right; rintro r rfl; rfl) | left); all_goals ((try simp -implicitDefEqProofs (disch := omega) only [h1, h5, h6, h7, h8, h9, hHb, hat1, hln, go_sem, ht]) <;> rfl)) (hi1) ?_; rintro _ nx_5 - rfl hnx_5; simp -implicitDefEqProofs (disch := omega) only [h1, h5, h6, h7, h8, h9, hHb, hat1, hln, go_sem, ht]))
        refine nul2 (k := k) (T := T) (Pv := Pv) (cols := cols) (f := f) (idO := idO) (b := b) (o := .ref idO 0 (frees Pv f).length capO 1) (cs := cs) hc ht hn hPl hTl hTr hPc hp hk hlt ⟨⟨by simp -implicitDefEqProofs (disch := omega) only [go_sem, ht, h1], by simp -implicitDefEqProofs (disch := omega) only [go_sem, ht, h5], by simp -implicitDefEqProofs (disch := omega) only [go_sem, ht, h6], by simp -implicitDefEqProofs (disch := omega) only [go_sem, ht, h7], by simp -implicitDefEqProofs (disch := omega) only [go_sem, ht, h8], by simp -implicitDefEqProofs (disch := omega) only [go_sem, ht, hH, hne], by first | omega | (simp -implicitDefEqProofs (disch := omega) only [go_sem, ht]; done) | (simp -implicitDefEqProofs (disch := omega) only [go_sem, ht]; omega)⟩, by simp -implicitDefEqProofs (disch := omega) only [go_sem, ht, h9], by simp -implicitDefEqProofs (disch := omega) only [go_sem, ht] <;> rfl, by first | omega | (simp -implicitDefEqProofs (disch := omega) only [go_sem, ht]; done) | (simp -implicitDefEqProofs (disch := omega) only [go_sem, ht]; omega), hne, by simp -implicitDefEqProofs (disch := omega) only [go_sem, ht, upd_self, ev0]⟩ ?_
        clear h1 h5 h6 h7 h8 hH h9 hHb hb hat1 hidO
        rintro t3 ⟨h1, h5, h6, h7, h8, hH, hidO⟩ h9 hHb hb
        have hvl := nulV_len (T := T) (Pv := Pv) (f := f) (cols := cols) Pv.length
        have hln2 : (QC (nulV T Pv f cols Pv.length)).length = cols * 4 := by rw [QC_len, hvl]
        have htk2 : List.take (cols * 4) (QC (nulV T Pv f cols Pv.length)) = QC (nulV T Pv f cols Pv.length) := List.take_of_length_le (by omega)
        have hfl2 := QC_flat (nulV T Pv f cols Pv.length)
        have hfl3 := YtfjdfnlkobeehaaGreat.frzL_flat (fun i => decide (i = b)) t3.H 0 hfl2
        have hwl : (canZ (clrL (nulV T Pv f cols Pv.length))).length = cols := by rw [canZ_len, clrL_len, hvl]
        have hnew : (nulR T Pv cols f).map SN ++ [.sl cols (SNc (canZ (clrL (nulV T Pv f cols Pv.length))))] = (nulR T Pv cols (f + 1)).map SN := by
          rw [hnr, List.map_append, List.map_cons, List.map_nil, SN_def, hwl]
        have hfrl : (frees Pv (f + 1)).length = (frees Pv f).length + 1 := by rw [hfr, List.length_append]; rfl
        have hml : ((nulR T Pv cols f).map SN).length = (frees Pv f).length := by rw [List.length_map, hol]
        have hfn := YtfjdfnlkobeehaaGreat.frees_le Pv f
        have hfc1 := SNc_flat (canZ (clrL (nulV T Pv f cols Pv.length)))
        rw [SN_def, hwl] at hCf
        generalize SNc (canZ (clrL (nulV T Pv f cols Pv.length))) = w1 at *
        generalize QC (nulV T Pv f cols Pv.length) = w2 at *
        simp -implicitDefEqProofs (disch := omega) only [go_sem, ht, h1, h5, h6, h7, h8, h9]
        (refine pCall_frz (fun i => decide (i = b)) 1 (by simp -implicitDefEqProofs (disch := omega) only [dropH_at, decide_eq_true_eq, h1, h5, h6, h7, h8, h9, hHb, htk2, hln2, hfl3, hfl2, if_pos, if_neg, Nat.le_refl, hne, go_sem, ht] <;> rfl) (by simp -implicitDefEqProofs (disch := omega) only [dropH_at, decide_eq_true_eq, h1, h5, h6, h7, h8, h9, hHb, htk2, hln2, hfl3, hfl2, if_pos, if_neg, Nat.le_refl, hne, go_sem, ht]) (by simp -implicitDefEqProofs (disch := omega) only [dropH_at, decide_eq_true_eq, h1, h5, h6, h7, h8, h9, hHb, htk2, hln2, hfl3, hfl2, if_pos, if_neg, Nat.le_refl, hne, go_sem, ht] <;> rfl) (by simp -implicitDefEqProofs (disch := omega) only [dropH_at, decide_eq_true_eq, h1, h5, h6, h7, h8, h9, hHb, htk2, hln2, hfl3, hfl2, if_pos, if_neg, Nat.le_refl, hne, go_sem, ht]) (hCf) ?_; rintro _ nx - rfl hnx; (try simp only [put_nx, withH_nx, begP_nx] at hnx); simp -implicitDefEqProofs (disch := omega) only [dropH_at, decide_eq_true_eq, h1, h5, h6, h7, h8, h9, hHb, htk2, hln2, hfl3, hfl2, if_pos, if_neg, Nat.le_refl, hne, go_sem, ht])
        rw [← ecs] at hH
        (refine append_ownX (by refine ⟨?_, ?_, ?_, ?_, ?_, ?_, ?_, ?_⟩ <;> (simp -implicitDefEqProofs (disch := omega) only [srcP_ref, srcP_sl, srcP_nil, Option.isSome_some, hH, dropH_at, decide_eq_true_eq, if_neg, hne, go_sem, ht] <;> rfl)) (by first | omega | (simp <;> omega)) (by first | assumption | (simp <;> omega)) (by first | rfl | simp) (by first | omega | (simp <;> omega)) ?_; intro id1 cap1 rest1 H1 nx1 hH1 hcap1 hid1 hnx1 hfr1 hfs1; (try simp only [put_nx, withH_nx, put_H, withH_H] at hid1 hnx1 hfr1 hfs1); (try simp only [app_U, ← List.map_append] at hH1))
        simp -implicitDefEqProofs (disch := omega) only [go_sem, ht, h1, h5, h6, h8]
        exact ⟨⟨f + 1, by omega, rfl, id1, cap1, rest1, by rw [hfrl], by rw [hH1, hnew], by omega, by omega⟩, by omega⟩
end
end Go.Proofs.YtfjdfnlkobeehaaGreat.Ref
end
