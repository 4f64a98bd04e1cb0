/- Part 40 of the way to the statement: the walk and what it needs. -/
import Derived.Test.YtfjdfnlkobeehaaKDeF36
import Derived.Test.YtfjdfnlkobeehaaKDeF38
import Derived.Test.YtfjdfnlkobeehaaKDeF39
section
set_option maxRecDepth 100000
set_option linter.unusedVariables false
set_option linter.unusedSimpArgs false
namespace Go.Proofs.Ytfjdfnlkobeehaa


theorem Gh.weak {st : PS} {id : Nat} {cs qs : List PV} (h0 : st.H id = some cs) (hl : qs = [] → cs = []) (hl' : cs = [] → qs = []) (hw : ∀ (E : En) (vs : List Value), RepL E cs vs → RepL E qs vs) : Gh st (st.withH (upd st.H id (some qs)) st.nx) := by
  rintro c a w ⟨ρ, h⟩
  by_cases hne : cs = []
  · obtain rfl := hl' hne
    subst hne
    have e : upd st.H id (some []) = st.H := by
      funext j
      by_cases hj : j = id
      · subst hj; rw [upd_self]; exact h0.symm
      · rw [upd_ne _ _ hj]
    rw [e]
    exact ⟨ρ, h⟩
  · obtain ⟨vs, e, hh, hr⟩ := h.own.blk id cs h0 hne
    exact ⟨ρ, Rr.cells h h0 hne (fun e => hne (hl e)) ⟨vs, e, hh, hw _ _ hr⟩⟩
theorem Gh.nncW {st : PS} {id : Nat} {cs : List PV} (h0 : st.H id = some cs) : Gh st (st.withH (upd st.H id (some (cs.map nn1))) st.nx) :=
  Gh.weak h0 (fun e => by simpa using e) (fun e => by rw [e]; rfl) fun _ _ h => nnL_rep h
namespace Ref
open Ytfjdfnlkobeehaa (SWc SW WX WC WV vals SM Rn vc canZ combZ primZ upZ gcdL gcdF sgF SW_def cZ)


def SNc (zs : List Int) : List PV := zs.flatMap fun z => [.val (.bool (decide (z < 0))), SI (D z.natAbs)]
def SN (zs : List Int) : PV := .sl zs.length (SNc zs)
theorem SN_def (zs : List Int) : SN zs = .sl zs.length (SNc zs) := rfl
theorem SNc_cons (z : Int) (zs : List Int) : SNc (z :: zs) = .val (.bool (decide (z < 0))) :: SI (D z.natAbs) :: SNc zs := rfl
theorem SNc_len (zs : List Int) : (SNc zs).length = 2 * zs.length := by
  induction zs with
  | nil => rfl
  | cons z zs ih => rw [SNc_cons]; simp only [List.length_cons, ih]; omega
theorem SNc_app (zs ws : List Int) : SNc (zs ++ ws) = SNc zs ++ SNc ws := by simp [SNc]
theorem SNc_flat (zs : List Int) : flatL (SNc zs) = true := by
  induction zs with
  | nil => rfl
  | cons z zs ih => rw [SNc_cons]; simp only [flatL, flat_SI, ih, Ytfjdfnlkobeehaa.flat_val, Bool.and_self]
theorem SNc_drop : ∀ (zs : List Int) (i : Nat), (SNc zs).drop (i * 2) = SNc (zs.drop i)
  | _, 0 => by simp
  | [], i + 1 => by simp [SNc]
  | z :: zs, i + 1 => by
    rw [SNc_cons, show (i + 1) * 2 = i * 2 + 1 + 1 by omega, List.drop_succ_cons, List.drop_succ_cons, SNc_drop zs i, List.drop_succ_cons]
theorem SNc_at {zs : List Int} {i : Nat} (h : i < zs.length) : (SNc zs).drop (i * 2) = .val (.bool (decide (vc zs i < 0))) :: .sl (D (vc zs i).natAbs).length ((D (vc zs i).natAbs).map I) :: SNc (zs.drop (i + 1)) := by
  rw [SNc_drop, List.drop_eq_getElem_cons h, SNc_cons, Ytfjdfnlkobeehaa.vc_lt h]; rfl
theorem SNc_take {zs : List Int} {i : Nat} (h : i < zs.length) : SNc (zs.take i) ++ [.val (.bool (decide (vc zs i < 0))), .sl (D (vc zs i).natAbs).length ((D (vc zs i).natAbs).map I)] = SNc (zs.take (i + 1)) := by
  rw [List.take_succ_eq_append_getElem h, SNc_app, Ytfjdfnlkobeehaa.vc_lt h]; rfl
theorem take_SNc (zs : List Int) (r : List PV) {n : Nat} (h : n = zs.length) : List.take (n * 2) (SNc zs ++ r) = SNc zs := by
  subst h
  rw [show zs.length * 2 = (SNc zs).length by rw [SNc_len]; omega, List.take_left]
theorem frzL_SNc (D : Nat → Bool) (H : Nat → Option (List PV)) (d : Nat) (zs : List Int) : (SNc zs).mapM (Ytfjdfnlkobeehaa.frz D H d) = some (SNc zs) := Ytfjdfnlkobeehaa.frzL_flat D H d (SNc_flat zs)
attribute [go_sem] SN_def SNc_flat frzL_SNc
section
variable {l : List (Bool × List Nat)} {z a b : List Int} {k : Nat} {p q : Int}
theorem all_z (h : Rn l k) (hlen : l.length ≤ 1000000) : PT Try.prog 65 [SW l] (isV (SN (vals l))) := by
  have hvl := Ytfjdfnlkobeehaa.vals_len l
  refine PCalls.enter (n := 20) (rs := [.tmp 2]) (tb := []) Try.func65 rfl rfl rfl (by kernel_rfl) (by kernel_rfl) (by simp) fun c hc ht => ?_
  simp -implicitDefEqProofs (disch := omega) only [go_sem, ht]
  refine LW.ghost (Gh.nilW 3 2 (by simp -implicitDefEqProofs (disch := omega) only [go_sem, ht])) ?_
  refine LW.loopW hc ht (by kernel_rfl) (fun t => t.sl 0 = .sl l.length (SWc l) ∧ ∃ i : Nat, i ≤ l.length ∧ t.sl 4 = .val (.int .i64 i) ∧ ∃ (id cap : Nat) (rest : List Value), t.sl 3 = .ref id 0 i cap 2 ∧ t.H id = some (SNc ((vals l).take i) ++ rest.map .val) ∧ i * 2 + rest.length = cap * 2 ∧ id < t.nx)
    (fun t => match t.sl 4 with | .val (.int _ k) => l.length - k.toNat | _ => 0) ?_ ?_
  · simp -implicitDefEqProofs (disch := omega) only [go_sem, ht]
    exact ⟨0, Nat.zero_le _, rfl, _, 0, [], rfl, upd_self _ _ _, rfl, by omega⟩
  · rintro t ⟨h0, i, hi, h4, id, cap, rest, h3, hH, hcap, hid⟩
    by_cases hil : i = l.length
    · subst hil
      rw [List.take_of_length_le (by omega)] at hH
      have htk := take_SNc (vals l) (rest.map .val) (n := l.length) (by omega)
      have hl2 := SNc_len (vals l)
      rw [hvl]
      simp -implicitDefEqProofs (disch := omega) only [go_sem, ht, h0, h3, h4]
      (refine end_treeW 2 ?_; simp -implicitDefEqProofs (disch := omega) only [go_sem, ht, hH, htk]; omega)
    · have hlt : i < l.length := by omega
      have hat := Ytfjdfnlkobeehaa.SWc_at hlt
      have hof := ofW (h.wn hlt)
      have htk := SNc_take (zs := vals l) (i := i) (by omega)
      have hln : (SNc ((vals l).take i)).length = 2 * i := by rw [SNc_len, List.length_take]; omega
      generalize vc (vals l) i = x at *
      simp -implicitDefEqProofs (disch := omega) only [go_sem, ht, h0, h3, h4, hat]
      (refine pCall_vw (by refine ⟨⟨?_, ?_⟩, ?_, ?_⟩; rotate_left 2; (first | (right; rintro r rfl; rfl) | left); all_goals ((try simp -implicitDefEqProofs (disch := omega) only [h0, h3, h4, hat, go_sem, ht]) <;> rfl)) (hof) ?_; rintro _ nx - rfl hnx; simp -implicitDefEqProofs (disch := omega) only [h0, h3, h4, hat, go_sem, ht])
      have hne : id ≠ nx := by omega
      (refine append_ownSX (by refine ⟨?_, ?_, ?_, ?_, ?_, ?_, ?_, ?_⟩ <;> (simp -implicitDefEqProofs (disch := omega) only [srcP_ref, srcP_sl, srcP_nil, Option.isSome_some, hH, go_sem, ht] <;> rfl)) (by rfl) (by first | omega | (simp <;> omega)) (by first | assumption | (simp <;> omega)) (by first | rfl | simp) (by first | omega | (simp <;> omega)) ?_; intro id1 cap1 rest1 H1 nx1 hH1 hcap1 hid1 hnx1 hfr1 hfs1; simp only [put_nx, withH_nx, put_H, withH_H] at hid1 hnx1 hfr1 hfs1)
      rw [htk] at hH1
      simp -implicitDefEqProofs (disch := omega) only [go_sem, ht, h0, h3, h4]
      exact ⟨⟨i + 1, by omega, rfl, id1, cap1, rest1, rfl, hH1, by omega, by omega⟩, by omega⟩
end
end Ref
end Go.Proofs.Ytfjdfnlkobeehaa
end

section
set_option maxRecDepth 100000
set_option linter.unusedVariables false
set_option linter.unusedSimpArgs false
namespace Go.Proofs.Ytfjdfnlkobeehaa.Ref
open Ytfjdfnlkobeehaa (SWc SW WX WC WV vals vals_len SM lenM Rn vc vc_lt canZ canZ_len combZ combZ_len combZ_take primZ upZ upZ_len SW_def SM_def cZ get_SM' getD_take getD_mem insR insB zeroB getD_vals wrongM)

end Go.Proofs.Ytfjdfnlkobeehaa.Ref
namespace Go.Proofs.Ytfjdfnlkobeehaa
end Go.Proofs.Ytfjdfnlkobeehaa
namespace Go.Proofs.Ytfjdfnlkobeehaa.Ref
open Ytfjdfnlkobeehaa (SWc SW WX WC WV vals vals_len SM lenM Rn vc vc_lt canZ canZ_len combZ combZ_len combZ_take primZ upZ upZ_len SW_def SM_def cZ get_SM' getD_take getD_mem insR insB zeroB getD_vals wrongM)

def SNM (W : List (List Int)) : PV := .sl W.length (W.map SN)
theorem SNM_def (W : List (List Int)) : SNM W = .sl W.length (W.map SN) := rfl
theorem SNM_flat (W : List (List Int)) : flatL (W.map SN) = true := by
  induction W with
  | nil => rfl
  | cons l m ih => simp only [List.map_cons, flatL, SN_def, flat, SNc_flat, ih, Bool.and_self]
theorem get_SNM {W : List (List Int)} {i : Nat} (r : List PV) (h : i < W.length) : (W.map SN ++ r)[i]? = some (SN (W.getD i [])) := by
  rw [List.getElem?_append_left (by simpa using h)]
  simp [h]
theorem get_SNM' {W : List (List Int)} {i : Nat} (h : i < W.length) : (W.map SN)[i]? = some (SN (W.getD i [])) := by simp [h]
attribute [go_sem] SNM_def SNM_flat get_SNM
end Go.Proofs.Ytfjdfnlkobeehaa.Ref
end

section
set_option maxRecDepth 100000
set_option linter.unusedVariables false
set_option linter.unusedSimpArgs false
namespace Go.Proofs.Ytfjdfnlkobeehaa.Ref
open Ytfjdfnlkobeehaa (SWc SW WX WC WV vals vals_len SM lenM Rn vc vc_lt canZ canZ_len combZ combZ_len combZ_take primZ upZ upZ_len SW_def SM_def cZ get_SM' getD_take getD_mem insR insB zeroB getD_vals wrongM
  EZ echW echT part part_len part_get part_set part_same findP findP_eq findP_end swapL swapL_len swapL_get swp swp_bd clearAll clearAll_len clearAll_get stepE clearZ up_vc0)

end Go.Proofs.Ytfjdfnlkobeehaa.Ref
end

section
set_option maxRecDepth 100000
set_option linter.unusedVariables false
set_option linter.unusedSimpArgs false
namespace Go.Proofs.Ytfjdfnlkobeehaa.Ref
open Ytfjdfnlkobeehaa (SWc SW WX WC WV vals vals_len SM lenM Rn vc vc_lt canZ canZ_len combZ combZ_len combZ_take primZ upZ upZ_len SW_def SM_def cZ get_SM' getD_take getD_mem insR insB zeroB getD_vals wrongM echW echT Mx)

section
variable {m : List (List (Bool × List Nat))}
theorem rwrong_calls {cn : Int} (hml : m.length ≤ 8796093022208) : PT Try.prog 56 [SM m, .val (.int .i64 cn)] (isV (.val (.bool (wrongM m cn)))) := by
  by_cases h1 : cn < 0
  · rw [show wrongM m cn = true from decide_eq_true (.inl h1)]
    refine PCalls.enter (n := 30) (rs := [.tmp 4]) (tb := []) Try.func56 rfl rfl rfl (by kernel_rfl) (by kernel_rfl) (by simp) fun c hc ht => ?_
    simp -implicitDefEqProofs (disch := omega) only [go_sem, ht]
    (refine end_treeW 0 ?_; simp -implicitDefEqProofs (disch := omega) only [go_sem, ht])
  by_cases h2 : 32 < cn
  · rw [show wrongM m cn = true from decide_eq_true (.inr (.inl h2))]
    refine PCalls.enter (n := 30) (rs := [.tmp 4]) (tb := []) Try.func56 rfl rfl rfl (by kernel_rfl) (by kernel_rfl) (by simp) fun c hc ht => ?_
    simp -implicitDefEqProofs (disch := omega) only [go_sem, ht]
    (refine end_treeW 0 ?_; simp -implicitDefEqProofs (disch := omega) only [go_sem, ht])
  by_cases h3 : 64 < m.length
  · rw [show wrongM m cn = true from decide_eq_true (.inr (.inr (.inl h3)))]
    refine PCalls.enter (n := 30) (rs := [.tmp 4]) (tb := []) Try.func56 rfl rfl rfl (by kernel_rfl) (by kernel_rfl) (by simp) fun c hc ht => ?_
    simp -implicitDefEqProofs (disch := omega) only [go_sem, ht]
    (refine end_treeW 0 ?_; simp -implicitDefEqProofs (disch := omega) only [go_sem, ht])
  refine PCalls.enter (n := 30) (rs := [.tmp 4]) (tb := []) Try.func56 rfl rfl rfl (by kernel_rfl) (by kernel_rfl) (by simp) fun c hc ht => ?_
  simp -implicitDefEqProofs (disch := omega) only [go_sem, ht]
  refine LW.loopW hc ht (by kernel_rfl) (fun t => t.sl 0 = .sl m.length (m.map SW) ∧ t.sl 1 = .val (.int .i64 cn) ∧ ∃ i : Nat, i ≤ m.length ∧ t.sl 5 = .val (.int .i64 i) ∧ ∀ l ∈ m.take i, (l.length   : Int) = cn)
    (fun t => match t.sl 5 with | .val (.int _ k) => m.length - k.toNat | _ => 0) ?_ ?_
  · simp -implicitDefEqProofs (disch := omega) only [go_sem, ht]
    exact ⟨0, Nat.zero_le _, rfl, by simp⟩
  · rintro t ⟨h0, h1', i, hi, h5, hall⟩
    by_cases hil : i = m.length
    · subst hil
      rw [List.take_length] at hall
      rw [show wrongM m cn = false from decide_eq_false (by
        rintro (h | h | h | ⟨l, hl, hne⟩)
        · exact h1 h
        · exact h2 h
        · exact h3 h
        · exact hne (hall l hl))]
      simp -implicitDefEqProofs (disch := omega) only [go_sem, ht, h0, h1', h5]
      (refine end_treeW 0 ?_; simp -implicitDefEqProofs (disch := omega) only [go_sem, ht])
    · have hlt : i < m.length := by omega
      have hgi := get_SM' hlt
      have hmem := getD_mem (d := []) hlt
      have hst := getD_take (d := []) hlt
      by_cases he : ((m.getD i []).length   : Int) = cn
      · generalize m.getD i [] = l0 at *
        simp -implicitDefEqProofs (disch := omega) only [go_sem, ht, h0, h1', h5, hgi, he]
        refine ⟨⟨i + 1, by omega, rfl, fun l hl => ?_⟩, by omega⟩
        rw [hst] at hl
        rcases List.mem_append.1 hl with hl | hl
        · exact hall l hl
        · have : l = l0 := by simpa using hl
          rw [this]; exact he
      · rw [show wrongM m cn = true from decide_eq_true (.inr (.inr (.inr ⟨_, hmem, he⟩)))]
        generalize m.getD i [] = l0 at *
        simp -implicitDefEqProofs (disch := omega) only [go_sem, ht, h0, h1', h5, hgi, he]
        (refine end_treeW 0 ?_; simp -implicitDefEqProofs (disch := omega) only [go_sem, ht])
theorem read_z {k : Nat} (hm : ∀ l ∈ m, Rn l k ∧ l.length ≤ 1000000) (hml : m.length ≤ 1000000) : PT Try.prog 58 [SM m] (isV (SNM (m.map vals))) := by
  have hvl : (m.map vals).length = m.length := by simp
  refine PCalls.enter (n := 20) (rs := [.tmp 2]) (tb := []) Try.func58 rfl rfl rfl (by kernel_rfl) (by kernel_rfl) (by simp) fun c hc ht => ?_
  simp -implicitDefEqProofs (disch := omega) only [go_sem, ht]
  refine LW.ghost (Gh.nilW 3 1 (by simp -implicitDefEqProofs (disch := omega) only [go_sem, ht])) ?_
  refine LW.loopW hc ht (by kernel_rfl) (fun t => t.sl 0 = .sl m.length (m.map SW) ∧ ∃ i : Nat, i ≤ m.length ∧ t.sl 4 = .val (.int .i64 i) ∧ ∃ (id cap : Nat) (rest : List Value), t.sl 3 = .ref id 0 i cap 1 ∧ t.H id = some (((m.map vals).take i).map SN ++ rest.map .val) ∧ i + rest.length = cap ∧ id < t.nx)
    (fun t => match t.sl 4 with | .val (.int _ k) => m.length - k.toNat | _ => 0) ?_ ?_
  · simp -implicitDefEqProofs (disch := omega) only [go_sem, ht]
    exact ⟨0, Nat.zero_le _, rfl, _, 0, [], rfl, upd_self _ _ _, rfl, by omega⟩
  · rintro t ⟨h0, i, hi, h4, id, cap, rest, h3, hH, hcap, hid⟩
    by_cases hil : i = m.length
    · subst hil
      rw [List.take_of_length_le (by omega)] at hH
      have hml2 : ((m.map vals).map SN).length = m.length := by simp
      have htk : List.take m.length ((m.map vals).map SN ++ rest.map .val) = (m.map vals).map SN := by
        rw [List.take_append_of_le_length (by omega), List.take_of_length_le (by omega)]
      have hle : m.length ≤ ((m.map vals).map SN).length + rest.length := by omega
      have hfl := Ytfjdfnlkobeehaa.frzL_flat (fun _ => true) t.H 1 (SNM_flat (m.map vals))
      have hfl0 := SNM_flat (m.map vals)
      generalize m.map vals = W at *
      simp -implicitDefEqProofs (disch := omega) only [go_sem, ht, h0, h3, h4]
      (refine end_treeW 2 ?_; simp -implicitDefEqProofs (disch := omega) only [go_sem, ht, hH, htk, hfl, hfl0, hle, hvl])
      omega
    · have hlt : i < m.length := by omega
      have hgi := get_SM' hlt
      obtain ⟨hrn, hlw⟩ := hm _ (getD_mem (d := []) hlt)
      have hct := all_z hrn hlw
      have hst : ((m.map vals).take i).map SN ++ [.sl (vals (m.getD i [])).length (SNc (vals (m.getD i [])))] = ((m.map vals).take (i + 1)).map SN := by
        rw [getD_take (l := m.map vals) (d := []) (by omega), List.map_append, getD_vals hlt]; rfl
      have hln : (((m.map vals).take i).map SN).length = i := by simp; omega
      generalize m.map vals = W at *
      generalize vals (m.getD i []) = z0 at *
      generalize m.getD i [] = l0 at *
      simp -implicitDefEqProofs (disch := omega) only [go_sem, ht, h0, h3, h4, hgi]
      (refine pCall_vw (by refine ⟨⟨?_, ?_⟩, ?_, ?_⟩; rotate_left 2; (first | (right; rintro r rfl; rfl) | left); all_goals ((try simp -implicitDefEqProofs (disch := omega) only [h0, h3, h4, hgi, go_sem, ht]) <;> rfl)) (hct) ?_; rintro _ nx - rfl hnx; simp -implicitDefEqProofs (disch := omega) only [h0, h3, h4, hgi, go_sem, ht])
      have hne : id ≠ nx := by omega
      (refine append_ownX (by refine ⟨?_, ?_, ?_, ?_, ?_, ?_, ?_, ?_⟩ <;> (simp -implicitDefEqProofs (disch := omega) only [srcP_ref, srcP_sl, srcP_nil, Option.isSome_some, hH, go_sem, ht] <;> rfl)) (by first | omega | (simp <;> omega)) (by first | assumption | (simp <;> omega)) (by first | rfl | simp) (by first | omega | (simp <;> omega)) ?_; intro id1 cap1 rest1 H1 nx1 hH1 hcap1 hid1 hnx1 hfr1 hfs1; (try simp only [put_nx, withH_nx, put_H, withH_H] at hid1 hnx1 hfr1 hfs1); (try simp only [app_U, ← List.map_append] at hH1))
      rw [hst] at hH1
      simp -implicitDefEqProofs (disch := omega) only [go_sem, ht, h0, h3, h4]
      exact ⟨⟨i + 1, by omega, rfl, id1, cap1, rest1, rfl, hH1, by omega, by omega⟩, by omega⟩
end
end Go.Proofs.Ytfjdfnlkobeehaa.Ref
end
