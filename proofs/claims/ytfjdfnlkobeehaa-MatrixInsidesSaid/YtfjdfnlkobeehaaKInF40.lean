/- Part 40 of the way to the statement: the walk and what it needs. -/
import Derived.Test.YtfjdfnlkobeehaaKInF36
import Derived.Test.YtfjdfnlkobeehaaKInF38
import Derived.Test.YtfjdfnlkobeehaaKInF39
section
set_option maxRecDepth 100000
set_option linter.unusedVariables false
set_option linter.unusedSimpArgs false
namespace Go.Proofs.Ytfjdfnlkobeehaa


theorem Gh.weak {st : PS} {id : Nat} {cs qs : List PV} (h0 : st.H id = some cs) (hl : qs = [] → cs = []) (hl' : cs = [] → qs = []) (hw : ∀ (E : En) (vs : List Value), RepL E cs vs → RepL E qs vs) : Gh st (st.withH (upd st.H id (some qs)) st.nx) := by
  rintro c a w ⟨ρ, h⟩
  by_cases hne : cs = []
  · obtain rfl := hl' hne
    subst hne
    have e : upd st.H id (some []) = st.H := by
      funext j
      by_cases hj : j = id
      · subst hj; rw [upd_self]; exact h0.symm
      · rw [upd_ne _ _ hj]
    rw [e]
    exact ⟨ρ, h⟩
  · obtain ⟨vs, e, hh, hr⟩ := h.own.blk id cs h0 hne
    exact ⟨ρ, Rr.cells h h0 hne (fun e => hne (hl e)) ⟨vs, e, hh, hw _ _ hr⟩⟩
theorem Gh.nncW {st : PS} {id : Nat} {cs : List PV} (h0 : st.H id = some cs) : Gh st (st.withH (upd st.H id (some (cs.map nn1))) st.nx) :=
  Gh.weak h0 (fun e => by simpa using e) (fun e => by rw [e]; rfl) fun _ _ h => nnL_rep h
namespace Ref
open Ytfjdfnlkobeehaa (SWc SW WX WC WV vals SM Rn vc canZ combZ primZ upZ gcdL gcdF sgF SW_def cZ)


def SNc (zs : List Int) : List PV := zs.flatMap fun z => [.val (.bool (decide (z < 0))), SI (D z.natAbs)]
def SN (zs : List Int) : PV := .sl zs.length (SNc zs)
theorem SN_def (zs : List Int) : SN zs = .sl zs.length (SNc zs) := rfl
theorem SNc_cons (z : Int) (zs : List Int) : SNc (z :: zs) = .val (.bool (decide (z < 0))) :: SI (D z.natAbs) :: SNc zs := rfl
theorem SNc_len (zs : List Int) : (SNc zs).length = 2 * zs.length := by
  induction zs with
  | nil => rfl
  | cons z zs ih => rw [SNc_cons]; simp only [List.length_cons, ih]; omega
theorem SNc_app (zs ws : List Int) : SNc (zs ++ ws) = SNc zs ++ SNc ws := by simp [SNc]
theorem SNc_flat (zs : List Int) : flatL (SNc zs) = true := by
  induction zs with
  | nil => rfl
  | cons z zs ih => rw [SNc_cons]; simp only [flatL, flat_SI, ih, Ytfjdfnlkobeehaa.flat_val, Bool.and_self]
theorem SNc_one (zs : List Int) : (SNc zs).all oneP = true := by
  induction zs with
  | nil => rfl
  | cons z zs ih => rw [SNc_cons]; simp only [List.all_cons, ih, Bool.and_true]; rfl
theorem SNc_drop : ∀ (zs : List Int) (i : Nat), (SNc zs).drop (i * 2) = SNc (zs.drop i)
  | _, 0 => by simp
  | [], i + 1 => by simp [SNc]
  | z :: zs, i + 1 => by
    rw [SNc_cons, show (i + 1) * 2 = i * 2 + 1 + 1 by omega, List.drop_succ_cons, List.drop_succ_cons, SNc_drop zs i, List.drop_succ_cons]
theorem SNc_at {zs : List Int} {i : Nat} (h : i < zs.length) : (SNc zs).drop (i * 2) = .val (.bool (decide (vc zs i < 0))) :: .sl (D (vc zs i).natAbs).length ((D (vc zs i).natAbs).map I) :: SNc (zs.drop (i + 1)) := by
  rw [SNc_drop, List.drop_eq_getElem_cons h, SNc_cons, Ytfjdfnlkobeehaa.vc_lt h]; rfl
theorem SNc_take {zs : List Int} {i : Nat} (h : i < zs.length) : SNc (zs.take i) ++ [.val (.bool (decide (vc zs i < 0))), .sl (D (vc zs i).natAbs).length ((D (vc zs i).natAbs).map I)] = SNc (zs.take (i + 1)) := by
  rw [List.take_succ_eq_append_getElem h, SNc_app, Ytfjdfnlkobeehaa.vc_lt h]; rfl
theorem take_SNc (zs : List Int) (r : List PV) {n : Nat} (h : n = zs.length) : List.take (n * 2) (SNc zs ++ r) = SNc zs := by
  subst h
  rw [show zs.length * 2 = (SNc zs).length by rw [SNc_len]; omega, List.take_left]
theorem frzL_SNc (D : Nat → Bool) (H : Nat → Option (List PV)) (d : Nat) (zs : List Int) : (SNc zs).mapM (Ytfjdfnlkobeehaa.frz D H d) = some (SNc zs) := Ytfjdfnlkobeehaa.frzL_flat D H d (SNc_flat zs)
theorem spl_SN {zs : List Int} {p : Nat} (h : p < zs.length) (x : Int) : spl (SNc zs) (p * 2) [.val (.bool (decide (x < 0))), .sl (D x.natAbs).length ((D x.natAbs).map I)] = SNc (zs.set p x) := by
  have e2 : zs.set p x = zs.take p ++ x :: zs.drop (p + 1) := by rw [List.set_eq_take_append_cons_drop, if_pos h]
  have e3 : SNc zs = SNc (zs.take p) ++ SNc (zs.drop p) := by rw [← SNc_app, List.take_append_drop]
  have e4 : zs.drop p = zs[p] :: zs.drop (p + 1) := List.drop_eq_getElem_cons h
  have hln : p * 2 = (SNc (zs.take p)).length := by rw [SNc_len, List.length_take]; omega
  rw [e2, e3, SNc_app, SNc_cons, e4, SNc_cons]
  unfold spl
  rw [hln, List.take_left, List.drop_append]
  simp
  rfl
attribute [go_sem] SN_def SNc_flat frzL_SNc
theorem replN (n : Nat) : (repl n [PV.val (.bool false), PV.val (.slice none 0 0)]).map nn1 = SNc (List.replicate n 0) := by
  unfold repl
  induction n with
  | zero => rfl
  | succ n ih =>
    simp only [List.replicate_succ, List.flatten_cons, List.map_append, ih]
    rw [SNc_cons]
    simp [nn1, SI_def, D_zero]
section
variable {l : List (Bool × List Nat)} {z a b : List Int} {k : Nat} {p q : Int}
theorem all_z (h : Rn l k) (hlen : l.length ≤ 1000000) : PT Try.prog 65 [SW l] (isV (SN (vals l))) := by
  have hvl := Ytfjdfnlkobeehaa.vals_len l
  refine PCalls.enter (n := 20) (rs := [.tmp 2]) (tb := []) Try.func65 rfl rfl rfl (by kernel_rfl) (by kernel_rfl) (by simp) fun c hc ht => ?_
  simp -implicitDefEqProofs (disch := omega) only [go_sem, ht]
  refine LW.ghost (Gh.nilW 3 2 (by simp -implicitDefEqProofs (disch := omega) only [go_sem, ht])) ?_
  refine LW.loopW hc ht (by kernel_rfl) (fun t => t.sl 0 = .sl l.length (SWc l) ∧ ∃ i : Nat, i ≤ l.length ∧ t.sl 4 = .val (.int .i64 i) ∧ ∃ (id cap : Nat) (rest : List Value), t.sl 3 = .ref id 0 i cap 2 ∧ t.H id = some (SNc ((vals l).take i) ++ rest.map .val) ∧ i * 2 + rest.length = cap * 2 ∧ id < t.nx)
    (fun t => match t.sl 4 with | .val (.int _ k) => l.length - k.toNat | _ => 0) ?_ ?_
  · simp -implicitDefEqProofs (disch := omega) only [go_sem, ht]
    exact ⟨0, Nat.zero_le _, rfl, _, 0, [], rfl, upd_self _ _ _, rfl, by omega⟩
  · rintro t ⟨h0, i, hi, h4, id, cap, rest, h3, hH, hcap, hid⟩
    by_cases hil : i = l.length
    · subst hil
      rw [List.take_of_length_le (by omega)] at hH
      have htk := take_SNc (vals l) (rest.map .val) (n := l.length) (by omega)
      have hl2 := SNc_len (vals l)
      rw [hvl]
      simp -implicitDefEqProofs (disch := omega) only [go_sem, ht, h0, h3, h4]
      (refine end_treeW 2 ?_; simp -implicitDefEqProofs (disch := omega) only [go_sem, ht, hH, htk]; omega)
    · have hlt : i < l.length := by omega
      have hat := Ytfjdfnlkobeehaa.SWc_at hlt
      have hof := ofW (h.wn hlt)
      have htk := SNc_take (zs := vals l) (i := i) (by omega)
      have hln : (SNc ((vals l).take i)).length = 2 * i := by rw [SNc_len, List.length_take]; omega
      generalize vc (vals l) i = x at *
      simp -implicitDefEqProofs (disch := omega) only [go_sem, ht, h0, h3, h4, hat]
      (refine pCall_vw (by refine ⟨⟨?_, ?_⟩, ?_, ?_⟩; rotate_left 2; (first | (right; rintro r rfl; rfl) | left); all_goals ((try simp -implicitDefEqProofs (disch := omega) only [h0, h3, h4, hat, go_sem, ht]) <;> rfl)) (hof) ?_; rintro _ nx - rfl hnx; simp -implicitDefEqProofs (disch := omega) only [h0, h3, h4, hat, go_sem, ht])
      have hne : id ≠ nx := by omega
      (refine append_ownSX (by refine ⟨?_, ?_, ?_, ?_, ?_, ?_, ?_, ?_⟩ <;> (simp -implicitDefEqProofs (disch := omega) only [srcP_ref, srcP_sl, srcP_nil, Option.isSome_some, hH, go_sem, ht] <;> rfl)) (by rfl) (by first | omega | (simp <;> omega)) (by first | assumption | (simp <;> omega)) (by first | rfl | simp) (by first | omega | (simp <;> omega)) ?_; intro id1 cap1 rest1 H1 nx1 hH1 hcap1 hid1 hnx1 hfr1 hfs1; simp only [put_nx, withH_nx, put_H, withH_H] at hid1 hnx1 hfr1 hfs1)
      rw [htk] at hH1
      simp -implicitDefEqProofs (disch := omega) only [go_sem, ht, h0, h3, h4]
      exact ⟨⟨i + 1, by omega, rfl, id1, cap1, rest1, rfl, hH1, by omega, by omega⟩, by omega⟩
theorem over_ex {x : Int} {g : Nat} (h : g ∣ x.natAbs) : Ytfjdfnlkobeehaa.sg (decide (x < 0)) (x.natAbs / g) = x / (g : Int) := by
  obtain ⟨m, hm⟩ := h
  by_cases hg : g = 0
  · subst hg; simp [Ytfjdfnlkobeehaa.sg]
  rw [hm, Nat.mul_div_cancel_left m (by omega)]
  by_cases hx : x < 0
  · have e : x = (g : Int) * -(m : Int) := by
      have : (x.natAbs : Int) = (g : Int) * m := by rw [hm]; simp
      rw [Int.mul_neg]; omega
    rw [decide_eq_true hx, e, Int.mul_ediv_cancel_left _ (by omega)]; rfl
  · have e : x = (g : Int) * (m : Int) := by
      have : (x.natAbs : Int) = (g : Int) * m := by rw [hm]; simp
      omega
    rw [decide_eq_false hx, e, Int.mul_ediv_cancel_left _ (by omega)]; rfl
theorem canZ_get {i : Nat} (h : i < z.length) : vc (canZ z) i = if sgF 0 z < 0 then -(z[i] / (gcdL z : Nat)) else z[i] / (gcdL z : Nat) := by
  have e : sgF 0 (primZ z) < 0 ↔ sgF 0 z < 0 := by
    by_cases hg : gcdL z = 0
    · have h0 := Ytfjdfnlkobeehaa.gcdL_zero.1 hg
      have hp : primZ z = z := by
        unfold primZ
        conv => rhs; rw [← List.map_id z]
        exact List.map_congr_left fun x hx => by rw [h0 x hx]; simp
      rw [hp]
    · have e1 : z = Ytfjdfnlkobeehaa.mulL (gcdL z) (primZ z) := by
        refine List.ext_getElem (by rw [Ytfjdfnlkobeehaa.mulL_len, Ytfjdfnlkobeehaa.primZ_len]) fun j h1 h2 => ?_
        have := Ytfjdfnlkobeehaa.primZ_vc z j
        rw [Ytfjdfnlkobeehaa.vc_lt h1, Ytfjdfnlkobeehaa.vc_lt (by rw [Ytfjdfnlkobeehaa.primZ_len]; exact h1)] at this
        simp only [Ytfjdfnlkobeehaa.mulL, List.getElem_map]
        exact this.symm
      have e2 := Ytfjdfnlkobeehaa.sgF_mul0 (t := (gcdL z : Int)) (by omega) (primZ z)
      rw [← e1, cZ_gt (show (0 : Int) < (gcdL z : Int) by omega), Int.one_mul] at e2
      rw [e2]
  unfold canZ upZ
  by_cases hs : sgF 0 z < 0
  · rw [if_pos hs, if_pos (e.2 hs), Ytfjdfnlkobeehaa.neg_vc, Ytfjdfnlkobeehaa.vc_lt (by rw [Ytfjdfnlkobeehaa.primZ_len]; exact h)]
    simp [primZ]
  · rw [if_neg hs, if_neg (fun h => hs (e.1 h)), Ytfjdfnlkobeehaa.vc_lt (by rw [Ytfjdfnlkobeehaa.primZ_len]; exact h)]
    simp [primZ]
theorem cur_set {r : List Int} {n i : Nat} (hr : r.length = n) (h : i < n) (x : Int) : (r.take i ++ List.replicate (n - i) 0).set i x = r.take i ++ x :: List.replicate (n - (i + 1)) 0 := by
  have hl : (r.take i).length = i := by rw [List.length_take]; omega
  obtain ⟨m, hm⟩ : ∃ m, n - i = m + 1 := ⟨n - (i + 1), by omega⟩
  rw [hm, show n - (i + 1) = m by omega, List.set_append_right _ _ (by omega), hl, Nat.sub_self, List.replicate_succ, List.set_cons_zero]
theorem cur_next {r : List Int} {n i : Nat} (hr : r.length = n) (h : i < n) : r.take i ++ vc r i :: List.replicate (n - (i + 1)) 0 = r.take (i + 1) ++ List.replicate (n - (i + 1)) 0 := by
  rw [List.take_succ_eq_append_getElem (by omega), Ytfjdfnlkobeehaa.vc_lt (by omega), List.append_assoc]; rfl
set_option maxHeartbeats 4000000 in
theorem canon_z (hz : ∀ x ∈ z, Z k x) (hk : k ≤ 100000) (hlen : z.length ≤ 1000000) : PT Try.prog 95 [SN z] (isV (SN (canZ z))) := by
  have hgz : ∀ i, Z k (gcdF 0 (z.take i) : Nat) := fun i => Ytfjdfnlkobeehaa.gcdF_le (Ytfjdfnlkobeehaa.Z.zero k) fun x hx => hz x (List.mem_of_mem_take hx)
  have hcl := Ytfjdfnlkobeehaa.canZ_len z
  refine PCalls.enter (n := 60) (rs := [.tmp 2]) (tb := [(6, [(0, []), (1, []), (2, []), (3, []), (4, []), (5, []), (6, [])]), (14, [(0, []), (1, []), (2, []), (3, []), (4, []), (5, []), (6, []), (7, [0, 1]), (8, []), (9, [])])]) Try.func95 rfl rfl rfl (by kernel_rfl) (by kernel_rfl) (by simp) fun c hc ht => ?_
  simp -implicitDefEqProofs (disch := omega) only [go_sem, ht]
  refine LW.loopW hc ht (by kernel_rfl) (fun t => t.sl 0 = .sl z.length (SNc z) ∧ t.sl 3 = .ptr 0 0 ∧ 0 < t.nx ∧ ∃ i : Nat, i ≤ z.length ∧ t.sl 5 = .val (.int .i64 i) ∧ t.sl 4 = .val (.int .i64 (sgF 0 (z.take i))) ∧ ∃ c, t.H 0 = some [.val (.bool false), c] ∧ flat c = true ∧ oneP c = true ∧ isAny c = false ∧ (∀ H, view1 H c = .sl (D (gcdF 0 (z.take i))).length ((D (gcdF 0 (z.take i))).map I)))
    (fun t => match t.sl 5 with | .val (.int _ k) => z.length - k.toNat | _ => 0) ?_ ?_
  · simp -implicitDefEqProofs (disch := omega) only [go_sem, ht]
    refine ⟨0, Nat.zero_le _, rfl, rfl, .val (.slice none 0 0), rfl, rfl, rfl, rfl, fun H => ?_⟩
    rw [List.take_zero, Ytfjdfnlkobeehaa.gcdF_nil, D_zero]; rfl
  · rintro t ⟨h0, h3, hnx, i, hi, h5, h4, cc, hH, hf, ho, ha, hv⟩
    by_cases hil : i = z.length
    · subst hil
      rw [List.take_length] at h4 hv
      have hg0 := hgz z.length
      rw [List.take_length] at hg0
      change Z k (gcdL z : Nat) at hg0
      change ∀ H, view1 H cc = .sl (D (gcdL z)).length ((D (gcdL z)).map I) at hv
      have hsg := sign_z (okZ hg0 (by omega))
      rw [NZ_nat_def] at hsg
      have hrn := replN z.length
      have hrl := Ytfjdfnlkobeehaa.repl_len z.length [PV.val (.bool false), PV.val (.slice none 0 0)]
      have hs0 : gcdL z = 0 → sgF 0 z = 0 := fun e => by
        have h00 := Ytfjdfnlkobeehaa.gcdL_zero.1 e
        have hm := Ytfjdfnlkobeehaa.mulL_zeros h00 0
        have e2 : ∀ l : List Int, (∀ x ∈ l, x = 0) → sgF 0 l = 0 := by
          intro l
          induction l with
          | nil => intro _; rfl
          | cons x l ih =>
            intro hx
            show sgF (if (0 : Int) = 0 then cZ x 0 else 0) l = 0
            rw [if_pos rfl, hx x (List.mem_cons_self ..), cZ_eq rfl]
            exact ih fun y hy => hx y (List.mem_cons_of_mem _ hy)
        exact e2 z h00
      have hget : ∀ i (h : i < z.length), vc (canZ z) i = if sgF 0 z < 0 then -(vc z i / (gcdL z : Nat)) else vc z i / (gcdL z : Nat) := fun i h => by rw [canZ_get h, Ytfjdfnlkobeehaa.vc_lt h]
      have hdv : ∀ i (h : i < z.length), gcdL z ∣ (vc z i).natAbs := fun i h => by rw [Ytfjdfnlkobeehaa.vc_lt h]; exact Ytfjdfnlkobeehaa.gcdL_dvd (List.getElem_mem h)
      have hvz : ∀ i (h : i < z.length), Z k (vc z i) := fun i h => by rw [Ytfjdfnlkobeehaa.vc_lt h]; exact hz _ (List.getElem_mem h)
      generalize canZ z = r at *
      generalize sgF 0 z = s at *
      generalize gcdL z = g at *
      simp -implicitDefEqProofs (disch := omega) only [go_sem, ht, h0, h3, h5, h4]
      refine LW.ghost (Gh.nncW (id := t.nx) (cs := repl z.length [PV.val (.bool false), PV.val (.slice none 0 0)]) (by simp -implicitDefEqProofs (disch := omega) only [go_sem, ht, upd_self])) ?_
      refine LW.loopW hc ht (by kernel_rfl) (fun u => u.sl 0 = .sl z.length (SNc z) ∧ u.sl 3 = .ptr 0 0 ∧ u.sl 4 = .val (.int .i64 s) ∧ u.sl 6 = .ref t.nx 0 z.length z.length 2 ∧ t.nx < u.nx ∧ u.H 0 = some [.val (.bool false), cc] ∧ ∃ i : Nat, i ≤ z.length ∧ u.sl 7 = .val (.int .i64 i) ∧ u.H t.nx = some (SNc (r.take i ++ List.replicate (z.length - i) 0)))
        (fun u => match u.sl 7 with | .val (.int _ k) => z.length - k.toNat | _ => 0) ?_ ?_
      · simp -implicitDefEqProofs (disch := omega) only [go_sem, ht, h0, h3, h5, h4, hrn]
        exact ⟨by omega, hH, 0, Nat.zero_le _, rfl, rfl⟩
      · clear hH h0 h3 h5 h4
        rintro u ⟨h0, h3, h4, h6, hnu, hH0, i, hi, h7, hH⟩
        by_cases hil : i = z.length
        · subst hil
          rw [Nat.sub_self, List.replicate_zero, List.append_nil, List.take_of_length_le (by omega)] at hH
          have htk := take_SNc r [] (n := z.length) (by omega)
          rw [List.append_nil] at htk
          have hl2 := SNc_len r
          rw [hcl]
          simp -implicitDefEqProofs (disch := omega) only [go_sem, ht, h0, h3, h4, h6, h7]
          (refine end_treeW 2 ?_; simp -implicitDefEqProofs (disch := omega) only [go_sem, ht, hH, htk]; omega)
        · have hlt : i < z.length := by omega
          have hat := SNc_at hlt
          have hx := hvz i hlt
          have hd := hdv i hlt
          have hg := hget i hlt
          have hset := cur_set (r := r) (n := z.length) (i := i) (by omega) hlt
          have hnext := cur_next (r := r) (n := z.length) (i := i) (by omega) hlt
          have hrl2 : (r.take i).length = i := by rw [List.length_take]; omega
          by_cases hg0' : g = 0
          · have hs00 := hs0 hg0'
            subst hg0'
            subst hs00
            have hr0 : vc r i = 0 := by rw [hg]; simp
            rw [hr0] at hnext
            have hst : r.take i ++ List.replicate (z.length - i) 0 = r.take (i + 1) ++ List.replicate (z.length - (i + 1)) 0 := by
              rw [← hnext, show z.length - i = (z.length - (i + 1)) + 1 by omega, List.replicate_succ]
            rw [hst] at hH
            rw [show ((0 : Nat) : Int) = 0 from rfl, cZ_eq rfl] at hsg
            simp -implicitDefEqProofs (disch := omega) only [go_sem, ht, h0, h3, h4, h6, h7, hH0, ho, ha]
            (refine pCall_vw (by refine ⟨⟨?_, ?_⟩, ?_, ?_⟩; rotate_left 2; (first | (right; rintro r rfl; rfl) | left); all_goals ((try simp -implicitDefEqProofs (disch := omega) only [h0, h3, h4, h6, h7, hH0, hf, ho, ha, hv, go_sem, ht]) <;> rfl)) (hsg) ?_; rintro _ nx - rfl hnx; simp -implicitDefEqProofs (disch := omega) only [h0, h3, h4, h6, h7, hH0, hf, ho, ha, hv, go_sem, ht])
            exact ⟨⟨by omega, i + 1, by omega, rfl, hH⟩, by omega⟩
          · have hov := over_z (k := k) (g := g) hx hg0 hk hg0'
            rw [over_ex hd, NZ_nat_def] at hov
            have hxd : Z k (vc z i / (g : Int)) := hx.div
            have hmi := minus_z (z := vc z i / (g : Int)) (okZ hxd (by omega))
            rw [cZ_gt (show (0 : Int) < (g : Int) by omega)] at hsg
            have hsp1 := spl_SN (zs := r.take i ++ List.replicate (z.length - i) 0) (p := i) (by simp; omega) (vc z i / (g : Int))
            rw [hset] at hsp1
            have hsp2 := spl_SN (zs := r.take i ++ (vc z i / (g : Int)) :: List.replicate (z.length - (i + 1)) 0) (p := i) (by simp; omega) (-(vc z i / (g : Int)))
            have hset2 : (r.take i ++ (vc z i / (g : Int)) :: List.replicate (z.length - (i + 1)) 0).set i (-(vc z i / (g : Int))) = r.take i ++ (-(vc z i / (g : Int))) :: List.replicate (z.length - (i + 1)) 0 := by
              rw [List.set_append_right _ _ (by omega), hrl2, Nat.sub_self, List.set_cons_zero]
            rw [hset2] at hsp2
            have hat2 := SNc_at (zs := r.take i ++ (vc z i / (g : Int)) :: List.replicate (z.length - (i + 1)) 0) (i := i) (by simp; omega)
            have hvc : vc (r.take i ++ (vc z i / (g : Int)) :: List.replicate (z.length - (i + 1)) 0) i = vc z i / (g : Int) := by
              rw [Ytfjdfnlkobeehaa.vc_lt (by simp; omega), List.getElem_append_right (by omega)]
              simp [hrl2]
            rw [hvc] at hat2
            have hln : (SNc (r.take i ++ List.replicate (z.length - i) 0)).length = z.length * 2 := by rw [SNc_len]; simp; omega
            have hln2 : (SNc (r.take i ++ (vc z i / (g : Int)) :: List.replicate (z.length - (i + 1)) 0)).length = z.length * 2 := by rw [SNc_len]; simp; omega
            clear hset hset2 hvc hd
            generalize vc z i / (g : Int) = q at *
            generalize vc z i = x at *
            by_cases hs : s < 0
            · rw [if_pos hs] at hg
              rw [hg] at hnext
              simp -implicitDefEqProofs (disch := omega) only [go_sem, ht, h0, h3, h4, h6, h7, hH0, ho, ha]
              ((refine pCall_vw (by refine ⟨⟨?_, ?_⟩, ?_, ?_⟩; rotate_left 2; (first | (right; rintro r rfl; rfl) | left); all_goals ((try simp -implicitDefEqProofs (disch := omega) only [h0, h3, h4, h6, h7, hH0, hf, ho, ha, hv, hH, hat, hln, hsp1, hs, hat2, hln2, go_sem, ht]) <;> rfl)) (hsg) ?_; rintro _ nx_1 - rfl hnx_1; simp -implicitDefEqProofs (disch := omega) only [h0, h3, h4, h6, h7, hH0, hf, ho, ha, hv, hH, hat, hln, hsp1, hs, hat2, hln2, go_sem, ht]); (refine pCall_vw (by refine ⟨⟨?_, ?_⟩, ?_, ?_⟩; rotate_left 2; (first | (right; rintro r rfl; rfl) | left); all_goals ((try simp -implicitDefEqProofs (disch := omega) only [h0, h3, h4, h6, h7, hH0, hf, ho, ha, hv, hH, hat, hln, hsp1, hs, hat2, hln2, go_sem, ht]) <;> rfl)) (hov) ?_; rintro _ nx_2 - rfl hnx_2; simp -implicitDefEqProofs (disch := omega) only [h0, h3, h4, h6, h7, hH0, hf, ho, ha, hv, hH, hat, hln, hsp1, hs, hat2, hln2, go_sem, ht]))
              ((refine pCall_vw (by refine ⟨⟨?_, ?_⟩, ?_, ?_⟩; rotate_left 2; (first | (right; rintro r rfl; rfl) | left); all_goals ((try simp -implicitDefEqProofs (disch := omega) only [h0, h3, h4, h6, h7, hH0, hf, ho, ha, hv, hH, hat, hln, hsp1, hs, hat2, hln2, hsp2, go_sem, ht]) <;> rfl)) (hmi) ?_; rintro _ nx_3 - rfl hnx_3; simp -implicitDefEqProofs (disch := omega) only [h0, h3, h4, h6, h7, hH0, hf, ho, ha, hv, hH, hat, hln, hsp1, hs, hat2, hln2, hsp2, go_sem, ht]))
              exact ⟨⟨by omega, i + 1, by omega, rfl, by rw [← hnext]⟩, by omega⟩
            · rw [if_neg hs] at hg
              rw [hg] at hnext
              simp -implicitDefEqProofs (disch := omega) only [go_sem, ht, h0, h3, h4, h6, h7, hH0, ho, ha]
              ((refine pCall_vw (by refine ⟨⟨?_, ?_⟩, ?_, ?_⟩; rotate_left 2; (first | (right; rintro r rfl; rfl) | left); all_goals ((try simp -implicitDefEqProofs (disch := omega) only [h0, h3, h4, h6, h7, hH0, hf, ho, ha, hv, hH, hat, hln, hsp1, hs, go_sem, ht]) <;> rfl)) (hsg) ?_; rintro _ nx_4 - rfl hnx_4; simp -implicitDefEqProofs (disch := omega) only [h0, h3, h4, h6, h7, hH0, hf, ho, ha, hv, hH, hat, hln, hsp1, hs, go_sem, ht]); (refine pCall_vw (by refine ⟨⟨?_, ?_⟩, ?_, ?_⟩; rotate_left 2; (first | (right; rintro r rfl; rfl) | left); all_goals ((try simp -implicitDefEqProofs (disch := omega) only [h0, h3, h4, h6, h7, hH0, hf, ho, ha, hv, hH, hat, hln, hsp1, hs, go_sem, ht]) <;> rfl)) (hov) ?_; rintro _ nx_5 - rfl hnx_5; simp -implicitDefEqProofs (disch := omega) only [h0, h3, h4, h6, h7, hH0, hf, ho, ha, hv, hH, hat, hln, hsp1, hs, go_sem, ht]))
              exact ⟨⟨by omega, i + 1, by omega, rfl, by rw [← hnext]⟩, by omega⟩
    · have hlt : i < z.length := by omega
      have hat := SNc_at hlt
      have hzx : Z k (vc z i) := by rw [Ytfjdfnlkobeehaa.vc_lt hlt]; exact hz _ (List.getElem_mem hlt)
      have hg := gcd_z (hgz i) hzx hk
      have hst := Ytfjdfnlkobeehaa.gcdF_take (zs := z) (i := i) hlt
      rw [Ytfjdfnlkobeehaa.gcd_natAbs, Ytfjdfnlkobeehaa.vc_lt hlt, ← hst] at hg
      have hss := Ytfjdfnlkobeehaa.sgF_take (t := 0) (zs := z) (i := i) hlt
      rw [← Ytfjdfnlkobeehaa.vc_lt hlt] at hss hg
      have hsi := sign_z (okZ hzx (by omega))
      obtain ⟨g2, e2⟩ : ∃ g2, gcdF 0 (z.take (i + 1)) = g2 := ⟨_, rfl⟩
      obtain ⟨s2, es2⟩ : ∃ s2, sgF 0 (z.take (i + 1)) = s2 := ⟨_, rfl⟩
      rw [e2] at hg
      rw [es2] at hss
      clear hst
      generalize gcdF 0 (z.take i) = g1 at *
      generalize sgF 0 (z.take i) = s1 at *
      generalize cZ (vc z i) 0 = sx at *
      generalize vc z i = x at *
      rw [NZ_nat_def, NZ_nat_def] at hg
      by_cases h10 : s1 = 0
      · rw [if_pos h10] at hss
        simp -implicitDefEqProofs (disch := omega) only [go_sem, ht, h0, h3, h5, h4, hat, hH, ho, ha]
        ((refine pCall_vw (by refine ⟨⟨?_, ?_⟩, ?_, ?_⟩; rotate_left 2; (first | (right; rintro r rfl; rfl) | left); all_goals ((try simp -implicitDefEqProofs (disch := omega) only [h0, h3, h5, h4, hat, hH, hf, ho, ha, hv, h10, go_sem, ht]) <;> rfl)) (hg) ?_; rintro _ nx_6 - rfl hnx_6; simp -implicitDefEqProofs (disch := omega) only [h0, h3, h5, h4, hat, hH, hf, ho, ha, hv, h10, go_sem, ht]); (refine pCall_vw (by refine ⟨⟨?_, ?_⟩, ?_, ?_⟩; rotate_left 2; (first | (right; rintro r rfl; rfl) | left); all_goals ((try simp -implicitDefEqProofs (disch := omega) only [h0, h3, h5, h4, hat, hH, hf, ho, ha, hv, h10, go_sem, ht]) <;> rfl)) (hsi) ?_; rintro _ nx_7 - rfl hnx_7; simp -implicitDefEqProofs (disch := omega) only [h0, h3, h5, h4, hat, hH, hf, ho, ha, hv, h10, go_sem, ht]))
        refine ⟨⟨by omega, i + 1, by omega, rfl, by rw [es2, hss], .sl (D g2).length ((D g2).map I), rfl, flat_SI _, rfl, rfl, fun H => ?_⟩, by omega⟩
        rw [e2]; rfl
      · rw [if_neg h10] at hss
        simp -implicitDefEqProofs (disch := omega) only [go_sem, ht, h0, h3, h5, h4, hat, hH, ho, ha]
        ((refine pCall_vw (by refine ⟨⟨?_, ?_⟩, ?_, ?_⟩; rotate_left 2; (first | (right; rintro r rfl; rfl) | left); all_goals ((try simp -implicitDefEqProofs (disch := omega) only [h0, h3, h5, h4, hat, hH, hf, ho, ha, hv, h10, go_sem, ht]) <;> rfl)) (hg) ?_; rintro _ nx_8 - rfl hnx_8; simp -implicitDefEqProofs (disch := omega) only [h0, h3, h5, h4, hat, hH, hf, ho, ha, hv, h10, go_sem, ht]))
        refine ⟨⟨by omega, i + 1, by omega, rfl, by rw [es2, hss], .sl (D g2).length ((D g2).map I), rfl, flat_SI _, rfl, rfl, fun H => ?_⟩, by omega⟩
        rw [e2]; rfl
end
end Ref
end Go.Proofs.Ytfjdfnlkobeehaa
end

section
set_option maxRecDepth 100000
set_option linter.unusedVariables false
set_option linter.unusedSimpArgs false
namespace Go.Proofs.Ytfjdfnlkobeehaa.Ref
open Ytfjdfnlkobeehaa (SWc SW WX WC WV vals vals_len SM lenM Rn vc vc_lt canZ canZ_len combZ combZ_len combZ_take primZ upZ upZ_len SW_def SM_def cZ get_SM' getD_take getD_mem insR insB zeroB getD_vals wrongM)

section
variable {l : List (Bool × List Nat)} {z a b : List Int} {k : Nat} {p q : Int}
set_option maxHeartbeats 4000000 in
theorem joined_z (hp : Z k p) (hq : Z k q) (ha : ∀ x ∈ a, Z k x) (hb : ∀ x ∈ b, Z k x) (hl : a.length = b.length) (hk : 2 * k + 1 ≤ 100000) (hlen : a.length ≤ 1000000) :
    PT Try.prog 97 [NZ p, SN a, NZ q, SN b] (isV (SN (canZ (combZ p q a b)))) := by
  have hcl := combZ_len (a := p) (b := q) hl
  have hcz : ∀ x ∈ combZ p q a b, Z (2 * k + 1) x := fun x hx => by
    have := Ytfjdfnlkobeehaa.combZ_z hp hq ha hb x hx
    rwa [show k + k + 1 = 2 * k + 1 by omega] at this
  have hcn := canon_z hcz (by omega) (by omega)
  rw [SN_def, hcl] at hcn
  have hcc := canZ_len (combZ p q a b)
  generalize hr : canZ (combZ p q a b) = r at *
  refine PCalls.enter (n := 35) (rs := [.tmp 8]) (tb := [(5, [(0, []), (1, []), (2, []), (3, []), (4, []), (5, []), (7, []), (8, []), (9, []), (10, []), (11, []), (6, [0, 7, 8, 9, 10, 11]), (12, [0]), (13, [0]), (14, [0]), (15, []), (16, [])]), (1000005, [(0, []), (0, []), (0, []), (0, []), (12, []), (28, []), (62, []), (0, []), (0, []), (0, []), (768, []), (1792, []), (4094, []), (8190, []), (16382, []), (32767, []), (65535, [])])]) Try.func97 rfl rfl rfl (by kernel_rfl) (by kernel_rfl) (by simp) fun c hc ht => ?_
  simp -implicitDefEqProofs (disch := omega) only [go_sem, ht]
  refine LW.ghost (Gh.nilW 9 2 (by simp -implicitDefEqProofs (disch := omega) only [go_sem, ht])) ?_
  refine LW.loopW hc ht (by kernel_rfl) (fun t => t.sl 1 = .sl a.length (SNc a) ∧ t.sl 3 = .sl b.length (SNc b) ∧ t.sl 4 = .ptr 0 0 ∧ t.sl 6 = .ptr 1 0 ∧ t.H 0 = some [.val (.bool (decide (p < 0))), .sl (D p.natAbs).length ((D p.natAbs).map I)] ∧ t.H 1 = some [.val (.bool (decide (q < 0))), .sl (D q.natAbs).length ((D q.natAbs).map I)] ∧ ∃ i : Nat, i ≤ a.length ∧ t.sl 10 = .val (.int .i64 i) ∧
      ∃ (id cap : Nat) (rest : List Value), t.sl 9 = .ref id 0 i cap 2 ∧ t.H id = some (SNc ((combZ p q a b).take i) ++ rest.map .val) ∧ i * 2 + rest.length = cap * 2 ∧ id < t.nx ∧ 1 < id)
    (fun t => match t.sl 10 with | .val (.int _ k) => a.length - k.toNat | _ => 0) ?_ ?_
  · simp -implicitDefEqProofs (disch := omega) only [go_sem, ht, NZ_def]
    exact ⟨0, Nat.zero_le _, rfl, _, 0, [], rfl, rfl, rfl, by omega, by omega⟩
  · rintro t ⟨h1, h3, h4, h6, hH0, hH1', i, hi, h10, id, cap, rest, h9, hH, hcap, hid, hid1⟩
    by_cases hil : i = a.length
    · subst hil
      rw [List.take_of_length_le (by omega)] at hH
      have htk := take_SNc (combZ p q a b) (rest.map .val) (n := a.length) (by omega)
      have hl2 := SNc_len (combZ p q a b)
      have hle : a.length * 2 ≤ (SNc (combZ p q a b)).length + rest.length := by omega
      simp -implicitDefEqProofs (disch := omega) only [go_sem, ht, h1, h3, h4, h6, h9, h10]
      (refine pCall_frz (fun _ => true) 1 (by simp -implicitDefEqProofs (disch := omega) only [hH, htk, hle, go_sem, ht] <;> rfl) (by simp -implicitDefEqProofs (disch := omega) only [hH, htk, hle, go_sem, ht]) (by simp -implicitDefEqProofs (disch := omega) only [hH, htk, hle, go_sem, ht] <;> rfl) (by simp -implicitDefEqProofs (disch := omega) only [hH, htk, hle, go_sem, ht]) (hcn) ?_; rintro _ nx - rfl hnx; (try simp only [put_nx, withH_nx, begP_nx] at hnx); simp -implicitDefEqProofs (disch := omega) only [hH, htk, hle, go_sem, ht])
      (refine end_treeW 2 ?_; simp -implicitDefEqProofs (disch := omega) only [go_sem, ht])
    · have hlt : i < a.length := by omega
      have hat := SNc_at hlt
      have hat' := SNc_at (show i < b.length by omega)
      have za : Z k (vc a i) := Ytfjdfnlkobeehaa.vc_z ha i
      have zb : Z k (vc b i) := Ytfjdfnlkobeehaa.vc_z hb i
      have m1 := nmul_z (okZ hp (by omega)) (okZ za (by omega)) (by have := lenZ hp; have := lenZ za; omega)
      have m2 := nmul_z (okZ hq (by omega)) (okZ zb (by omega)) (by have := lenZ hq; have := lenZ zb; omega)
      have z1 := hp.mul za
      have z2 := hq.mul zb
      have zs : Z (k + k + 1) (((p * vc a i).natAbs + (q * vc b i).natAbs : Nat) : Int) := Ytfjdfnlkobeehaa.Z.add (x := ((p * vc a i).natAbs : Int)) (y := ((q * vc b i).natAbs : Int)) z1 z2
      have s1 := nsub_z (okZ z1 (by omega)) (okZ z2 (by omega)) (okZ zs (by omega))
      have hst := combZ_take (a := p) (b := q) (z := a) (p := b) (i := i) hlt (by omega)
      rw [← vc_lt (z := a), ← vc_lt (z := b)] at hst
      have hln : (SNc ((combZ p q a b).take i)).length = i * 2 := by rw [SNc_len, List.length_take]; omega
      clear z1 z2 zs
      generalize p * vc a i = x1 at *
      generalize q * vc b i = x2 at *
      have htk : SNc ((combZ p q a b).take i) ++ [.val (.bool (decide (x1 - x2 < 0))), .sl (D (x1 - x2).natAbs).length ((D (x1 - x2).natAbs).map I)] = SNc ((combZ p q a b).take (i + 1)) := by
        rw [hst, SNc_app]; rfl
      generalize x1 - x2 = x3 at *
      simp -implicitDefEqProofs (disch := omega) only [go_sem, ht, h1, h3, h4, h6, h9, h10, hH0, hH1', hat, hat']
      ((refine pCall_vw (by refine ⟨⟨?_, ?_⟩, ?_, ?_⟩; rotate_left 2; (first | (right; rintro r rfl; rfl) | left); all_goals ((try simp -implicitDefEqProofs (disch := omega) only [h1, h3, h4, h6, h9, h10, hat, hat', hH0, hH1', go_sem, ht]) <;> rfl)) (m1) ?_; rintro _ nx_1 - rfl hnx_1; simp -implicitDefEqProofs (disch := omega) only [h1, h3, h4, h6, h9, h10, hat, hat', hH0, hH1', go_sem, ht]); (refine pCall_vw (by refine ⟨⟨?_, ?_⟩, ?_, ?_⟩; rotate_left 2; (first | (right; rintro r rfl; rfl) | left); all_goals ((try simp -implicitDefEqProofs (disch := omega) only [h1, h3, h4, h6, h9, h10, hat, hat', hH0, hH1', go_sem, ht]) <;> rfl)) (m2) ?_; rintro _ nx_2 - rfl hnx_2; simp -implicitDefEqProofs (disch := omega) only [h1, h3, h4, h6, h9, h10, hat, hat', hH0, hH1', go_sem, ht]); (refine pCall_vw (by refine ⟨⟨?_, ?_⟩, ?_, ?_⟩; rotate_left 2; (first | (right; rintro r rfl; rfl) | left); all_goals ((try simp -implicitDefEqProofs (disch := omega) only [h1, h3, h4, h6, h9, h10, hat, hat', hH0, hH1', go_sem, ht]) <;> rfl)) (s1) ?_; rintro _ nx_3 - rfl hnx_3; simp -implicitDefEqProofs (disch := omega) only [h1, h3, h4, h6, h9, h10, hat, hat', hH0, hH1', go_sem, ht]))
      have hne : id ≠ nx_3 := by omega
      (refine append_ownSX (by refine ⟨?_, ?_, ?_, ?_, ?_, ?_, ?_, ?_⟩ <;> (simp -implicitDefEqProofs (disch := omega) only [srcP_ref, srcP_sl, srcP_nil, Option.isSome_some, hH, go_sem, ht] <;> rfl)) (by rfl) (by first | omega | (simp <;> omega)) (by first | assumption | (simp <;> omega)) (by first | rfl | simp) (by first | omega | (simp <;> omega)) ?_; intro id1 cap1 rest1 H1 nx1 hH1 hcap1 hid1 hnx1 hfr1 hfs1; simp only [put_nx, withH_nx, put_H, withH_H] at hid1 hnx1 hfr1 hfs1)
      rw [htk] at hH1
      have hA : H1 0 = some [.val (.bool (decide (p < 0))), .sl (D p.natAbs).length ((D p.natAbs).map I)] := by rw [hfr1 0 (by omega) (by omega)]; simp -implicitDefEqProofs (disch := omega) only [go_sem, ht, hH0]
      have hB : H1 1 = some [.val (.bool (decide (q < 0))), .sl (D q.natAbs).length ((D q.natAbs).map I)] := by rw [hfr1 1 (by omega) (by omega)]; simp -implicitDefEqProofs (disch := omega) only [go_sem, ht, hH1']
      simp -implicitDefEqProofs (disch := omega) only [go_sem, ht, h1, h3, h4, h6, h9, h10]
      exact ⟨⟨hA, hB, i + 1, by omega, rfl, id1, cap1, rest1, rfl, hH1, by omega, by omega, by omega⟩, by omega⟩
end
end Go.Proofs.Ytfjdfnlkobeehaa.Ref
namespace Go.Proofs.Ytfjdfnlkobeehaa
theorem nnA_rep {E : En} {ds : List PV} : ∀ {qs : List PV} {vs : List Value}, RepL E (qs ++ ds) vs → RepL E (qs.map nn1 ++ ds) vs
  | [], _, h => h
  | q :: qs, v :: vs, h => by
    simp only [List.cons_append, List.map_cons, RepL] at h ⊢
    exact ⟨nn1_rep h.1, nnA_rep h.2⟩
  | _ :: _, [], h => by simp [RepL] at h
theorem mapM_app' {α β : Type} {f : α → Option β} : ∀ {l m : List α} {a b : List β}, l.mapM f = some a → m.mapM f = some b → (l ++ m).mapM f = some (a ++ b)
  | [], m, a, b, h, h' => by
    obtain rfl : a = [] := by simpa using h.symm
    exact h'
  | x :: l, m, a, b, h, h' => by
    rw [mapMo_cons] at h
    cases hf : f x with
    | none => rw [hf] at h; simp at h
    | some y =>
      cases hg : l.mapM f with
      | none => rw [hf, hg] at h; simp at h
      | some ys =>
        rw [hf, hg] at h
        have e : y :: ys = a := by simpa using h
        subst e
        rw [List.cons_append, mapMo_cons, hf, mapM_app' hg h']; rfl

theorem Gh.rows {st : PS} {id : Nat} {cs qs ws : List PV} {rest : List Value} (D : Nat → Bool) (h0 : st.H id = some (cs ++ rest.map .val)) (hD : D id = false) (hq : cs.mapM (Ytfjdfnlkobeehaa.frz D st.H 1) = some qs) (hw : qs.map nn1 = ws) :
    Gh st (st.withH (upd (dropH D st.H) id (some (ws ++ rest.map .val))) st.nx) := by
  subst hw
  have h1 := Gh.frzH D 1 h0 hD (mapM_app' hq (frzL_flat D st.H 1 (flatL_val rest)))
  refine Gh.trans h1 ?_
  have h2 := Gh.weak (st := st.withH (upd (dropH D st.H) id (some (qs ++ rest.map .val))) st.nx) (id := id) (cs := qs ++ rest.map .val) (qs := qs.map nn1 ++ rest.map .val) (by show upd _ id _ id = _; rw [upd_self]) (fun e => by simpa using e) (fun e => by simpa using e) fun _ _ h => nnA_rep h
  have e : upd (upd (dropH D st.H) id (some (qs ++ rest.map PV.val))) id (some (qs.map nn1 ++ rest.map PV.val)) = upd (dropH D st.H) id (some (qs.map nn1 ++ rest.map PV.val)) := by
    funext j
    by_cases hj : j = id
    · subst hj; rw [upd_self, upd_self]
    · rw [upd_ne _ _ hj, upd_ne _ _ hj, upd_ne _ _ hj]
  rw [← e]
  exact h2
end Go.Proofs.Ytfjdfnlkobeehaa
namespace Go.Proofs.Ytfjdfnlkobeehaa.Ref
open Ytfjdfnlkobeehaa (SWc SW WX WC WV vals vals_len SM lenM Rn vc vc_lt canZ canZ_len combZ combZ_len combZ_take primZ upZ upZ_len SW_def SM_def cZ get_SM' getD_take getD_mem insR insB zeroB getD_vals wrongM)

def SNM (W : List (List Int)) : PV := .sl W.length (W.map SN)
theorem SNM_def (W : List (List Int)) : SNM W = .sl W.length (W.map SN) := rfl
theorem SNM_flat (W : List (List Int)) : flatL (W.map SN) = true := by
  induction W with
  | nil => rfl
  | cons l m ih => simp only [List.map_cons, flatL, SN_def, flat, SNc_flat, ih, Bool.and_self]
theorem get_SNM {W : List (List Int)} {i : Nat} (r : List PV) (h : i < W.length) : (W.map SN ++ r)[i]? = some (SN (W.getD i [])) := by
  rw [List.getElem?_append_left (by simpa using h)]
  simp [h]
theorem get_SNM' {W : List (List Int)} {i : Nat} (h : i < W.length) : (W.map SN)[i]? = some (SN (W.getD i [])) := by simp [h]
theorem set_SNM {W : List (List Int)} {i : Nat} {z : List Int} {n : Nat} (r : List PV) (h : i < W.length) (hn : n = z.length) : spl (W.map SN ++ r) i [.sl n (SNc z)] = (W.set i z).map SN ++ r := by
  subst hn
  unfold spl
  simp only [List.length_singleton]
  rw [List.take_append_of_le_length (by simpa using Nat.le_of_lt h), List.drop_append_of_le_length (by simp; omega), List.set_eq_take_append_cons_drop, if_pos h]
  simp [SN_def]
theorem nn1_SNM (W : List (List Int)) : (W.map SN).map nn1 = W.map SN := by
  rw [List.map_map]; rfl
attribute [go_sem] SNM_def SNM_flat get_SNM
section
variable {W : List (List Int)} {cols : Nat}
set_option maxHeartbeats 4000000 in
theorem copied_z (hW : ∀ z ∈ W, z.length ≤ 1000000) (hlen : W.length ≤ 1000000) : PO1 Try.prog 94 [SNM W] (fun p => p) (W.map SN) := by
  refine PCalls.enter (n := 20) (rs := [.tmp 2]) (tb := []) Try.func94 rfl rfl rfl (by kernel_rfl) (by kernel_rfl) (by simp) fun c hc ht => ?_
  simp -implicitDefEqProofs (disch := omega) only [go_sem, ht]
  refine LW.ghost (Gh.nilW 3 1 (by simp -implicitDefEqProofs (disch := omega) only [go_sem, ht])) ?_
  refine LW.loopG hc ht (by kernel_rfl) (fun t => t.sl 0 = .sl W.length (W.map SN) ∧ ∃ i : Nat, i ≤ W.length ∧ t.sl 4 = .val (.int .i64 i) ∧ ∃ (id cap : Nat) (rest : List Value) (D : Nat → Bool) (cs qs : List PV), t.sl 3 = .ref id 0 i cap 1 ∧ t.H id = some (cs ++ rest.map .val) ∧ i + rest.length = cap ∧ id < t.nx ∧ D id = false ∧ cs.mapM (Ytfjdfnlkobeehaa.frz D t.H 1) = some qs ∧ qs.map nn1 = (W.take i).map SN)
    (fun t => match t.sl 4 with | .val (.int _ k) => W.length - k.toNat | _ => 0) ?_ ?_
  · simp -implicitDefEqProofs (disch := omega) only [go_sem, ht]
    exact ⟨0, Nat.zero_le _, rfl, _, 0, [], fun _ => false, [], [], rfl, upd_self _ _ _, rfl, by omega, rfl, rfl, rfl⟩
  · rintro t ⟨h0, i, hi, h4, id, cap, rest, D, cs, qs, h3, hH, hcap, hid, hD, hfz, hqs⟩
    refine ⟨_, Gh.rows D hH hD hfz hqs, ?_⟩
    by_cases hil : i = W.length
    · subst hil
      rw [List.take_length]
      simp -implicitDefEqProofs (disch := omega) only [go_sem, ht, h0, h3, h4]
      exact end_own1 (mk := fun p => p) (by simp -implicitDefEqProofs (disch := omega) only [go_sem, ht, List.length_map] <;> rfl) (by simp -implicitDefEqProofs (disch := omega) only [go_sem, ht, upd_self] <;> rfl) (by simp) (by simp; omega)
    · have hlt : i < W.length := by omega
      have hgi := get_SNM' hlt
      have hzl := hW _ (getD_mem (d := []) hlt)
      have hst : (W.take (i + 1)).map SN = (W.take i).map SN ++ [SN (W.getD i [])] := by
        rw [getD_take (d := []) hlt, List.map_append]; rfl
      have hln : ((W.take i).map SN).length = i := by simp; omega
      have hfw := fun D H => Ytfjdfnlkobeehaa.frzL_flat D H 1 (SNM_flat (W.take i))
      have hnw := nn1_SNM (W.take i)
      generalize W.getD i [] = z at *
      generalize (W.take i).map SN = ws at *
      simp -implicitDefEqProofs (disch := omega) only [go_sem, ht, h0, h3, h4, hgi]
      refine append_nilS (m := z.length) (sz := 2) (ys := SNc z) T96_elem rfl T103_size T103_bytes T103_zero rfl (by simp -implicitDefEqProofs (disch := omega) only [go_sem, ht, srcP_sl]; rw [if_pos (by rw [SNc_len]; omega)]) (SNc_one z) (by omega) (fun h00 => ?_) (fun capr restr hcapr hpos => ?_)
      · have hz0 : z = [] := List.eq_nil_of_length_eq_zero h00
        subst hz0
        simp -implicitDefEqProofs (disch := omega) only [go_sem, ht, h0, h3, h4]
        have hne : id ≠ t.nx := by omega
        (refine append_ownX (by refine ⟨?_, ?_, ?_, ?_, ?_, ?_, ?_, ?_⟩ <;> (simp -implicitDefEqProofs (disch := omega) only [srcP_ref, srcP_sl, srcP_nil, Option.isSome_some, upd_self, hne, go_sem, ht] <;> rfl)) (by first | omega | (simp <;> omega)) (by first | assumption | (simp <;> omega)) (by first | rfl | simp) (by first | omega | (simp <;> omega)) ?_; intro id1 cap1 rest1 H1 nx1 hH1 hcap1 hid1 hnx1 hfr1 hfs1; (try simp only [put_nx, withH_nx, put_H, withH_H] at hid1 hnx1 hfr1 hfs1); (try simp only [app_U, ← List.map_append] at hH1))
        simp -implicitDefEqProofs (disch := omega) only [go_sem, ht, h0, h3, h4]
        refine ⟨⟨i + 1, by omega, rfl, id1, cap1, rest1, fun _ => false, _, ws ++ [.val (.slice none 0 0)], rfl, hH1, by omega, by omega, rfl, ?_, ?_⟩, by omega⟩
        · exact mapM_app' (hfw _ _) rfl
        · rw [List.map_append, hnw, hst]; rfl
      · simp -implicitDefEqProofs (disch := omega) only [go_sem, ht, h0, h3, h4]
        have hne : id ≠ t.nx := by omega
        have hne2 : id ≠ t.nx + 1 := by omega
        (refine append_ownX (by refine ⟨?_, ?_, ?_, ?_, ?_, ?_, ?_, ?_⟩ <;> (simp -implicitDefEqProofs (disch := omega) only [srcP_ref, srcP_sl, srcP_nil, Option.isSome_some, upd_self, hne, hne2, go_sem, ht] <;> rfl)) (by first | omega | (simp <;> omega)) (by first | assumption | (simp <;> omega)) (by first | rfl | simp) (by first | omega | (simp <;> omega)) ?_; intro id1 cap1 rest1 H1 nx1 hH1 hcap1 hid1 hnx1 hfr1 hfs1; (try simp only [put_nx, withH_nx, put_H, withH_H] at hid1 hnx1 hfr1 hfs1); (try simp only [app_U, ← List.map_append] at hH1))
        simp -implicitDefEqProofs (disch := omega) only [go_sem, ht, h0, h3, h4]
        have hHr : H1 t.nx = some (SNc z ++ restr.map .val) := by rw [hfr1 _ (by omega) (by omega)]; simp -implicitDefEqProofs (disch := omega) only [go_sem, ht, upd_self]
        refine ⟨⟨i + 1, by omega, rfl, id1, cap1, rest1, fun x => decide (x = t.nx), _, ws ++ [SN z], rfl, hH1, by omega, by omega, by simp; omega, ?_, ?_⟩, by omega⟩
        · refine mapM_app' (hfw _ _) ?_
          rw [mapMo_cons, frz_ref, if_pos (by simp), hHr, Option.bind_some, if_pos (by simp [SNc_len]; omega)]
          rw [List.drop_zero, take_SNc z _ rfl, frzL_SNc]; rfl
        · rw [List.map_append, hnw, hst]; rfl
end
end Go.Proofs.Ytfjdfnlkobeehaa.Ref
end

section
set_option maxRecDepth 100000
set_option linter.unusedVariables false
set_option linter.unusedSimpArgs false
namespace Go.Proofs.Ytfjdfnlkobeehaa.Ref
open Ytfjdfnlkobeehaa (SWc SW WX WC WV vals vals_len SM lenM Rn vc vc_lt canZ canZ_len combZ combZ_len combZ_take primZ upZ upZ_len SW_def SM_def cZ get_SM' getD_take getD_mem insR insB zeroB getD_vals wrongM
  EZ echW echT part part_len part_get part_set part_same findP findP_eq findP_end swapL swapL_len swapL_get swp swp_bd clearAll clearAll_len clearAll_get stepE clearZ up_vc0)

theorem getD_map {f : List Int → List Int} {W : List (List Int)} {i : Nat} (h : i < W.length) : (W.map f).getD i [] = f (W.getD i []) := by simp [h]
theorem upZ_z {z : List Int} {k : Nat} (h : ∀ x ∈ z, Z k x) : ∀ x ∈ upZ z, Z k x := fun x hx => by
  rcases Ytfjdfnlkobeehaa.upZ_cases z with e | e
  · rw [e] at hx; exact h x hx
  · rw [e] at hx
    obtain ⟨y, hy, rfl⟩ := List.mem_map.1 hx
    exact (h y hy).neg
section
variable {R : List (List Int)} {cols K B : Nat}
set_option maxHeartbeats 16000000 in
theorem reduce_z (hm : ∀ z ∈ R, (∀ x ∈ z, Z K x) ∧ z.length = cols) (hK : K ≤ 100000) (hcols : cols ≤ 1000) (hlen : R.length ≤ 10000) (hEZ : ∀ c, EZ 4294967296 B R.length cols (echW R c)) (hsh : ∀ c k, k < R.length → ∀ x ∈ (echW R c).1.getD k [], Z (B + 1) x) (hB : 2 * (B + 1) + 1 ≤ 100000) :
    PT Try.prog 57 [SNM R, .val (.int .i64 cols)] (isV (.tup [SNM (echT R cols), .sl (echW R cols).2.length ((echW R cols).2.map I)])) := by
  have hcp := copied_z (W := R) (fun z hz => by rw [(hm z hz).2]; omega) (by omega)
  have hRl : (R.map SN).length = R.length := by simp
  have hUl : (R.map canZ).length = R.length := by simp
  refine PCalls.enter (n := 129) (rs := [.tmp 4, .tmp 5]) (tb := [(22, [(0, []), (1, []), (2, []), (3, []), (4, []), (5, []), (6, []), (7, []), (8, []), (9, []), (10, []), (11, []), (12, []), (13, []), (14, []), (15, []), (16, []), (17, []), (18, []), (19, []), (20, []), (21, []), (22, []), (23, []), (24, [0, 1]), (25, []), (26, [])]), (1000022, [(0, []), (0, []), (0, []), (0, []), (12, []), (28, []), (0, []), (124, []), (252, []), (0, []), (0, []), (1536, []), (3584, []), (0, []), (0, []), (24576, []), (57344, []), (0, []), (253952, []), (516096, []), (0, []), (0, []), (3145728, []), (7340032, []), (16777212, []), (33554431, []), (67108863, [])])]) Try.func57 rfl rfl rfl (by kernel_rfl) (by kernel_rfl) (by simp) fun c hc ht => ?_
  simp -implicitDefEqProofs (disch := omega) only [go_sem, ht]
  (refine pCall_ownF (mk := fun p => p) (Ytfjdfnlkobeehaa.mk_id) (by simp -implicitDefEqProofs (disch := omega) only [go_sem, ht] <;> rfl) (by simp -implicitDefEqProofs (disch := omega) only [go_sem, ht]) (by simp -implicitDefEqProofs (disch := omega) only [go_sem, ht]) (SNM_flat _) (hcp) ?_; intro id1 cap1 rest1 nx1 hid1 hnx1 hcap1; simp only [put_nx, withH_nx, begP_nx, List.length_map] at hid1 hcap1; simp -implicitDefEqProofs (disch := omega) only [go_sem, ht])
  refine LW.loopW hc ht (by kernel_rfl) (fun t => t.sl 1 = .val (.int .i64 cols) ∧ t.sl 6 = .ref id1 0 R.length cap1 1 ∧ id1 < t.nx ∧ ∃ i : Nat, i ≤ R.length ∧ t.sl 7 = .val (.int .i64 i) ∧ t.H id1 = some (((part (R.map canZ) R i).map SN) ++ rest1.map .val))
    (fun t => match t.sl 7 with | .val (.int _ k) => R.length - k.toNat | _ => 0) ?_ ?_
  · simp -implicitDefEqProofs (disch := omega) only [go_sem, ht]
    exact ⟨by omega, 0, Nat.zero_le _, rfl, by simp [part]⟩
  · rintro t ⟨h1, h6, hid, i, hi, h7, hH⟩
    by_cases hil : i = R.length
    · subst hil
      have hpt : part (R.map canZ) R R.length = (echW R 0).1.map upZ := by
        unfold part
        rw [List.take_of_length_le (by omega), List.drop_of_length_le (by omega), List.append_nil]
        show R.map canZ = (R.map primZ).map upZ
        rw [List.map_map]; rfl
      rw [hpt] at hH
      simp -implicitDefEqProofs (disch := omega) only [go_sem, ht, h1, h6, h7]
      refine LW.ghost (Gh.nilW 8 1 (by simp -implicitDefEqProofs (disch := omega) only [go_sem, ht])) ?_
      refine LW.loopW hc ht (by kernel_rfl) (fun t => t.sl 1 = .val (.int .i64 cols) ∧ t.sl 6 = .ref id1 0 R.length cap1 1 ∧ id1 < t.nx ∧ ∃ c : Nat, c ≤ cols ∧ t.sl 9 = .val (.int .i64 c) ∧ t.H id1 = some ((((echW R c).1.map upZ).map SN) ++ rest1.map .val) ∧
          ∃ (ip cp : Nat) (rp : List Value), t.sl 8 = .ref ip 0 (echW R c).2.length cp 1 ∧ t.H ip = some ((echW R c).2.map I ++ rp.map .val) ∧ (echW R c).2.length + rp.length = cp ∧ ip < t.nx ∧ ip ≠ id1)
        (fun t => match t.sl 9 with | .val (.int _ k) => cols - k.toNat | _ => 0) ?_ ?_
      · simp -implicitDefEqProofs (disch := omega) only [go_sem, ht, h1, h6, h7]
        exact ⟨0, Nat.zero_le _, rfl, hH, _, 0, [], rfl, upd_self _ _ _, rfl, by omega, by omega⟩
      · clear h1 h6 hid h7 hH hi hpt
        rintro t ⟨h1, h6, hid, c, hcc, h9, hH, ip, cp, rp, h8, hHp, hcp, hip, hne⟩
        by_cases hcl : c = cols
        · subst hcl
          have E := hEZ c
          have hlW := E.len
          have htle : (echW R c).2.length ≤ R.length := by
            obtain ⟨O, κ, hE, _⟩ := E.st
            exact hE.tle
          unfold echT
          generalize (echW R c).1 = W at *
          generalize (echW R c).2 = Pv at *
          have htk : List.take Pv.length ((W.map upZ).map SN ++ rest1.map .val) = ((W.take Pv.length).map upZ).map SN := by
            rw [List.take_append_of_le_length (by simp; omega), ← List.map_take, ← List.map_take]
          have hfl := SNM_flat ((W.take Pv.length).map upZ)
          have hfl2 := fun d => Ytfjdfnlkobeehaa.frzL_flat (fun _ => true) t.H d hfl
          have hm2 : ((W.take Pv.length).map upZ).length = Pv.length := by simp; omega
          have hif : (if cap1 = 0 then 0 else 0) = 0 := by simp
          have hWl : ((W.map upZ).map SN).length = R.length := by simp; exact hlW
          have hle : Pv.length ≤ W.length + rest1.length := by omega
          have hPl : (Pv.map I).length = Pv.length := by simp
          have hpt2 := take_Il Pv (rp.map .val)
          have hfp := fun d => frzL_I (fun _ => true) t.H d Pv
          have hle2 : Pv.length ≤ Pv.length + rp.length := by omega
          have hpc : Pv.length ≤ cap1 := by omega
          generalize (W.take Pv.length).map upZ = T at *
          simp -implicitDefEqProofs (disch := omega) only [go_sem, ht, h1, h6, h9, h8, hif, hpc]
          (refine end_treeM 2 ?_; simp -implicitDefEqProofs (disch := omega) only [go_sem, ht, hH, hHp, htk, hfl2, hfl, hle, if_pos, hm2, hpt2, hfp, hle2, hPl, flatL_I, hRl, hWl])
          done
        · have E := hEZ c
          have hshc := hsh c
          have hlW := E.len
          have hrow := E.row
          have htle : (echW R c).2.length ≤ R.length := by
            obtain ⟨O, κ, hE, _⟩ := E.st
            exact hE.tle
          have hst : echW R (c + 1) = stepE c (echW R c) := rfl
          obtain ⟨W, eW⟩ : ∃ W, (echW R c).1 = W := ⟨_, rfl⟩
          obtain ⟨Pv, eP⟩ : ∃ Pv, (echW R c).2 = Pv := ⟨_, rfl⟩
          rw [eW] at hH hlW hrow hshc
          rw [eP] at h8 hHp hcp htle
          have hst2 : echW R (c + 1) = if findP W c Pv.length < W.length then (clearAll (swapL W Pv.length (findP W c Pv.length)) Pv.length c, Pv ++ [c]) else (W, Pv) := by
            rw [hst, stepE, eW, eP]
            split
            · rfl
            · rw [← eW, ← eP]
          clear hst E
          have hUW : (W.map upZ).length = R.length := by simp; exact hlW
          have hUget : ∀ k, k < R.length → (W.map upZ).getD k [] = upZ (W.getD k []) := fun k hk => getD_map (f := upZ) (by omega)
          simp -implicitDefEqProofs (disch := omega) only [go_sem, ht, h1, h6, h9, h8]
          refine LW.loopW hc ht (by kernel_rfl) (fun s => s.sl 1 = .val (.int .i64 cols) ∧ s.sl 6 = .ref id1 0 R.length cap1 1 ∧ id1 < s.nx ∧ s.sl 9 = .val (.int .i64 c) ∧ s.sl 10 = .val (.int .i64 Pv.length) ∧ s.H id1 = some (((W.map upZ).map SN) ++ rest1.map .val) ∧
              s.sl 8 = .ref ip 0 Pv.length cp 1 ∧ s.H ip = some (Pv.map I ++ rp.map .val) ∧ ip < s.nx ∧ ∃ i : Nat, i ≤ R.length ∧ Pv.length ≤ i ∧ s.sl 11 = .val (.int .i64 i) ∧ findP W c i = findP W c Pv.length)
            (fun s => match s.sl 11 with | .val (.int _ k) => R.length - k.toNat | _ => 0) ?_ ?_
          · simp -implicitDefEqProofs (disch := omega) only [go_sem, ht, h1, h6, h9, h8]
            exact ⟨hid, hH, hHp, hip, Pv.length, htle, Nat.le_refl _, rfl, rfl⟩
          · clear h1 h6 h9 h8 hid hH hHp hip
            rintro s ⟨h1, h6, hid, h9, h10, hH, h8, hHp, hip, i, hi, hri, h11, hfi⟩
            by_cases hil : i = R.length
            · subst hil
              have hend : findP W c Pv.length = W.length := by rw [← hfi]; exact findP_end (by omega)
              rw [if_neg (by omega)] at hst2
              simp -implicitDefEqProofs (disch := omega) only [go_sem, ht, h1, h6, h9, h8, h10, h11]
              exact ⟨⟨hid, c + 1, by omega, rfl, by rw [hst2]; exact hH, ip, cp, rp, by rw [hst2], by rw [hst2]; exact hHp, by rw [hst2]; exact hcp, hip, hne⟩, by omega⟩
            · have hlt : i < R.length := by omega
              obtain ⟨hzl, hzp⟩ := hrow i hlt
              have hgi := get_SNM (W := W.map upZ) (i := i) (rest1.map .val) (by omega)
              rw [hUget i hlt] at hgi
              have hul : (upZ (W.getD i [])).length = cols := by rw [upZ_len]; exact hzl
              have hat := SNc_at (zs := upZ (W.getD i [])) (i := c) (by omega)
              have hzs := upZ_z (hshc i hlt)
              have hsg := sign_z (okZ (Ytfjdfnlkobeehaa.vc_z hzs c) (by omega))
              have hfe := findP_eq (W := W) (c := c) (i := i) (by omega)
              by_cases hz0 : vc (W.getD i []) c = 0
              · rw [if_neg (by simpa using hz0)] at hfe
                rw [up_vc0.2 hz0, cZ_eq rfl] at hsg
                rw [up_vc0.2 hz0] at hat
                have hfi2 : findP W c (i + 1) = findP W c Pv.length := by rw [← hfe]; exact hfi
                simp -implicitDefEqProofs (disch := omega) only [go_sem, ht, h1, h6, h9, h8, h10, h11, hH, hgi, hul, hat]
                (refine pCall_vw (by refine ⟨⟨?_, ?_⟩, ?_, ?_⟩; rotate_left 2; (first | (right; rintro r rfl; rfl) | left); all_goals ((try simp -implicitDefEqProofs (disch := omega) only [h1, h6, h9, h8, h10, h11, hH, hgi, hul, hat, go_sem, ht]) <;> rfl)) (hsg) ?_; rintro _ nx - rfl hnx; simp -implicitDefEqProofs (disch := omega) only [h1, h6, h9, h8, h10, h11, hH, hgi, hul, hat, go_sem, ht])
                exact ⟨⟨by omega, hHp, by omega, i + 1, by omega, by omega, rfl, hfi2⟩, by omega⟩
              · rw [if_pos (by simpa using hz0)] at hfe
                have hfi3 : findP W c Pv.length = i := by rw [← hfi]; exact hfe
                rw [hfi3, if_pos (by omega)] at hst2
                have hu0 : vc (upZ (W.getD i [])) c ≠ 0 := fun e => hz0 (up_vc0.1 e)
                have hs0 : cZ (vc (upZ (W.getD i [])) c) 0 ≠ 0 := fun e => hu0 (Ytfjdfnlkobeehaa.cZ_zero.1 e)
                have hrlt : Pv.length < R.length := by omega
                have hir : i ≠ R.length := by omega
                have hgr := get_SNM (W := W.map upZ) (i := Pv.length) (rest1.map .val) (by omega)
                rw [hUget _ hrlt] at hgr
                have hur : (upZ (W.getD Pv.length [])).length = cols := by rw [upZ_len]; exact (hrow _ hrlt).1
                have hset1 := set_SNM (W := W.map upZ) (i := i) (z := upZ (W.getD Pv.length [])) (n := cols) (rest1.map .val) (by omega) hur.symm
                have hset2 := set_SNM (W := (W.map upZ).set i (upZ (W.getD Pv.length []))) (i := Pv.length) (z := upZ (W.getD i [])) (n := cols) (rest1.map .val) (by simp; omega) hul.symm
                have hsw : ((W.map upZ).set i (upZ (W.getD Pv.length []))).set Pv.length (upZ (W.getD i [])) = (swapL W Pv.length i).map upZ := by
                  unfold swapL
                  rw [List.map_set, List.map_set]
                  by_cases hpi : Pv.length = i
                  · rw [hpi]
                  · exact List.set_comm _ _ (by omega)
                rw [hsw] at hset2
                generalize cZ (vc (upZ (W.getD i [])) c) 0 = sx at *
                simp -implicitDefEqProofs (disch := omega) only [go_sem, ht, h1, h6, h9, h8, h10, h11, hH, hgi, hul, hat]
                (refine pCall_vw (by refine ⟨⟨?_, ?_⟩, ?_, ?_⟩; rotate_left 2; (first | (right; rintro r rfl; rfl) | left); all_goals ((try simp -implicitDefEqProofs (disch := omega) only [h1, h6, h9, h8, h10, h11, hH, hgi, hul, hat, hgr, hur, hset1, hset2, hir, go_sem, ht]) <;> rfl)) (hsg) ?_; rintro _ nx - rfl hnx; simp -implicitDefEqProofs (disch := omega) only [h1, h6, h9, h8, h10, h11, hH, hgi, hul, hat, hgr, hur, hset1, hset2, hir, go_sem, ht])
                refine ⟨by simp; omega, ?_⟩
                clear hgi hgr hat hset1 hset2 hsg hul hur hzs hu0 hs0
                have hW1l : (swapL W Pv.length i).length = R.length := by rw [swapL_len]; exact hlW
                have hVl : (clearAll (swapL W Pv.length i) Pv.length c).length = R.length := by rw [clearAll_len]; exact hW1l
                have hVr : (clearAll (swapL W Pv.length i) Pv.length c).getD Pv.length [] = (swapL W Pv.length i).getD Pv.length [] := by rw [clearAll_get (by omega), if_pos rfl]
                have hVk : ∀ k, k < R.length → k ≠ Pv.length → (clearAll (swapL W Pv.length i) Pv.length c).getD k [] = clearZ ((swapL W Pv.length i).getD k []) ((swapL W Pv.length i).getD Pv.length []) c := fun k hk hkr => by rw [clearAll_get (by omega), if_neg hkr]
                have hW1 : ∀ k, k < R.length → ((swapL W Pv.length i).getD k []).length = cols ∧ ∀ x ∈ (swapL W Pv.length i).getD k [], Z (B + 1) x := fun k hk => by
                  rw [swapL_get (by omega) (by omega) (by omega)]
                  have hb := swp_bd (i := i) (t := Pv.length) hlt hrlt hk
                  exact ⟨(hrow _ hb).1, hshc _ hb⟩
                have hst3 : echW R (c + 1) = (clearAll (swapL W Pv.length i) Pv.length c, Pv ++ [c]) := hst2
                generalize clearAll (swapL W Pv.length i) Pv.length c = V at *
                generalize swapL W Pv.length i = W1 at *
                refine LW.loopW hc ht (by kernel_rfl) (fun u => u.sl 1 = .val (.int .i64 cols) ∧ u.sl 6 = .ref id1 0 R.length cap1 1 ∧ id1 < u.nx ∧ u.sl 9 = .val (.int .i64 c) ∧ u.sl 10 = .val (.int .i64 Pv.length) ∧
                    u.sl 8 = .ref ip 0 Pv.length cp 1 ∧ u.H ip = some (Pv.map I ++ rp.map .val) ∧ ip < u.nx ∧ ∃ k : Nat, k ≤ R.length ∧ u.sl 13 = .val (.int .i64 k) ∧ u.H id1 = some ((((part V W1 k).map upZ).map SN) ++ rest1.map .val))
                  (fun u => match u.sl 13 with | .val (.int _ k) => R.length - k.toNat | _ => 0) ?_ ?_
                · simp -implicitDefEqProofs (disch := omega) only [go_sem, ht, h1, h6, h9, h8, h10, h11, hHp, hne]
                  exact ⟨by omega, by omega, 0, Nat.zero_le _, rfl, by simp [part]⟩
                · clear h1 h6 h9 h8 h10 h11 hid hH hHp hip
                  rintro u ⟨h1, h6, hid, h9, h10, h8, hHp, hip, k, hk, h13, hH⟩
                  by_cases hkl : k = R.length
                  · have hpt : part V W1 k = V := by
                      unfold part
                      rw [List.take_of_length_le (by omega), List.drop_of_length_le (by omega), List.append_nil]
                    rw [hpt] at hH
                    subst hkl
                    simp -implicitDefEqProofs (disch := omega) only [go_sem, ht, h1, h6, h9, h8, h10, h13]
                    have hpl : (Pv.map I).length = Pv.length := by simp
                    (refine append_ownX (by refine ⟨?_, ?_, ?_, ?_, ?_, ?_, ?_, ?_⟩ <;> (simp -implicitDefEqProofs (disch := omega) only [srcP_ref, srcP_sl, srcP_nil, Option.isSome_some, hHp, go_sem, ht] <;> rfl)) (by simp <;> omega) (by first | assumption | (simp <;> omega)) (by first | rfl | simp) (by first | omega | (simp <;> omega)) ?_; intro id2 cap2 rest2 H2 nx2 hH2 hcap2 hid2 hnx2 hfr2 hfs2; simp only [put_nx, withH_nx, put_H, withH_H] at hid2 hnx2 hfr2 hfs2; (try simp only [app_U, ← List.map_append] at hH2))
                    have hH2' : H2 id2 = some ((Pv ++ [c]).map I ++ rest2.map .val) := by rw [← app_I]; exact hH2
                    have hHw : H2 id1 = some ((V.map upZ).map SN ++ rest1.map .val) := by rw [hfr2 _ (by omega) (by omega)]; simp -implicitDefEqProofs (disch := omega) only [go_sem, ht, hH]
                    simp -implicitDefEqProofs (disch := omega) only [go_sem, ht, h1, h6, h9, h8, h10, h13]
                    exact ⟨⟨by omega, c + 1, by omega, rfl, by rw [hst3]; exact hHw, id2, cap2, rest2, by rw [hst3]; simp, by rw [hst3]; exact hH2', by rw [hst3]; simp; omega, by omega, by omega⟩, by omega⟩
                  · have hklt : k < R.length := by omega
                    have hXl := part_len (V := V) (W := W1) (k := k) (by omega) (by omega)
                    by_cases hkr : k = Pv.length
                    · have hps := part_same (V := V) (W := W1) (k := k) (by omega) (by omega) (by rw [hkr]; exact hVr)
                      rw [hps] at hH
                      subst hkr
                      simp -implicitDefEqProofs (disch := omega) only [go_sem, ht, h1, h6, h9, h8, h10, h13]
                      exact ⟨⟨hid, hHp, hip, Pv.length + 1, by omega, rfl, hH⟩, by omega⟩
                    · obtain ⟨hl1, hz1⟩ := hW1 k hklt
                      obtain ⟨hl2, hz2⟩ := hW1 Pv.length hrlt
                      have hXk : (part V W1 k).getD k [] = W1.getD k [] := by rw [part_get (by omega) (by omega), if_neg (by omega)]
                      have hXr : (part V W1 k).getD Pv.length [] = W1.getD Pv.length [] := by
                        rw [part_get (by omega) (by omega)]
                        split
                        · exact hVr
                        · rfl
                      have hgk := get_SNM (W := (part V W1 k).map upZ) (i := k) (rest1.map .val) (by simp; omega)
                      have hgr := get_SNM (W := (part V W1 k).map upZ) (i := Pv.length) (rest1.map .val) (by simp; omega)
                      rw [getD_map (f := upZ) (by omega), hXk] at hgk
                      rw [getD_map (f := upZ) (by omega), hXr] at hgr
                      have hlk : (upZ (W1.getD k [])).length = cols := by rw [upZ_len]; exact hl1
                      have hlr : (upZ (W1.getD Pv.length [])).length = cols := by rw [upZ_len]; exact hl2
                      have hat := SNc_at (zs := upZ (W1.getD k [])) (i := c) (by omega)
                      have hatr := SNc_at (zs := upZ (W1.getD Pv.length [])) (i := c) (by omega)
                      have zk := Ytfjdfnlkobeehaa.vc_z (upZ_z hz1) c
                      have zr := Ytfjdfnlkobeehaa.vc_z (upZ_z hz2) c
                      have hsg := sign_z (okZ zk (by omega))
                      by_cases hz0 : vc (W1.getD k []) c = 0
                      · have hps := part_same (V := V) (W := W1) (k := k) (by omega) (by omega) (by rw [hVk k hklt hkr, clearZ, if_pos hz0])
                        rw [up_vc0.2 hz0, cZ_eq rfl] at hsg
                        rw [up_vc0.2 hz0] at hat
                        have hH' := hH
                        rw [hps] at hH'
                        generalize upZ (W1.getD k []) = wk at *
                        simp -implicitDefEqProofs (disch := omega) only [go_sem, ht, h1, h6, h9, h8, h10, h13, hH, hgk, hlk, hat]
                        (refine pCall_vw (by refine ⟨⟨?_, ?_⟩, ?_, ?_⟩; rotate_left 2; (first | (right; rintro r rfl; rfl) | left); all_goals ((try simp -implicitDefEqProofs (disch := omega) only [h1, h6, h9, h8, h10, h13, hH, hgk, hlk, hat, go_sem, ht]) <;> rfl)) (hsg) ?_; rintro _ nx - rfl hnx; simp -implicitDefEqProofs (disch := omega) only [h1, h6, h9, h8, h10, h13, hH, hgk, hlk, hat, go_sem, ht])
                        refine ⟨⟨by omega, hHp, by omega, k + 1, by omega, rfl, ?_⟩, by omega⟩
                        rw [← hps]
                      · have hu0 : vc (upZ (W1.getD k [])) c ≠ 0 := fun e => hz0 (up_vc0.1 e)
                        have hs0 : cZ (vc (upZ (W1.getD k [])) c) 0 ≠ 0 := fun e => hu0 (Ytfjdfnlkobeehaa.cZ_zero.1 e)
                        have hj := joined_z zr zk (upZ_z hz1) (upZ_z hz2) (by omega) hB (by omega)
                        have hjc : canZ (combZ (vc (upZ (W1.getD Pv.length [])) c) (vc (upZ (W1.getD k [])) c) (upZ (W1.getD k [])) (upZ (W1.getD Pv.length []))) = upZ (V.getD k []) := by
                          rw [Ytfjdfnlkobeehaa.join_up hz0, hVk k hklt hkr]
                        rw [hjc] at hj
                        have hlv : (upZ (V.getD k [])).length = cols := by rw [upZ_len, hVk k hklt hkr, Ytfjdfnlkobeehaa.clearZ_len (by omega)]; exact hl1
                        have hps := part_set (V := V) (W := W1) (k := k) (by omega) (by omega)
                        have hset := set_SNM (W := (part V W1 k).map upZ) (i := k) (z := upZ (V.getD k [])) (n := cols) (rest1.map .val) (by simp; omega) hlv.symm
                        rw [← List.map_set, hps] at hset
                        rw [SN_def, SN_def, SN_def, hlk, hlr, hlv] at hj
                        clear zk zr hz0 hjc
                        generalize upZ (V.getD k []) = vk at *
                        generalize vc (upZ (W1.getD k [])) c = xk at *
                        generalize vc (upZ (W1.getD Pv.length [])) c = xr at *
                        generalize upZ (W1.getD k []) = wk at *
                        generalize upZ (W1.getD Pv.length []) = wr at *
                        generalize cZ xk 0 = sx at *
                        simp -implicitDefEqProofs (disch := omega) only [go_sem, ht, h1, h6, h9, h8, h10, h13, hH, hgk, hlk, hat]
                        ((refine pCall_vw (by refine ⟨⟨?_, ?_⟩, ?_, ?_⟩; rotate_left 2; (first | (right; rintro r rfl; rfl) | left); all_goals ((try simp -implicitDefEqProofs (disch := omega) only [h1, h6, h9, h8, h10, h13, hH, hgk, hgr, hlk, hlr, hat, hatr, hset, hs0, go_sem, ht]) <;> rfl)) (hsg) ?_; rintro _ nx_1 - rfl hnx_1; simp -implicitDefEqProofs (disch := omega) only [h1, h6, h9, h8, h10, h13, hH, hgk, hgr, hlk, hlr, hat, hatr, hset, hs0, go_sem, ht]); (refine pCall_vw (by refine ⟨⟨?_, ?_⟩, ?_, ?_⟩; rotate_left 2; (first | (right; rintro r rfl; rfl) | left); all_goals ((try simp -implicitDefEqProofs (disch := omega) only [h1, h6, h9, h8, h10, h13, hH, hgk, hgr, hlk, hlr, hat, hatr, hset, hs0, go_sem, ht]) <;> rfl)) (hj) ?_; rintro _ nx_2 - rfl hnx_2; simp -implicitDefEqProofs (disch := omega) only [h1, h6, h9, h8, h10, h13, hH, hgk, hgr, hlk, hlr, hat, hatr, hset, hs0, go_sem, ht]))
                        exact ⟨⟨by omega, hHp, by omega, k + 1, by omega, rfl, rfl⟩, by omega⟩
    · have hlt : i < R.length := by omega
      obtain ⟨hzz, hzl⟩ := hm _ (getD_mem (d := []) hlt)
      have hXl := part_len (V := R.map canZ) (W := R) (k := i) (by omega) (by omega)
      have hgi := get_SNM (W := part (R.map canZ) R i) (i := i) (rest1.map .val) (by omega)
      have hXi : (part (R.map canZ) R i).getD i [] = R.getD i [] := by rw [part_get (by omega) (by omega), if_neg (by omega)]
      rw [hXi] at hgi
      have hcn := canon_z hzz hK (by omega)
      have hcz : (canZ (R.getD i [])).length = cols := by rw [canZ_len]; exact hzl
      have hset := set_SNM (W := part (R.map canZ) R i) (i := i) (z := canZ (R.getD i [])) (n := cols) (rest1.map .val) (by omega) hcz.symm
      rw [← getD_map (f := canZ) hlt, part_set (by omega) (by omega), getD_map (f := canZ) hlt] at hset
      generalize canZ (R.getD i []) = r at *
      generalize R.getD i [] = z at *
      simp -implicitDefEqProofs (disch := omega) only [go_sem, ht, h1, h6, h7, hH, hgi]
      (refine pCall_vw (by refine ⟨⟨?_, ?_⟩, ?_, ?_⟩; rotate_left 2; (first | (right; rintro r rfl; rfl) | left); all_goals ((try simp -implicitDefEqProofs (disch := omega) only [h1, h6, h7, hH, hgi, hcz, hset, hzl, go_sem, ht]) <;> rfl)) (hcn) ?_; rintro _ nx - rfl hnx; simp -implicitDefEqProofs (disch := omega) only [h1, h6, h7, hH, hgi, hcz, hset, hzl, go_sem, ht])
      exact ⟨⟨by omega, i + 1, by omega, rfl, rfl⟩, by omega⟩
end
end Go.Proofs.Ytfjdfnlkobeehaa.Ref
end

section
set_option maxRecDepth 100000
set_option linter.unusedVariables false
set_option linter.unusedSimpArgs false
namespace Go.Proofs.Ytfjdfnlkobeehaa.Ref
open Ytfjdfnlkobeehaa (SWc SW WX WC WV vals vals_len SM lenM Rn vc vc_lt canZ canZ_len combZ combZ_len combZ_take primZ upZ upZ_len SW_def SM_def cZ get_SM' getD_take getD_mem insR insB zeroB getD_vals wrongM echW echT Mx)

theorem canZ_z {z : List Int} {k : Nat} (h : ∀ x ∈ z, Z k x) : ∀ x ∈ canZ z, Z k x := upZ_z fun x hx => by
  obtain ⟨y, hy, rfl⟩ := List.mem_map.1 hx
  exact (h y hy).div
section
variable {m : List (List (Bool × List Nat))}
theorem rwrong_calls {cn : Int} (hml : m.length ≤ 8796093022208) : PT Try.prog 56 [SM m, .val (.int .i64 cn)] (isV (.val (.bool (wrongM m cn)))) := by
  by_cases h1 : cn < 0
  · rw [show wrongM m cn = true from decide_eq_true (.inl h1)]
    refine PCalls.enter (n := 30) (rs := [.tmp 4]) (tb := []) Try.func56 rfl rfl rfl (by kernel_rfl) (by kernel_rfl) (by simp) fun c hc ht => ?_
    simp -implicitDefEqProofs (disch := omega) only [go_sem, ht]
    (refine end_treeW 0 ?_; simp -implicitDefEqProofs (disch := omega) only [go_sem, ht])
  by_cases h2 : 32 < cn
  · rw [show wrongM m cn = true from decide_eq_true (.inr (.inl h2))]
    refine PCalls.enter (n := 30) (rs := [.tmp 4]) (tb := []) Try.func56 rfl rfl rfl (by kernel_rfl) (by kernel_rfl) (by simp) fun c hc ht => ?_
    simp -implicitDefEqProofs (disch := omega) only [go_sem, ht]
    (refine end_treeW 0 ?_; simp -implicitDefEqProofs (disch := omega) only [go_sem, ht])
  by_cases h3 : 64 < m.length
  · rw [show wrongM m cn = true from decide_eq_true (.inr (.inr (.inl h3)))]
    refine PCalls.enter (n := 30) (rs := [.tmp 4]) (tb := []) Try.func56 rfl rfl rfl (by kernel_rfl) (by kernel_rfl) (by simp) fun c hc ht => ?_
    simp -implicitDefEqProofs (disch := omega) only [go_sem, ht]
    (refine end_treeW 0 ?_; simp -implicitDefEqProofs (disch := omega) only [go_sem, ht])
  refine PCalls.enter (n := 30) (rs := [.tmp 4]) (tb := []) Try.func56 rfl rfl rfl (by kernel_rfl) (by kernel_rfl) (by simp) fun c hc ht => ?_
  simp -implicitDefEqProofs (disch := omega) only [go_sem, ht]
  refine LW.loopW hc ht (by kernel_rfl) (fun t => t.sl 0 = .sl m.length (m.map SW) ∧ t.sl 1 = .val (.int .i64 cn) ∧ ∃ i : Nat, i ≤ m.length ∧ t.sl 5 = .val (.int .i64 i) ∧ ∀ l ∈ m.take i, (l.length   : Int) = cn)
    (fun t => match t.sl 5 with | .val (.int _ k) => m.length - k.toNat | _ => 0) ?_ ?_
  · simp -implicitDefEqProofs (disch := omega) only [go_sem, ht]
    exact ⟨0, Nat.zero_le _, rfl, by simp⟩
  · rintro t ⟨h0, h1', i, hi, h5, hall⟩
    by_cases hil : i = m.length
    · subst hil
      rw [List.take_length] at hall
      rw [show wrongM m cn = false from decide_eq_false (by
        rintro (h | h | h | ⟨l, hl, hne⟩)
        · exact h1 h
        · exact h2 h
        · exact h3 h
        · exact hne (hall l hl))]
      simp -implicitDefEqProofs (disch := omega) only [go_sem, ht, h0, h1', h5]
      (refine end_treeW 0 ?_; simp -implicitDefEqProofs (disch := omega) only [go_sem, ht])
    · have hlt : i < m.length := by omega
      have hgi := get_SM' hlt
      have hmem := getD_mem (d := []) hlt
      have hst := getD_take (d := []) hlt
      by_cases he : ((m.getD i []).length   : Int) = cn
      · generalize m.getD i [] = l0 at *
        simp -implicitDefEqProofs (disch := omega) only [go_sem, ht, h0, h1', h5, hgi, he]
        refine ⟨⟨i + 1, by omega, rfl, fun l hl => ?_⟩, by omega⟩
        rw [hst] at hl
        rcases List.mem_append.1 hl with hl | hl
        · exact hall l hl
        · have : l = l0 := by simpa using hl
          rw [this]; exact he
      · rw [show wrongM m cn = true from decide_eq_true (.inr (.inr (.inr ⟨_, hmem, he⟩)))]
        generalize m.getD i [] = l0 at *
        simp -implicitDefEqProofs (disch := omega) only [go_sem, ht, h0, h1', h5, hgi, he]
        (refine end_treeW 0 ?_; simp -implicitDefEqProofs (disch := omega) only [go_sem, ht])
theorem read_z {k : Nat} (hm : ∀ l ∈ m, Rn l k ∧ l.length ≤ 1000000) (hml : m.length ≤ 1000000) : PT Try.prog 58 [SM m] (isV (SNM (m.map vals))) := by
  have hvl : (m.map vals).length = m.length := by simp
  refine PCalls.enter (n := 20) (rs := [.tmp 2]) (tb := []) Try.func58 rfl rfl rfl (by kernel_rfl) (by kernel_rfl) (by simp) fun c hc ht => ?_
  simp -implicitDefEqProofs (disch := omega) only [go_sem, ht]
  refine LW.ghost (Gh.nilW 3 1 (by simp -implicitDefEqProofs (disch := omega) only [go_sem, ht])) ?_
  refine LW.loopW hc ht (by kernel_rfl) (fun t => t.sl 0 = .sl m.length (m.map SW) ∧ ∃ i : Nat, i ≤ m.length ∧ t.sl 4 = .val (.int .i64 i) ∧ ∃ (id cap : Nat) (rest : List Value), t.sl 3 = .ref id 0 i cap 1 ∧ t.H id = some (((m.map vals).take i).map SN ++ rest.map .val) ∧ i + rest.length = cap ∧ id < t.nx)
    (fun t => match t.sl 4 with | .val (.int _ k) => m.length - k.toNat | _ => 0) ?_ ?_
  · simp -implicitDefEqProofs (disch := omega) only [go_sem, ht]
    exact ⟨0, Nat.zero_le _, rfl, _, 0, [], rfl, upd_self _ _ _, rfl, by omega⟩
  · rintro t ⟨h0, i, hi, h4, id, cap, rest, h3, hH, hcap, hid⟩
    by_cases hil : i = m.length
    · subst hil
      rw [List.take_of_length_le (by omega)] at hH
      have hml2 : ((m.map vals).map SN).length = m.length := by simp
      have htk : List.take m.length ((m.map vals).map SN ++ rest.map .val) = (m.map vals).map SN := by
        rw [List.take_append_of_le_length (by omega), List.take_of_length_le (by omega)]
      have hle : m.length ≤ ((m.map vals).map SN).length + rest.length := by omega
      have hfl := Ytfjdfnlkobeehaa.frzL_flat (fun _ => true) t.H 1 (SNM_flat (m.map vals))
      have hfl0 := SNM_flat (m.map vals)
      generalize m.map vals = W at *
      simp -implicitDefEqProofs (disch := omega) only [go_sem, ht, h0, h3, h4]
      (refine end_treeW 2 ?_; simp -implicitDefEqProofs (disch := omega) only [go_sem, ht, hH, htk, hfl, hfl0, hle, hvl])
      omega
    · have hlt : i < m.length := by omega
      have hgi := get_SM' hlt
      obtain ⟨hrn, hlw⟩ := hm _ (getD_mem (d := []) hlt)
      have hct := all_z hrn hlw
      have hst : ((m.map vals).take i).map SN ++ [.sl (vals (m.getD i [])).length (SNc (vals (m.getD i [])))] = ((m.map vals).take (i + 1)).map SN := by
        rw [getD_take (l := m.map vals) (d := []) (by omega), List.map_append, getD_vals hlt]; rfl
      have hln : (((m.map vals).take i).map SN).length = i := by simp; omega
      generalize m.map vals = W at *
      generalize vals (m.getD i []) = z0 at *
      generalize m.getD i [] = l0 at *
      simp -implicitDefEqProofs (disch := omega) only [go_sem, ht, h0, h3, h4, hgi]
      (refine pCall_vw (by refine ⟨⟨?_, ?_⟩, ?_, ?_⟩; rotate_left 2; (first | (right; rintro r rfl; rfl) | left); all_goals ((try simp -implicitDefEqProofs (disch := omega) only [h0, h3, h4, hgi, go_sem, ht]) <;> rfl)) (hct) ?_; rintro _ nx - rfl hnx; simp -implicitDefEqProofs (disch := omega) only [h0, h3, h4, hgi, go_sem, ht])
      have hne : id ≠ nx := by omega
      (refine append_ownX (by refine ⟨?_, ?_, ?_, ?_, ?_, ?_, ?_, ?_⟩ <;> (simp -implicitDefEqProofs (disch := omega) only [srcP_ref, srcP_sl, srcP_nil, Option.isSome_some, hH, go_sem, ht] <;> rfl)) (by first | omega | (simp <;> omega)) (by first | assumption | (simp <;> omega)) (by first | rfl | simp) (by first | omega | (simp <;> omega)) ?_; intro id1 cap1 rest1 H1 nx1 hH1 hcap1 hid1 hnx1 hfr1 hfs1; (try simp only [put_nx, withH_nx, put_H, withH_H] at hid1 hnx1 hfr1 hfs1); (try simp only [app_U, ← List.map_append] at hH1))
      rw [hst] at hH1
      simp -implicitDefEqProofs (disch := omega) only [go_sem, ht, h0, h3, h4]
      exact ⟨⟨i + 1, by omega, rfl, id1, cap1, rest1, rfl, hH1, by omega, by omega⟩, by omega⟩
end
section
variable {R T : List (List Int)} {Pv : List Nat} {v : List Int} {cols j k : Nat}
theorem insR_z (hT : ∀ i, i < Pv.length → ∀ x ∈ T.getD i [], Z j x) (hv : ∀ x ∈ v, Z k x) : ∀ i, i ≤ Pv.length → ∀ x ∈ insR T Pv v i, Z (k + i * (j + 1)) x
  | 0, _ => by simpa [insR] using hv
  | i + 1, hi => by
    have ih := insR_z hT hv i (by omega)
    have hs : k + (i + 1) * (j + 1) = k + i * (j + 1) + j + 1 := by rw [Nat.succ_mul]; omega
    rw [insR]
    split
    · intro x hx
      exact (ih x hx).mono (by omega)
    · rw [hs]
      have hTi := hT i (by omega)
      exact canZ_z (Ytfjdfnlkobeehaa.combZ_z (Ytfjdfnlkobeehaa.vc_z hTi _) (Ytfjdfnlkobeehaa.vc_z ih _) ih hTi)
set_option maxHeartbeats 8000000 in
theorem in_z (hr : PT Try.prog 57 [SNM R, .val (.int .i64 cols)] (isV (.tup [SNM T, .sl Pv.length (Pv.map I)]))) (hT : ∀ i, i < Pv.length → (T.getD i []).length = cols ∧ ∀ x ∈ T.getD i [], Z j x) (hTl : T.length = Pv.length) (hPc : ∀ c ∈ Pv, c < cols) (hv : ∀ x ∈ v, Z k x) (hvl : v.length = cols) (hcols : cols ≤ 1000) (hPl : Pv.length ≤ 1000)
    (hk : 2 * (k + Pv.length * (j + 1) + j) + 1 ≤ 100000) : PT Try.prog 64 [SNM R, .val (.int .i64 cols), SN v] (isV (.val (.bool (insB T Pv v)))) := by
  have hB := Ytfjdfnlkobeehaa.insR_B (T := T) (Pv := Pv) (v := v) hvl (fun i hi => (hT i hi).1)
  have hln := fun i hi => (Ytfjdfnlkobeehaa.insR_ln (T := T) (Pv := Pv) (v := v) hvl (fun i hi => (hT i hi).1) i hi).2.1
  have hzz := insR_z (T := T) (Pv := Pv) (fun i hi => (hT i hi).2) hv
  rw [← hB]
  by_cases hv0 : cols = 0
  · have hP0 : Pv = [] := by
      cases Pv with
      | nil => rfl
      | cons p Pv => have := hPc p (List.mem_cons_self ..); omega
    have hT0 : T = [] := List.eq_nil_of_length_eq_zero (by rw [hTl, hP0]; rfl)
    have hve : v = [] := List.eq_nil_of_length_eq_zero (by omega)
    subst hP0 hT0 hve hv0
    have e : zeroB (insR [] [] [] ([] : List Nat).length) = true := by decide
    rw [e]
    refine PCalls.enter (n := 66) (rs := [.tmp 6]) (tb := [(8, [(0, []), (1, []), (2, []), (3, []), (4, []), (5, []), (6, []), (7, []), (8, []), (9, []), (10, []), (11, []), (12, []), (13, []), (14, []), (15, []), (16, []), (17, [])]), (1000008, [(0, []), (0, []), (3, []), (7, []), (0, []), (31, []), (63, []), (0, []), (0, []), (0, []), (768, []), (1792, []), (0, []), (0, []), (12288, []), (28672, []), (65535, []), (131071, [])])]) Try.func64 rfl rfl rfl (by kernel_rfl) (by kernel_rfl) (by simp) fun c hc ht => ?_
    simp -implicitDefEqProofs (disch := omega) only [go_sem, ht]
    (refine pCall_vw (by refine ⟨⟨?_, ?_⟩, ?_, ?_⟩; rotate_left 2; (first | (right; rintro r rfl; rfl) | left); all_goals ((try simp -implicitDefEqProofs (disch := omega) only [go_sem, ht]) <;> rfl)) (hr) ?_; rintro _ nx - rfl hnx; simp -implicitDefEqProofs (disch := omega) only [go_sem, ht])
    refine append_nilS (m := 0) (sz := 2) (ys := []) T96_elem rfl T103_size T103_bytes T103_zero rfl (by simp -implicitDefEqProofs (disch := omega) only [go_sem, ht, srcP_sl]; rfl) rfl (by omega) (fun h00 => ?_) (fun capr restr hcapr hpos => absurd hpos (by omega))
    simp -implicitDefEqProofs (disch := omega) only [go_sem, ht]
    refine LW.loopW hc ht (by kernel_rfl) (fun t => t.sl 7 = .sl 0 [] ∧ t.sl 9 = .val (.slice none 0 0) ∧ t.sl 10 = .val (.int .i64 0)) (fun t => 0) ?_ ?_
    · simp -implicitDefEqProofs (disch := omega) only [go_sem, ht]
      done
    · rintro t ⟨h7, h9, h10⟩
      simp -implicitDefEqProofs (disch := omega) only [go_sem, ht, h7, h9, h10]
      refine LW.loopW hc ht (by kernel_rfl) (fun t => t.sl 9 = .val (.slice none 0 0) ∧ t.sl 12 = .val (.int .i64 0)) (fun t => 0) ?_ ?_
      · simp -implicitDefEqProofs (disch := omega) only [go_sem, ht, h9]
        done
      · rintro u ⟨h9, h12⟩
        simp -implicitDefEqProofs (disch := omega) only [go_sem, ht, h9, h12]
        (refine end_treeW 0 ?_; simp -implicitDefEqProofs (disch := omega) only [go_sem, ht])
  · have hvp : 0 < v.length := by omega
    have hfv := SNc_flat v
    have hfz := fun H => Ytfjdfnlkobeehaa.frzL_flat (fun _ => true) H 0 hfv
    have hvt : ∀ rest : List Value, List.take (v.length * 2) (SNc v ++ rest.map .val) = SNc v := fun rest => take_SNc v _ rfl
    have hvn := SNc_len v
    refine PCalls.enter (n := 66) (rs := [.tmp 6]) (tb := [(8, [(0, []), (1, []), (2, []), (3, []), (4, []), (5, []), (6, []), (7, []), (8, []), (9, []), (10, []), (11, []), (12, []), (13, []), (14, []), (15, []), (16, []), (17, [])]), (1000008, [(0, []), (0, []), (3, []), (7, []), (0, []), (31, []), (63, []), (0, []), (0, []), (0, []), (768, []), (1792, []), (0, []), (0, []), (12288, []), (28672, []), (65535, []), (131071, [])])]) Try.func64 rfl rfl rfl (by kernel_rfl) (by kernel_rfl) (by simp) fun c hc ht => ?_
    simp -implicitDefEqProofs (disch := omega) only [go_sem, ht]
    (refine pCall_vw (by refine ⟨⟨?_, ?_⟩, ?_, ?_⟩; rotate_left 2; (first | (right; rintro r rfl; rfl) | left); all_goals ((try simp -implicitDefEqProofs (disch := omega) only [go_sem, ht]) <;> rfl)) (hr) ?_; rintro _ nx - rfl hnx; simp -implicitDefEqProofs (disch := omega) only [go_sem, ht])
    refine append_nilS (m := v.length) (sz := 2) (ys := SNc v) T96_elem rfl T103_size T103_bytes T103_zero rfl (by simp -implicitDefEqProofs (disch := omega) only [go_sem, ht, srcP_sl]; rw [if_pos (by omega)]) (SNc_one v) (by omega) (fun h00 => by omega) (fun capr restr hcapr hpos => ?_)
    have hle : v.length * 2 ≤ (SNc v).length + restr.length := by omega
    simp -implicitDefEqProofs (disch := omega) only [go_sem, ht]
    refine LW.ghost (Gh.frzW 9 1 (q := .sl v.length (SNc v)) (by simp -implicitDefEqProofs (disch := omega) only [go_sem, ht, upd_self, hvt, hfz, hle, if_pos])) ?_
    refine LW.loopW hc ht (by kernel_rfl) (fun t => t.sl 7 = .sl Pv.length (T.map SN) ∧ t.sl 8 = .sl Pv.length (Pv.map I) ∧ ∃ i : Nat, i ≤ Pv.length ∧ t.sl 10 = .val (.int .i64 i) ∧ t.sl 9 = .sl cols (SNc (insR T Pv v i)))
      (fun t => match t.sl 10 with | .val (.int _ x) => Pv.length - x.toNat | _ => 0) ?_ ?_
    · simp -implicitDefEqProofs (disch := omega) only [go_sem, ht, hTl]
      exact ⟨0, Nat.zero_le _, rfl, by rw [hvl]; rfl⟩
    · rintro t ⟨h7, h8, i, hi, h10, h9⟩
      by_cases hil : i = Pv.length
      · subst hil
        have hwl := hln Pv.length (Nat.le_refl _)
        have hwz := hzz Pv.length (Nat.le_refl _)
        generalize insR T Pv v Pv.length = w at *
        simp -implicitDefEqProofs (disch := omega) only [go_sem, ht, h7, h8, h10, h9]
        refine LW.loopW hc ht (by kernel_rfl) (fun u => u.sl 9 = .sl cols (SNc w) ∧ ∃ n : Nat, n ≤ cols ∧ u.sl 12 = .val (.int .i64 n) ∧ ∀ x ∈ w.take n, x = 0)
          (fun u => match u.sl 12 with | .val (.int _ x) => cols - x.toNat | _ => 0) ?_ ?_
        · simp -implicitDefEqProofs (disch := omega) only [go_sem, ht, h9]
          exact ⟨0, Nat.zero_le _, rfl, by simp⟩
        · rintro u ⟨h9, n, hn, h12, hz⟩
          by_cases hnl : n = cols
          · have e : zeroB w = true := by
              rw [List.take_of_length_le (by omega)] at hz
              exact decide_eq_true hz
            subst hnl
            rw [e]
            simp -implicitDefEqProofs (disch := omega) only [go_sem, ht, h9, h12]
            (refine end_treeW 0 ?_; simp -implicitDefEqProofs (disch := omega) only [go_sem, ht])
          · have hnt : n < w.length := by omega
            have hat := SNc_at hnt
            have hsg := sign_z (okZ (Ytfjdfnlkobeehaa.vc_z hwz n) (by omega))
            by_cases h0 : vc w n = 0
            · rw [h0, cZ_eq rfl] at hsg
              rw [h0] at hat
              have hz2 : ∀ x ∈ w.take (n + 1), x = 0 := fun x hx => by
                rw [List.take_succ_eq_append_getElem hnt] at hx
                rcases List.mem_append.1 hx with hx | hx
                · exact hz x hx
                · rw [vc_lt hnt] at h0
                  have : x = w[n] := by simpa using hx
                  rw [this]; exact h0
              simp -implicitDefEqProofs (disch := omega) only [go_sem, ht, h9, h12, hat]
              (refine pCall_vw (by refine ⟨⟨?_, ?_⟩, ?_, ?_⟩; rotate_left 2; (first | (right; rintro r rfl; rfl) | left); all_goals ((try simp -implicitDefEqProofs (disch := omega) only [h9, h12, hat, go_sem, ht]) <;> rfl)) (hsg) ?_; rintro _ nx - rfl hnx; simp -implicitDefEqProofs (disch := omega) only [h9, h12, hat, go_sem, ht])
              exact ⟨⟨n + 1, by omega, rfl, hz2⟩, by omega⟩
            · have e : zeroB w = false := decide_eq_false fun hall => h0 (by
                rw [vc_lt hnt]; exact hall _ (List.getElem_mem _))
              have hs0 : cZ (vc w n) 0 ≠ 0 := fun e => h0 (Ytfjdfnlkobeehaa.cZ_zero.1 e)
              rw [e]
              generalize cZ (vc w n) 0 = sx at *
              simp -implicitDefEqProofs (disch := omega) only [go_sem, ht, h9, h12, hat]
              (refine pCall_vw (by refine ⟨⟨?_, ?_⟩, ?_, ?_⟩; rotate_left 2; (first | (right; rintro r rfl; rfl) | left); all_goals ((try simp -implicitDefEqProofs (disch := omega) only [h9, h12, hat, go_sem, ht]) <;> rfl)) (hsg) ?_; rintro _ nx - rfl hnx; simp -implicitDefEqProofs (disch := omega) only [h9, h12, hat, go_sem, ht])
              (refine end_treeW 0 ?_; simp -implicitDefEqProofs (disch := omega) only [go_sem, ht])
      · have hlt : i < Pv.length := by omega
        have hgp : (Pv.map I)[i]? = some (.val (.int .i64 (Pv.getD i 0 : Nat))) := by simp [hlt, I]
        have hpc : Pv.getD i 0 < cols := hPc _ (getD_mem hlt)
        have hgt := get_SNM' (W := T) (i := i) (by omega)
        obtain ⟨hTc, hTz⟩ := hT i hlt
        have hwl := hln i hi
        have hwz := hzz i hi
        have hsz : i * (j + 1) + (j + 1) ≤ Pv.length * (j + 1) := by
          have := Nat.mul_le_mul_right (j + 1) (show i + 1 ≤ Pv.length from hlt)
          rw [Nat.succ_mul] at this
          exact this
        have hst : insR T Pv v (i + 1) = if vc (insR T Pv v i) (Pv.getD i 0) = 0 then insR T Pv v i else canZ (combZ (vc (T.getD i []) (Pv.getD i 0)) (vc (insR T Pv v i) (Pv.getD i 0)) (insR T Pv v i) (T.getD i [])) := rfl
        have hwl2 := hln (i + 1) hlt
        have hat := SNc_at (zs := insR T Pv v i) (i := Pv.getD i 0) (by omega)
        have hatT := SNc_at (zs := T.getD i []) (i := Pv.getD i 0) (by omega)
        have hsg := sign_z (okZ (Ytfjdfnlkobeehaa.vc_z hwz (Pv.getD i 0)) (by omega))
        by_cases h0 : vc (insR T Pv v i) (Pv.getD i 0) = 0
        · rw [if_pos h0] at hst
          rw [h0, cZ_eq rfl] at hsg
          rw [h0] at hat
          rw [← hst] at hat h9
          obtain ⟨w, ew⟩ : ∃ w, insR T Pv v (i + 1) = w := ⟨_, rfl⟩
          rw [ew] at hat h9 hwl2
          generalize Pv.getD i 0 = p at *
          simp -implicitDefEqProofs (disch := omega) only [go_sem, ht, h7, h8, h10, h9, hgp, hat]
          (refine pCall_vw (by refine ⟨⟨?_, ?_⟩, ?_, ?_⟩; rotate_left 2; (first | (right; rintro r rfl; rfl) | left); all_goals ((try simp -implicitDefEqProofs (disch := omega) only [h7, h8, h10, h9, hgp, hat, go_sem, ht]) <;> rfl)) (hsg) ?_; rintro _ nx - rfl hnx; simp -implicitDefEqProofs (disch := omega) only [h7, h8, h10, h9, hgp, hat, go_sem, ht])
          exact ⟨⟨i + 1, by omega, rfl, by rw [ew]⟩, by omega⟩
        · rw [if_neg h0] at hst
          have hs0 : cZ (vc (insR T Pv v i) (Pv.getD i 0)) 0 ≠ 0 := fun e => h0 (Ytfjdfnlkobeehaa.cZ_zero.1 e)
          have hj := joined_z (k := k + i * (j + 1) + j) ((Ytfjdfnlkobeehaa.vc_z hTz (Pv.getD i 0)).mono (by omega)) ((Ytfjdfnlkobeehaa.vc_z hwz (Pv.getD i 0)).mono (by omega)) (fun x hx => (hwz x hx).mono (by omega)) (fun x hx => (hTz x hx).mono (by omega)) (by omega) (by omega) (by omega)
          rw [← hst] at hj
          rw [SN_def, SN_def, SN_def, hwl, hTc, hwl2] at hj
          clear hst
          obtain ⟨w2, ew⟩ : ∃ w2, insR T Pv v (i + 1) = w2 := ⟨_, rfl⟩
          rw [ew] at hj hwl2
          generalize cZ (vc (insR T Pv v i) (Pv.getD i 0)) 0 = sx at *
          generalize vc (insR T Pv v i) (Pv.getD i 0) = x1 at *
          generalize vc (T.getD i []) (Pv.getD i 0) = x2 at *
          generalize insR T Pv v i = w at *
          generalize T.getD i [] = tr at *
          generalize Pv.getD i 0 = p at *
          simp -implicitDefEqProofs (disch := omega) only [go_sem, ht, h7, h8, h10, h9, hgp, hat]
          ((refine pCall_vw (by refine ⟨⟨?_, ?_⟩, ?_, ?_⟩; rotate_left 2; (first | (right; rintro r rfl; rfl) | left); all_goals ((try simp -implicitDefEqProofs (disch := omega) only [h7, h8, h10, h9, hgp, hat, hgt, hTc, hatT, hs0, go_sem, ht]) <;> rfl)) (hsg) ?_; rintro _ nx_1 - rfl hnx_1; simp -implicitDefEqProofs (disch := omega) only [h7, h8, h10, h9, hgp, hat, hgt, hTc, hatT, hs0, go_sem, ht]); (refine pCall_vw (by refine ⟨⟨?_, ?_⟩, ?_, ?_⟩; rotate_left 2; (first | (right; rintro r rfl; rfl) | left); all_goals ((try simp -implicitDefEqProofs (disch := omega) only [h7, h8, h10, h9, hgp, hat, hgt, hTc, hatT, hs0, go_sem, ht]) <;> rfl)) (hj) ?_; rintro _ nx_2 - rfl hnx_2; simp -implicitDefEqProofs (disch := omega) only [h7, h8, h10, h9, hgp, hat, hgt, hTc, hatT, hs0, go_sem, ht]))
          exact ⟨⟨i + 1, by omega, rfl, by rw [ew]⟩, by omega⟩
end
section
variable {m : List (List (Bool × List Nat))} {v : List (Bool × List Nat)} {B k : Nat}
theorem mred (h : Mx m B) {n : Nat} (hlc : ∀ l ∈ m, l.length = n) (hn : n ≤ 32) (hml : m.length ≤ 64) (hB : 2 * (B + 1) + 1 ≤ 100000) :
    PT Try.prog 57 [SNM (m.map vals), .val (.int .i64 n)] (isV (.tup [SNM (echT (m.map vals) n), .sl (echW (m.map vals) n).2.length ((echW (m.map vals) n).2.map I)])) := by
  obtain ⟨h1, h2⟩ := h.ez hlc
  refine reduce_z (K := B) (B := B) (fun z hz => ?_) (by omega) (by omega) (by simp; omega) (by simpa using h1) (by simpa using h2) hB
  obtain ⟨l, hl, rfl⟩ := List.mem_map.1 hz
  exact ⟨(h.rn hl).z, by rw [vals_len]; exact hlc l hl⟩
theorem mread (h : Mx m B) {n : Nat} (hlc : ∀ l ∈ m, l.length = n) (hn : n ≤ 32) (hml : m.length ≤ 64) : PT Try.prog 58 [SM m] (isV (SNM (m.map vals))) :=
  read_z (fun l hl => ⟨h.rn hl, by rw [hlc l hl]; omega⟩) (by omega)

theorem rins_calls (h : Mx m B) {cn : Int} (hv : Rn v k) (hvl : v.length ≤ 1000000) (hsz : 2 * (k + 32 * (B + 2) + (B + 1)) + 1 ≤ 100000) :
    PT Try.prog 29 [SM m, .val (.int .i64 cn), SW v] (isV (.tup [.val (.bool (Ytfjdfnlkobeehaa.mIns m cn v).1), .val (.int .i64 (Ytfjdfnlkobeehaa.mIns m cn v).2)])) := by
  have hw := rwrong_calls (m := m) (cn := cn) (by have := h.n; omega)
  have hall := all_z hv hvl
  unfold Ytfjdfnlkobeehaa.mIns
  by_cases hb : wrongM m cn = true
  · rw [hb] at hw
    rw [hb, Bool.true_or, if_pos rfl]
    refine PCalls.enter (n := 23) (rs := [.tmp 6, .tmp 7]) (tb := []) Try.func29 rfl rfl rfl (by kernel_rfl) (by kernel_rfl) (by simp) fun c hc ht => ?_
    simp -implicitDefEqProofs (disch := omega) only [go_sem, ht]
    (refine pCall_vw (by refine ⟨⟨?_, ?_⟩, ?_, ?_⟩; rotate_left 2; (first | (right; rintro r rfl; rfl) | left); all_goals ((try simp -implicitDefEqProofs (disch := omega) only [go_sem, ht]) <;> rfl)) (hw) ?_; rintro _ nx - rfl hnx; simp -implicitDefEqProofs (disch := omega) only [go_sem, ht])
    (refine end_treeW 0 ?_; simp -implicitDefEqProofs (disch := omega) only [go_sem, ht])
  · have hb' : wrongM m cn = false := by simpa using hb
    rw [hb'] at hw
    by_cases hvc : (v.length : Int) = cn
    · obtain ⟨n, rfl, hn, hml, hlc⟩ := Ytfjdfnlkobeehaa.wrongM_false hb'
      have hvn : v.length = n := by omega
      rw [hb', Bool.false_or, if_neg (by simp [hvn]), Int.toNat_natCast]
      have hrd := mread h hlc hn hml
      have hrr := h.rr hlc
      have hPl : (echW (m.map vals) n).2.length ≤ 32 := by
        have := Ytfjdfnlkobeehaa.inc_nodup hrr.inc
        have h2 := Ytfjdfnlkobeehaa.sub_len this (m := List.range n) (fun x hx => List.mem_range.2 (hrr.col x hx))
        rw [List.length_range] at h2; omega
      have hmul : (echW (m.map vals) n).2.length * (B + 1 + 1) ≤ 32 * (B + 2) := Nat.mul_le_mul_right _ hPl
      have hin := in_z (R := m.map vals) (T := echT (m.map vals) n) (Pv := (echW (m.map vals) n).2) (v := vals v) (cols := n) (j := B + 1) (k := k) (mred h hlc hn hml (by omega)) (fun i hi => hrr.row i (by rw [hrr.len]; exact hi)) hrr.len hrr.col hv.z (by rw [vals_len]; exact hvn) (by omega) (by omega) (by omega)
      have hml2 : (m.map vals).length = m.length := by simp
      have hvl2 : (vals v).length = n := by rw [vals_len]; exact hvn
      rw [SNM_def, hml2, SN_def, hvl2] at hin
      rw [SN_def, hvl2] at hall
      rw [SNM_def, hml2] at hrd
      generalize insB (echT (m.map vals) n) (echW (m.map vals) n).2 (vals v) = b at *
      refine PCalls.enter (n := 23) (rs := [.tmp 6, .tmp 7]) (tb := []) Try.func29 rfl rfl rfl (by kernel_rfl) (by kernel_rfl) (by simp) fun c hc ht => ?_
      simp -implicitDefEqProofs (disch := omega) only [go_sem, ht, hvn]
      ((refine pCall_vw (by refine ⟨⟨?_, ?_⟩, ?_, ?_⟩; rotate_left 2; (first | (right; rintro r rfl; rfl) | left); all_goals ((try simp -implicitDefEqProofs (disch := omega) only [hvn, go_sem, ht]) <;> rfl)) (hw) ?_; rintro _ nx_3 - rfl hnx_3; simp -implicitDefEqProofs (disch := omega) only [hvn, go_sem, ht]); (refine pCall_vw (by refine ⟨⟨?_, ?_⟩, ?_, ?_⟩; rotate_left 2; (first | (right; rintro r rfl; rfl) | left); all_goals ((try simp -implicitDefEqProofs (disch := omega) only [hvn, go_sem, ht]) <;> rfl)) (hrd) ?_; rintro _ nx_4 - rfl hnx_4; simp -implicitDefEqProofs (disch := omega) only [hvn, go_sem, ht]); (refine pCall_vw (by refine ⟨⟨?_, ?_⟩, ?_, ?_⟩; rotate_left 2; (first | (right; rintro r rfl; rfl) | left); all_goals ((try simp -implicitDefEqProofs (disch := omega) only [hvn, go_sem, ht]) <;> rfl)) (hall) ?_; rintro _ nx_5 - rfl hnx_5; simp -implicitDefEqProofs (disch := omega) only [hvn, go_sem, ht]); (refine pCall_vw (by refine ⟨⟨?_, ?_⟩, ?_, ?_⟩; rotate_left 2; (first | (right; rintro r rfl; rfl) | left); all_goals ((try simp -implicitDefEqProofs (disch := omega) only [hvn, go_sem, ht]) <;> rfl)) (hin) ?_; rintro _ nx_6 - rfl hnx_6; simp -implicitDefEqProofs (disch := omega) only [hvn, go_sem, ht]))
      (refine end_treeW 0 ?_; simp -implicitDefEqProofs (disch := omega) only [go_sem, ht])
    · rw [if_pos (by simp [hvc])]
      refine PCalls.enter (n := 23) (rs := [.tmp 6, .tmp 7]) (tb := []) Try.func29 rfl rfl rfl (by kernel_rfl) (by kernel_rfl) (by simp) fun c hc ht => ?_
      simp -implicitDefEqProofs (disch := omega) only [go_sem, ht]
      (refine pCall_vw (by refine ⟨⟨?_, ?_⟩, ?_, ?_⟩; rotate_left 2; (first | (right; rintro r rfl; rfl) | left); all_goals ((try simp -implicitDefEqProofs (disch := omega) only [hvc, go_sem, ht]) <;> rfl)) (hw) ?_; rintro _ nx - rfl hnx; simp -implicitDefEqProofs (disch := omega) only [hvc, go_sem, ht])
      (refine end_treeW 0 ?_; simp -implicitDefEqProofs (disch := omega) only [go_sem, ht, hvc])
end
end Go.Proofs.Ytfjdfnlkobeehaa.Ref
end

section
set_option maxRecDepth 100000
set_option linter.unusedVariables false
set_option linter.unusedSimpArgs false
namespace Go.Proofs.Ytfjdfnlkobeehaa

section
variable {m : List (List (Bool × List Nat))} {v : List (Bool × List Nat)}
theorem mIns_e (cn : Int) : (mIns m cn v).2 = 0 ∨ (mIns m cn v).2 = 1 := by unfold mIns; split <;> simp
set_option maxHeartbeats 4000000 in
theorem insides_law {cn : Int} (hm : ∀ l ∈ m, ∀ p ∈ l, Lm p.2) (hb : lenM m + 1 ≤ 1048576) (lo : -9223372036854775808 ≤ cn) (hi : cn ≤ 9223372036854775807) (hv : ∀ p ∈ v, Lm p.2) (hvb : lenW v + 1 ≤ 1048576) :
    PT Try.prog 5 [SM m, .val (.int .i64 cn), SW v] (isV (.val (.bool true))) := by
  have hlr := len_rows (m := m) (by omega)
  have hlw := len_wholes (l := v) (by omega)
  have hml := lenM_len m
  have hvl := lenW_len v
  by_cases hl : 1500 < lenM m + lenW v
  · refine PCalls.enter (n := 44) (rs := [.tmp 6]) (tb := []) Try.func5 rfl rfl rfl (by kernel_rfl) (by kernel_rfl) (by simp) fun c hc ht => ?_
    simp -implicitDefEqProofs (disch := omega) only [go_sem, ht]
    ((refine pCall_vw (by refine ⟨⟨?_, ?_⟩, ?_, ?_⟩; rotate_left 2; (first | (right; rintro r rfl; rfl) | left); all_goals ((try simp -implicitDefEqProofs (disch := omega) only [go_sem, ht]) <;> rfl)) (awake_matrix) ?_; rintro _ nx_1 - rfl hnx_1; simp -implicitDefEqProofs (disch := omega) only [go_sem, ht]); (refine pCall_vw (by refine ⟨⟨?_, ?_⟩, ?_, ?_⟩; rotate_left 2; (first | (right; rintro r rfl; rfl) | left); all_goals ((try simp -implicitDefEqProofs (disch := omega) only [go_sem, ht]) <;> rfl)) (hlr) ?_; rintro _ nx_2 - rfl hnx_2; simp -implicitDefEqProofs (disch := omega) only [go_sem, ht]); (refine pCall_vw (by refine ⟨⟨?_, ?_⟩, ?_, ?_⟩; rotate_left 2; (first | (right; rintro r rfl; rfl) | left); all_goals ((try simp -implicitDefEqProofs (disch := omega) only [go_sem, ht]) <;> rfl)) (hlw) ?_; rintro _ nx_3 - rfl hnx_3; simp -implicitDefEqProofs (disch := omega) only [go_sem, ht]))
    (refine end_treeW 0 ?_; simp -implicitDefEqProofs (disch := omega) only [go_sem, ht])
  have hMx : Mx m 1500 := ⟨hm, by omega, by omega⟩
  have hvR : Rn v 1500 := ⟨fun p hp => ⟨hv p hp, by have := lenW_mem hp; omega⟩, by omega⟩
  have hcr := copy_rows (m := m) (fun l hl => ⟨fun p hp => by have := (hMx.rn hl).ok p hp; exact ⟨this.1, by omega⟩, by have := lenM_mem hl; have := lenW_len l; omega⟩) (by omega)
  have hcw := copy_wholes (l := v) (fun p hp => by have := hvR.ok p hp; exact ⟨this.1, by omega⟩) (by omega)
  have hin := mins_calls (k := 1500) (j := 1501) hMx (cn := cn) hvR (by omega) (fun n' e _ hlc => hMx.echZ hlc) (by omega)
  have hMx2 : Mx m (lenM m) := ⟨hm, Nat.le_refl _, by omega⟩
  have hvR2 : Rn v (lenW v) := ⟨fun p hp => ⟨hv p hp, by have := lenW_mem hp; omega⟩, by omega⟩
  have hri := Ref.rins_calls (k := lenW v) hMx2 (cn := cn) hvR2 (by omega) (by omega)
  have he := mIns_e (m := m) (v := v) cn
  have hnum := Ref.num_calls (s := (mIns m cn v).2) (by omega) (by omega)
  generalize (mIns m cn v).1 = b at *
  generalize (mIns m cn v).2 = e at *
  clear he
  refine PCalls.enter (n := 44) (rs := [.tmp 6]) (tb := []) Try.func5 rfl rfl rfl (by kernel_rfl) (by kernel_rfl) (by simp) fun c hc ht => ?_
  simp -implicitDefEqProofs (disch := omega) only [go_sem, ht]
  ((refine pCall_vw (by refine ⟨⟨?_, ?_⟩, ?_, ?_⟩; rotate_left 2; (first | (right; rintro r rfl; rfl) | left); all_goals ((try simp -implicitDefEqProofs (disch := omega) only [go_sem, ht]) <;> rfl)) (awake_matrix) ?_; rintro _ nx_4 - rfl hnx_4; simp -implicitDefEqProofs (disch := omega) only [go_sem, ht]); (refine pCall_vw (by refine ⟨⟨?_, ?_⟩, ?_, ?_⟩; rotate_left 2; (first | (right; rintro r rfl; rfl) | left); all_goals ((try simp -implicitDefEqProofs (disch := omega) only [go_sem, ht]) <;> rfl)) (hlr) ?_; rintro _ nx_5 - rfl hnx_5; simp -implicitDefEqProofs (disch := omega) only [go_sem, ht]); (refine pCall_vw (by refine ⟨⟨?_, ?_⟩, ?_, ?_⟩; rotate_left 2; (first | (right; rintro r rfl; rfl) | left); all_goals ((try simp -implicitDefEqProofs (disch := omega) only [go_sem, ht]) <;> rfl)) (hlw) ?_; rintro _ nx_6 - rfl hnx_6; simp -implicitDefEqProofs (disch := omega) only [go_sem, ht]); (refine pCall_vw (by refine ⟨⟨?_, ?_⟩, ?_, ?_⟩; rotate_left 2; (first | (right; rintro r rfl; rfl) | left); all_goals ((try simp -implicitDefEqProofs (disch := omega) only [go_sem, ht]) <;> rfl)) (hcr) ?_; rintro _ nx_7 - rfl hnx_7; simp -implicitDefEqProofs (disch := omega) only [go_sem, ht]); (refine pCall_vw (by refine ⟨⟨?_, ?_⟩, ?_, ?_⟩; rotate_left 2; (first | (right; rintro r rfl; rfl) | left); all_goals ((try simp -implicitDefEqProofs (disch := omega) only [go_sem, ht]) <;> rfl)) (hcw) ?_; rintro _ nx_8 - rfl hnx_8; simp -implicitDefEqProofs (disch := omega) only [go_sem, ht]); (refine pCall_vw (by refine ⟨⟨?_, ?_⟩, ?_, ?_⟩; rotate_left 2; (first | (right; rintro r rfl; rfl) | left); all_goals ((try simp -implicitDefEqProofs (disch := omega) only [go_sem, ht]) <;> rfl)) (hin) ?_; rintro _ nx_9 - rfl hnx_9; simp -implicitDefEqProofs (disch := omega) only [go_sem, ht]); (refine pCall_vw (by refine ⟨⟨?_, ?_⟩, ?_, ?_⟩; rotate_left 2; (first | (right; rintro r rfl; rfl) | left); all_goals ((try simp -implicitDefEqProofs (disch := omega) only [go_sem, ht]) <;> rfl)) (hri) ?_; rintro _ nx_10 - rfl hnx_10; simp -implicitDefEqProofs (disch := omega) only [go_sem, ht]))
  ((refine pCall_vw (by refine ⟨⟨?_, ?_⟩, ?_, ?_⟩; rotate_left 2; (first | (right; rintro r rfl; rfl) | left); all_goals ((try simp -implicitDefEqProofs (disch := omega) only [go_sem, ht]) <;> rfl)) (hnum) ?_; rintro _ nx_11 - rfl hnx_11; simp -implicitDefEqProofs (disch := omega) only [go_sem, ht]))
  (refine end_treeW 0 ?_; simp -implicitDefEqProofs (disch := omega) only [go_sem, ht])
end
end Go.Proofs.Ytfjdfnlkobeehaa
open Go.ChangeShapes Go.WideShapes Go.ChangeAt Go.RowKit
namespace Go.Proofs.Ytfjdfnlkobeehaa
end Go.Proofs.Ytfjdfnlkobeehaa
end
