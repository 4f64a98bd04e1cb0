/- The program's exact: the echelon form. -/
import Derived.Test.YtfjdfnlkobeehaaExactA
set_option maxRecDepth 100000
set_option linter.unusedVariables false
set_option linter.unusedSimpArgs false
namespace Go.Proofs.Ytfjdfnlkobeehaa

theorem frz_fn (D : Nat → Bool) (H : Nat → Option (List PV)) (d : Nat) (f : FuncId) (cs : List PV) : Ytfjdfnlkobeehaa.frz D H (d + 1) (.fn f cs) = if flatL cs = true then some (.fn f cs) else none := rfl
attribute [go_sem] frz_fn
theorem SM_flat (m : List (List (Bool × List Nat))) : flatL (m.map SW) = true := by
  induction m with
  | nil => rfl
  | cons l m ih => simp only [List.map_cons, flatL, SW_def, flat, SWc_flat, ih, Bool.and_self]
theorem get_SM {m : List (List (Bool × List Nat))} {i : Nat} (r : List PV) (h : i < m.length) : (m.map SW ++ r)[i]? = some (SW (m.getD i [])) := by
  rw [List.getElem?_append_left (by simpa using h)]
  simp [h]
theorem get_SM' {m : List (List (Bool × List Nat))} {i : Nat} (h : i < m.length) : (m.map SW)[i]? = some (SW (m.getD i [])) := by simp [h]
theorem drop_SM {m : List (List (Bool × List Nat))} {i : Nat} (h : i < m.length) : (m.map SW).drop (i * 1) = SW (m.getD i []) :: (m.drop (i + 1)).map SW := by
  rw [Nat.mul_one, ← List.map_drop, List.drop_eq_getElem_cons h, List.map_cons]
  simp [h]
theorem set_SM {m : List (List (Bool × List Nat))} {i : Nat} {l : List (Bool × List Nat)} {n : Nat} (r : List PV) (h : i < m.length) (hn : n = l.length) : spl (m.map SW ++ r) i [.sl n (SWc l)] = (m.set i l).map SW ++ r := by
  subst hn
  unfold spl
  simp only [List.length_singleton]
  rw [List.take_append_of_le_length (by simpa using Nat.le_of_lt h), List.drop_append_of_le_length (by simp; omega), List.set_eq_take_append_cons_drop, if_pos h]
  simp [SW_def]
theorem one_SM (m : List (List (Bool × List Nat))) : (m.map SW).all oneP = true := by
  induction m with
  | nil => rfl
  | cons l m ih => simp only [List.map_cons, List.all_cons, ih]; rfl
attribute [go_sem] SM_def SM_flat get_SM
theorem repl_nil (n : Nat) : repl n [PV.val (.slice none 0 0)] = ((repl n [Value.slice none 0 0]).map .val) := by
  unfold repl
  induction n with
  | zero => rfl
  | succ n ih => simp only [List.replicate_succ, List.flatten_cons, List.map_append, ih]; rfl
theorem getD_take {α : Type} {l : List α} {i : Nat} {d : α} (h : i < l.length) : l.take (i + 1) = l.take i ++ [l.getD i d] := by
  rw [List.take_succ_eq_append_getElem h]; simp [h]

/-- Each, over rows: a list of its own. -/
theorem each_r {m m' : List (List (Bool × List Nat))} {f : FuncId} (hlen : m.length ≤ 1000000) (hz : m'.length = m.length) (h : ∀ i, i < m.length → PT Try.prog f [SW (m.getD i [])] (isV (SW (m'.getD i [])))) :
    PO1 Try.prog 66 [SM m, .fn f []] (fun p => p) (m'.map SW) := by
  have hrp := repl_nil m.length
  have hrl := repl_len m.length [Value.slice none 0 0]
  refine PCalls.enter (n := 25) (rs := [.tmp 4]) (tb := []) Try.func66 rfl rfl rfl (by kernel_rfl) (by kernel_rfl) (by simp) fun c hc ht => ?_
  simp -implicitDefEqProofs (disch := omega) only [go_sem, ht, eq_self]
  refine LW.loopW hc ht (by kernel_rfl) (fun t => t.sl 1 = .fn f [] ∧ t.sl 11 = .sl m.length (m.map SW) ∧ t.sl 12 = .val (.int .i64 m.length) ∧ ∃ i : Nat, i ≤ m.length ∧ t.sl 13 = .val (.int .i64 i) ∧ ∃ (id cap : Nat) (rest : List Value), t.sl 5 = .ref id 0 i cap 1 ∧ t.H id = some ((m'.take i).map SW ++ rest.map .val) ∧ i + rest.length = cap ∧ id < t.nx)
    (fun t => match t.sl 13 with | .val (.int _ k) => m.length - k.toNat | _ => 0) ?_ ?_
  · simp -implicitDefEqProofs (disch := omega) only [go_sem, ht, eq_self]
    refine ⟨0, Nat.zero_le _, rfl, 0, m.length, repl m.length [Value.slice none 0 0], rfl, ?_, by rw [hrl]; simp, by omega⟩
    rw [upd_self, hrp]; rfl
  · rintro t ⟨h1, h11, h12, i, hi, h13, id, cap, rest, h5, hH, hcap, hid⟩
    by_cases hil : i = m.length
    · subst hil
      have htk : m'.take m.length = m' := List.take_of_length_le (by omega)
      rw [htk] at hH
      simp -implicitDefEqProofs (disch := omega) only [go_sem, ht, h1, h5, h11, h12, h13, eq_self]
      exact end_own1 (mk := fun p => p) (by simp -implicitDefEqProofs (disch := omega) only [go_sem, ht, hz, eq_self] <;> rfl) (by simp -implicitDefEqProofs (disch := omega) only [go_sem, ht, hH, eq_self] <;> rfl) (by simp; omega) (by simp; omega)
    · have hlt : i < m.length := by omega
      have hlt' : i < m'.length := by omega
      have hd := drop_SM hlt
      have hel := h i hlt
      have hst : (m'.take i).map SW ++ [.sl (m'.getD i []).length (SWc (m'.getD i []))] = (m'.take (i + 1)).map SW := by
        rw [getD_take (d := []) hlt', List.map_append]; rfl
      have hgi := get_SM' hlt
      generalize m.getD i [] = l0 at *
      generalize m'.getD i [] = l1 at *
      simp -implicitDefEqProofs (disch := omega) only [go_sem, ht, h1, h5, h11, h12, h13, hgi, eq_self]
      refine ⟨f, [], rfl, ?_⟩
      (refine pCall_view (by simp -implicitDefEqProofs (disch := omega) only [h1, h5, h11, h12, h13, List.append_nil, go_sem, ht, eq_self] <;> rfl) (by simp -implicitDefEqProofs (disch := omega) only [h1, h5, h11, h12, h13, List.append_nil, go_sem, ht, eq_self]) (by first | (apply Or.inl; simp -implicitDefEqProofs (disch := omega) only [h1, h5, h11, h12, h13, List.append_nil, go_sem, ht, eq_self]; done) | (apply Or.inr; rintro r rfl; rfl)) (hel) ?_; rintro _ nx - rfl hnx; (try simp only [put_nx, withH_nx, begP_nx] at hnx); simp -implicitDefEqProofs (disch := omega) only [h1, h5, h11, h12, h13, List.append_nil, go_sem, ht, eq_self])
      have hne : id ≠ nx := by omega
      have hln : ((m'.take i).map SW).length = i := by simp; omega
      (refine append_own (by simp -implicitDefEqProofs (disch := omega) only [srcP_ref, srcP_sl, srcP_nil, Option.isSome_some, hH, go_sem, ht, eq_self] <;> rfl) (by simp -implicitDefEqProofs (disch := omega) only [srcP_ref, srcP_sl, srcP_nil, Option.isSome_some, hH, go_sem, ht, eq_self] <;> rfl) (by simp -implicitDefEqProofs (disch := omega) only [srcP_ref, srcP_sl, srcP_nil, Option.isSome_some, hH, go_sem, ht, eq_self] <;> rfl) (by simp -implicitDefEqProofs (disch := omega) only [srcP_ref, srcP_sl, srcP_nil, Option.isSome_some, hH, go_sem, ht, eq_self] <;> rfl) (by simp -implicitDefEqProofs (disch := omega) only [srcP_ref, srcP_sl, srcP_nil, Option.isSome_some, hH, go_sem, ht, eq_self] <;> rfl) (by simp -implicitDefEqProofs (disch := omega) only [srcP_ref, srcP_sl, srcP_nil, Option.isSome_some, hH, go_sem, ht, eq_self] <;> rfl) (by simp -implicitDefEqProofs (disch := omega) only [srcP_ref, srcP_sl, srcP_nil, Option.isSome_some, hH, go_sem, ht, eq_self] <;> rfl) (by simp -implicitDefEqProofs (disch := omega) only [srcP_ref, srcP_sl, srcP_nil, Option.isSome_some, hH, go_sem, ht, eq_self] <;> rfl) (by simp <;> omega) (by first | assumption | (simp <;> omega)) (by first | rfl | simp) (by first | omega | (simp <;> omega)) ?_; intro id1 cap1 rest1 H1 nx1 hH1 hcap1 hid1 hnx1 hfr1 hfs1; simp only [put_nx, withH_nx, put_H, withH_H] at hid1 hnx1 hfr1 hfs1; (try simp only [app_U, ← List.map_append] at hH1))
      rw [hst] at hH1
      simp -implicitDefEqProofs (disch := omega) only [go_sem, ht, h1, h11, h12, h13, eq_self]
      exact ⟨⟨i + 1, by omega, rfl, id1, cap1, rest1, rfl, hH1, by omega, by omega⟩, by omega⟩

theorem CZ_nil : CZ [] = [] := rfl
theorem getD_CZ {W : List (List Int)} {i : Nat} (h : i < W.length) : (W.map CZ).getD i [] = CZ (W.getD i []) := by simp [h]
theorem CZ_at {z : List Int} {c : Nat} (h : c < z.length) : (SWc (CZ z)).drop (c * 2) = .val (.bool (decide (vc z c < 0))) :: SU (D (vc z c).natAbs) :: SWc (CZ (z.drop (c + 1))) := by
  rw [SWc_at (by rw [CZ_len]; exact h), vc_lt h]
  simp only [CZ, List.getElem_map, toC, List.map_drop]
/-- Rows up to k already cleared. -/
def part (V W : List (List Int)) (k : Nat) : List (List Int) := V.take k ++ W.drop k
theorem part_len {V W : List (List Int)} {k : Nat} (h : V.length = W.length) (hk : k ≤ W.length) : (part V W k).length = W.length := by simp [part]; omega
theorem part_get {V W : List (List Int)} {k i : Nat} (h : V.length = W.length) (hk : k ≤ W.length) : (part V W k).getD i [] = if i < k then V.getD i [] else W.getD i [] := by
  unfold part
  simp only [List.getD_eq_getElem?_getD]
  split
  · rw [List.getElem?_append_left (by simp; omega), List.getElem?_take, if_pos (by assumption)]
  · rw [List.getElem?_append_right (by simp; omega), List.getElem?_drop]
    congr 2
    simp; omega
theorem part_set {V W : List (List Int)} {k : Nat} (h : V.length = W.length) (hk : k < W.length) : (part V W k).set k (V.getD k []) = part V W (k + 1) := by
  unfold part
  rw [List.set_append_right _ _ (by rw [List.length_take]; omega), List.length_take, show k - min k V.length = 0 by omega, List.drop_eq_getElem_cons hk, List.set_cons_zero, getD_take (l := V) (d := []) (by omega), List.append_assoc]
  rfl
theorem part_same {V W : List (List Int)} {k : Nat} (h : V.length = W.length) (hk : k < W.length) (e : V.getD k [] = W.getD k []) : part V W k = part V W (k + 1) := by
  rw [← part_set h hk, e]
  have : (part V W k).getD k [] = W.getD k [] := by rw [part_get h (by omega), if_neg (by omega)]
  rw [← this]
  have hl := part_len h (show k ≤ W.length by omega)
  rw [List.getD_eq_getElem?_getD, List.getElem?_eq_getElem (by omega)]
  simp
theorem findP_eq {W : List (List Int)} {c i : Nat} (h : i < W.length) : findP W c i = if vc (W.getD i []) c ≠ 0 then i else findP W c (i + 1) := by
  conv => lhs; rw [findP]
  rw [dif_pos h]
theorem findP_end {W : List (List Int)} {c i : Nat} (h : W.length ≤ i) : findP W c i = W.length := by
  rw [findP, dif_neg (by omega)]

section
variable {m : List (List (Bool × List Nat))} {cols K B : Nat}
/-- What Echelon tells. -/
def echT (rz : List (List Int)) (cols : Nat) : List (List Int) := ((echW rz cols).1.take (echW rz cols).2.length).map upZ
set_option maxHeartbeats 4000000 in
theorem echelon_calls (hm : ∀ l ∈ m, Rn l K ∧ l.length = cols) (hcols : cols ≤ 1000) (hlen : m.length ≤ 10000) (hEZ : ∀ c, EZ 4294967296 B m.length cols (echW (m.map vals) c)) (hsh : ∀ c k, k < m.length → ∀ x ∈ (echW (m.map vals) c).1.getD k [], Z (B + 1) x) (hB : 2 * (B + 1) + 1 ≤ 1000000) :
    PT Try.prog 53 [SM m, .val (.int .i64 cols)] (isV (.tup [SM ((echT (m.map vals) cols).map CZ), .sl (echW (m.map vals) cols).2.length ((echW (m.map vals) cols).2.map Ref.I)])) := by
  have heach : PO1 Try.prog 66 [SM m, .fn 90 []] (fun p => p) ((((m.map vals).map primZ).map CZ).map SW) := by
    refine each_r (by omega) (by simp) fun i hi => ?_
    have hl := hm (m.getD i []) (by simp [hi])
    have := primitive_calls hl.1 (by omega)
    have e : ((((m.map vals).map primZ).map CZ)).getD i [] = CZ (primZ (vals (m.getD i []))) := by simp [hi]
    rw [e]; exact this
  refine PCalls.enter (n := 83) (rs := [.tmp 4, .tmp 5]) (tb := [(11, [(0, []), (1, []), (2, []), (3, []), (4, []), (5, []), (6, []), (7, []), (8, []), (9, []), (10, []), (11, []), (12, []), (13, [2, 3]), (14, []), (15, [])]), (1000011, [(0, []), (0, []), (0, []), (0, []), (0, []), (0, []), (48, []), (112, []), (0, []), (0, []), (768, []), (1792, []), (4083, []), (8179, []), (16383, []), (32767, [])]), (16, [(0, []), (1, []), (2, []), (3, []), (4, []), (5, []), (6, []), (7, []), (8, []), (9, []), (10, []), (11, [0, 1]), (12, []), (13, [])]), (1000016, [(0, []), (0, []), (0, []), (0, []), (12, []), (28, []), (0, []), (0, []), (192, []), (448, []), (0, []), (2044, []), (4095, []), (8191, [])])]) Try.func53 rfl rfl rfl (by kernel_rfl) (by kernel_rfl) (by simp) fun c hc ht => ?_
  simp -implicitDefEqProofs (disch := omega) only [go_sem, ht, eq_self]
  (refine pCall_ownF (mk := fun p => p) (mk_id) (by simp -implicitDefEqProofs (disch := omega) only [go_sem, ht, eq_self] <;> rfl) (by simp -implicitDefEqProofs (disch := omega) only [go_sem, ht, eq_self]) (by simp -implicitDefEqProofs (disch := omega) only [go_sem, ht, eq_self]) (SM_flat _) (heach) ?_; intro id1 cap1 rest1 nx1 hid1 hnx1 hcap1; simp only [put_nx, withH_nx, begP_nx, List.length_map] at hid1 hcap1; simp -implicitDefEqProofs (disch := omega) only [go_sem, ht, eq_self])
  refine LW.ghost (Gh.nilW 7 1 (by simp -implicitDefEqProofs (disch := omega) only [go_sem, ht, eq_self])) ?_
  refine LW.loopW hc ht (by kernel_rfl) (fun t => t.sl 14 = .val (.int .i64 cols) ∧ t.sl 6 = .ref id1 0 m.length cap1 1 ∧ id1 < t.nx ∧ ∃ c : Nat, c ≤ cols ∧ t.sl 15 = .val (.int .i64 c) ∧ t.H id1 = some ((((echW (m.map vals) c).1.map CZ).map SW) ++ rest1.map .val) ∧
      ∃ (ip cp : Nat) (rp : List Value), t.sl 7 = .ref ip 0 (echW (m.map vals) c).2.length cp 1 ∧ t.H ip = some ((echW (m.map vals) c).2.map Ref.I ++ rp.map .val) ∧ (echW (m.map vals) c).2.length + rp.length = cp ∧ ip < t.nx ∧ ip ≠ id1)
    (fun t => match t.sl 15 with | .val (.int _ k) => cols - k.toNat | _ => 0) ?_ ?_
  · simp -implicitDefEqProofs (disch := omega) only [go_sem, ht, eq_self]
    refine ⟨0, Nat.zero_le _, rfl, rfl, nx1, 0, [], rfl, upd_self _ _ _, rfl, by omega, by omega⟩
  · rintro t ⟨h14, h6, hid, c, hcc, h15, hH, ip, cp, rp, h7, hHp, hcp, hip, hne⟩
    by_cases hcl : c = cols
    · subst hcl
      have E := hEZ c
      have hrow := E.row
      have hlW := E.len
      have hshc := hsh c
      have htle : (echW (m.map vals) c).2.length ≤ m.length := by
        obtain ⟨O, κ, hE, _⟩ := E.st
        exact hE.tle
      unfold echT
      generalize (echW (m.map vals) c).1 = W at *
      generalize (echW (m.map vals) c).2 = Pv at *
      have hup : PO1 Try.prog 66 [SM ((W.take Pv.length).map CZ), .fn 92 []] (fun p => p) ((((W.take Pv.length).map upZ).map CZ).map SW) := by
        refine each_r (by simp; omega) (by simp) fun i hi => ?_
        have hi1 : i < (W.take Pv.length).length := by simpa using hi
        have hi2 : i < W.length := by simp at hi1; omega
        have e1 : ((W.take Pv.length).map CZ).getD i [] = CZ (W.getD i []) := by
          rw [getD_CZ hi1]; congr 1
          simp only [List.getD_eq_getElem?_getD, List.getElem?_take]
          rw [if_pos (by simp at hi1; omega)]
        have e2 : (((W.take Pv.length).map upZ).map CZ).getD i [] = CZ (upZ (W.getD i [])) := by
          rw [getD_CZ (by simpa using hi)]; congr 1
          simp only [List.getD_eq_getElem?_getD, List.getElem?_map, List.getElem?_take]
          rw [if_pos (by simp at hi1; omega), List.getElem?_eq_getElem hi2]; rfl
        rw [e1, e2]
        have := up_calls (l := CZ (W.getD i [])) (k := B + 1) (.C (hshc i (by omega)) (by omega)) (by rw [CZ_len, (hrow i (by omega)).1]; omega)
        rwa [vals_CZ] at this
      have hupt := PO1.tree mk_id (SM_flat _) hup
      have htk : List.take Pv.length ((W.map CZ).map SW ++ rest1.map .val) = ((W.take Pv.length).map CZ).map SW := by
        rw [List.take_append_of_le_length (by simp; omega), ← List.map_take, ← List.map_take]
      have hml : ((W.take Pv.length).map CZ).length = Pv.length := by simp; omega
      rw [SM_def, hml] at hupt
      have hWl : ((W.map CZ).map SW).length = m.length := by simp; exact hlW
      have hfl := SM_flat ((W.take Pv.length).map CZ)
      have hfl2 := frzL_flat (fun _ => true) t.H 0 hfl
      have hout : ((((W.take Pv.length).map upZ).map CZ).map SW).length = (((W.take Pv.length).map upZ).map CZ).length := by simp
      rw [hout] at hupt
      have hm2 : (((W.take Pv.length).map upZ).map CZ).length = (W.take Pv.length).length := by simp
      generalize ((W.take Pv.length).map CZ).map SW = c1 at *
      generalize ((W.take Pv.length).map upZ).map CZ = m2 at *
      have hif : (if cap1 = 0 then 0 else 0) = 0 := by simp
      have hle : Pv.length ≤ W.length + rest1.length := by omega
      have hPl : (Pv.map Ref.I).length = Pv.length := by simp
      simp -implicitDefEqProofs (disch := omega) only [go_sem, ht, h14, h6, h15, h7, hif, eq_self]
      (refine pCall_frzAll (by simp -implicitDefEqProofs (disch := omega) only [h14, h6, h15, h7, hH, hHp, htk, hif, hfl2, hfl, hle, go_sem, ht, eq_self] <;> rfl) (by simp -implicitDefEqProofs (disch := omega) only [h14, h6, h15, h7, hH, hHp, htk, hif, hfl2, hfl, hle, go_sem, ht, eq_self]) (by simp -implicitDefEqProofs (disch := omega) only [h14, h6, h15, h7, hH, hHp, htk, hif, hfl2, hfl, hle, go_sem, ht, eq_self] <;> rfl) (by simp -implicitDefEqProofs (disch := omega) only [h14, h6, h15, h7, hH, hHp, htk, hif, hfl2, hfl, hle, go_sem, ht, eq_self]) (hupt) ?_; rintro _ nx - rfl hnx; (try simp only [put_nx, withH_nx, begP_nx] at hnx); simp -implicitDefEqProofs (disch := omega) only [h14, h6, h15, h7, hH, hHp, htk, hif, hfl2, hfl, hle, go_sem, ht, eq_self])
      (refine end_treeM 2 ?_; simp -implicitDefEqProofs (disch := omega) only [go_sem, ht, Nat.le_add_right, if_pos, Option.getD_some, hm2, Ref.flatL_I, eq_self])
    · have E := hEZ c
      have hshc := hsh c
      have hlW := E.len
      have hrow := E.row
      have htle : (echW (m.map vals) c).2.length ≤ m.length := by
        obtain ⟨O, κ, hE, _⟩ := E.st
        exact hE.tle
      have hst : echW (m.map vals) (c + 1) = stepE c (echW (m.map vals) c) := rfl
      obtain ⟨W, eW⟩ : ∃ W, (echW (m.map vals) c).1 = W := ⟨_, rfl⟩
      obtain ⟨Pv, eP⟩ : ∃ Pv, (echW (m.map vals) c).2 = Pv := ⟨_, rfl⟩
      rw [eW] at hH hlW hrow hshc
      rw [eP] at h7 hHp hcp htle
      have hst2 : echW (m.map vals) (c + 1) = if findP W c Pv.length < W.length then (clearAll (swapL W Pv.length (findP W c Pv.length)) Pv.length c, Pv ++ [c]) else (W, Pv) := by
        rw [hst, stepE, eW, eP]
        split
        · rfl
        · rw [← eW, ← eP]
      clear hst E
      simp -implicitDefEqProofs (disch := omega) only [go_sem, ht, h14, h6, h15, h7, eq_self]
      refine LW.loopW hc ht (by kernel_rfl) (fun s => s.sl 14 = .val (.int .i64 cols) ∧ s.sl 6 = .ref id1 0 m.length cap1 1 ∧ id1 < s.nx ∧ s.sl 15 = .val (.int .i64 c) ∧ s.sl 8 = .val (.int .i64 c) ∧ s.sl 9 = .val (.int .i64 Pv.length) ∧ s.H id1 = some (((W.map CZ).map SW) ++ rest1.map .val) ∧
          s.sl 7 = .ref ip 0 Pv.length cp 1 ∧ s.H ip = some (Pv.map Ref.I ++ rp.map .val) ∧ ip < s.nx ∧ ∃ i : Nat, i ≤ m.length ∧ Pv.length ≤ i ∧ s.sl 10 = .val (.int .i64 i) ∧ findP W c i = findP W c Pv.length)
        (fun s => match s.sl 10 with | .val (.int _ k) => m.length - k.toNat | _ => 0) ?_ ?_
      · simp -implicitDefEqProofs (disch := omega) only [go_sem, ht, h14, h6, h15, h7, eq_self]
        exact ⟨hid, hH, hHp, hip, Pv.length, htle, Nat.le_refl _, rfl, rfl⟩
      · clear h14 h6 h15 h7 hid hH hHp hip
        rintro s ⟨h14, h6, hid, h15, h8, h9, hH, h7, hHp, hip, i, hi, hri, h10, hfi⟩
        by_cases hil : i = m.length
        · subst hil
          have hend : findP W c Pv.length = W.length := by rw [← hfi]; exact findP_end (by omega)
          rw [if_neg (by omega)] at hst2
          simp -implicitDefEqProofs (disch := omega) only [go_sem, ht, h14, h6, h15, h7, h8, h9, h10, eq_self]
          exact ⟨⟨hid, c + 1, by omega, rfl, by rw [hst2]; exact hH, ip, cp, rp, by rw [hst2], by rw [hst2]; exact hHp, by rw [hst2]; exact hcp, hip, hne⟩, by omega⟩
        · have hlt : i < m.length := by omega
          obtain ⟨hzl, hzp⟩ := hrow i hlt
          have hgi := get_SM (m := W.map CZ) (i := i) (rest1.map .val) (by simp; omega)
          rw [getD_CZ (by omega)] at hgi
          have hat := CZ_at (z := W.getD i []) (c := c) (by omega)
          have hzs := hshc i hlt
          have hzx : Z (B + 1) (vc (W.getD i []) c) := by
            rw [vc_lt (by omega)]; exact hzs _ (List.getElem_mem _)
          have hsg := signW (Wn.C hzx (by omega))
          have hfe := findP_eq (W := W) (c := c) (i := i) (by omega)
          have hczl : (CZ (W.getD i [])).length = cols := by rw [CZ_len]; exact hzl
          by_cases hz0 : vc (W.getD i []) c = 0
          · rw [if_neg (by simpa using hz0)] at hfe
            rw [hz0, cZ_eq rfl] at hsg
            rw [hz0] at hat
            have hfi2 : findP W c (i + 1) = findP W c Pv.length := by rw [← hfe]; exact hfi
            simp -implicitDefEqProofs (disch := omega) only [go_sem, ht, h14, h6, h15, h7, h8, h9, h10, hH, hgi, hczl, hat, eq_self]
            (refine pCall_view (by simp -implicitDefEqProofs (disch := omega) only [h14, h6, h15, h7, h8, h9, h10, hH, hgi, hczl, hat, go_sem, ht, eq_self] <;> rfl) (by simp -implicitDefEqProofs (disch := omega) only [h14, h6, h15, h7, h8, h9, h10, hH, hgi, hczl, hat, go_sem, ht, eq_self]) (by first | (apply Or.inl; simp -implicitDefEqProofs (disch := omega) only [h14, h6, h15, h7, h8, h9, h10, hH, hgi, hczl, hat, go_sem, ht, eq_self]; done) | (apply Or.inr; rintro r rfl; rfl)) (hsg) ?_; rintro _ nx - rfl hnx; (try simp only [put_nx, withH_nx, begP_nx] at hnx); simp -implicitDefEqProofs (disch := omega) only [h14, h6, h15, h7, h8, h9, h10, hH, hgi, hczl, hat, go_sem, ht, eq_self])
            exact ⟨⟨by omega, hHp, by omega, i + 1, by omega, by omega, rfl, hfi2⟩, by omega⟩
          · rw [if_pos (by simpa using hz0)] at hfe
            have hfi3 : findP W c Pv.length = i := by rw [← hfi]; exact hfe
            rw [hfi3, if_pos (by omega)] at hst2
            have hs0 : cZ (vc (W.getD i []) c) 0 ≠ 0 := by unfold cZ; split <;> (try split) <;> omega
            have hrlt : Pv.length < m.length := by omega
            have hgr := get_SM (m := W.map CZ) (i := Pv.length) (rest1.map .val) (by simp; omega)
            rw [getD_CZ (by omega)] at hgr
            have hczr : (CZ (W.getD Pv.length [])).length = cols := by rw [CZ_len]; exact (hrow _ hrlt).1
            have hset1 := set_SM (m := W.map CZ) (i := Pv.length) (l := CZ (W.getD i [])) (n := cols) (rest1.map .val) (by simp; omega) hczl.symm
            have hset2 := set_SM (m := (W.map CZ).set Pv.length (CZ (W.getD i []))) (i := i) (l := CZ (W.getD Pv.length [])) (n := cols) (rest1.map .val) (by simp; omega) hczr.symm
            have hsw : ((W.map CZ).set Pv.length (CZ (W.getD i []))).set i (CZ (W.getD Pv.length [])) = (swapL W Pv.length i).map CZ := by
              unfold swapL
              rw [List.map_set, List.map_set]
            rw [hsw] at hset2
            generalize cZ (vc (W.getD i []) c) 0 = sx at *
            simp -implicitDefEqProofs (disch := omega) only [go_sem, ht, h14, h6, h15, h7, h8, h9, h10, hH, hgi, hczl, hat, eq_self]
            (refine pCall_view (by simp -implicitDefEqProofs (disch := omega) only [h14, h6, h15, h7, h8, h9, h10, hH, hgi, hczl, hat, hgr, hczr, hset1, hset2, go_sem, ht, eq_self] <;> rfl) (by simp -implicitDefEqProofs (disch := omega) only [h14, h6, h15, h7, h8, h9, h10, hH, hgi, hczl, hat, hgr, hczr, hset1, hset2, go_sem, ht, eq_self]) (by first | (apply Or.inl; simp -implicitDefEqProofs (disch := omega) only [h14, h6, h15, h7, h8, h9, h10, hH, hgi, hczl, hat, hgr, hczr, hset1, hset2, go_sem, ht, eq_self]; done) | (apply Or.inr; rintro r rfl; rfl)) (hsg) ?_; rintro _ nx - rfl hnx; (try simp only [put_nx, withH_nx, begP_nx] at hnx); simp -implicitDefEqProofs (disch := omega) only [h14, h6, h15, h7, h8, h9, h10, hH, hgi, hczl, hat, hgr, hczr, hset1, hset2, go_sem, ht, eq_self])
            refine ⟨by simp; omega, ?_⟩
            clear hgi hgr hat hset1 hset2 hsg hczl hczr
            have hW1l : (swapL W Pv.length i).length = m.length := by rw [swapL_len]; exact hlW
            have hVl : (clearAll (swapL W Pv.length i) Pv.length c).length = m.length := by rw [clearAll_len]; exact hW1l
            have hVr : (clearAll (swapL W Pv.length i) Pv.length c).getD Pv.length [] = (swapL W Pv.length i).getD Pv.length [] := by rw [clearAll_get (by omega), if_pos rfl]
            have hVk : ∀ k, k < m.length → k ≠ Pv.length → (clearAll (swapL W Pv.length i) Pv.length c).getD k [] = clearZ ((swapL W Pv.length i).getD k []) ((swapL W Pv.length i).getD Pv.length []) c := fun k hk hkr => by rw [clearAll_get (by omega), if_neg hkr]
            have hW1 : ∀ k, k < m.length → ((swapL W Pv.length i).getD k []).length = cols ∧ ∀ x ∈ (swapL W Pv.length i).getD k [], Z (B + 1) x := fun k hk => by
              rw [swapL_get (by omega) (by omega) (by omega)]
              have hb := swp_bd (i := i) (t := Pv.length) hlt hrlt hk
              exact ⟨(hrow _ hb).1, hshc _ hb⟩
            have hst3 : echW (m.map vals) (c + 1) = (clearAll (swapL W Pv.length i) Pv.length c, Pv ++ [c]) := hst2
            generalize clearAll (swapL W Pv.length i) Pv.length c = V at *
            generalize swapL W Pv.length i = W1 at *
            refine LW.loopW hc ht (by kernel_rfl) (fun u => u.sl 14 = .val (.int .i64 cols) ∧ u.sl 6 = .ref id1 0 m.length cap1 1 ∧ id1 < u.nx ∧ u.sl 15 = .val (.int .i64 c) ∧ u.sl 8 = .val (.int .i64 c) ∧ u.sl 9 = .val (.int .i64 Pv.length) ∧
                u.sl 7 = .ref ip 0 Pv.length cp 1 ∧ u.H ip = some (Pv.map Ref.I ++ rp.map .val) ∧ ip < u.nx ∧ u.sl 51 = .val (.int .i64 m.length) ∧ ∃ k : Nat, k ≤ m.length ∧ u.sl 52 = .val (.int .i64 k) ∧ u.H id1 = some ((((part V W1 k).map CZ).map SW) ++ rest1.map .val))
              (fun u => match u.sl 52 with | .val (.int _ k) => m.length - k.toNat | _ => 0) ?_ ?_
            · simp -implicitDefEqProofs (disch := omega) only [go_sem, ht, h14, h6, h15, h7, h8, h9, h10, hHp, hne, eq_self]
              exact ⟨by omega, by omega, 0, Nat.zero_le _, rfl, by simp [part]⟩
            · clear h14 h6 h15 h7 h8 h9 h10 hid hH hHp hip
              rintro u ⟨h14, h6, hid, h15, h8, h9, h7, hHp, hip, h51, k, hk, h52, hH⟩
              by_cases hkl : k = m.length
              · have hpt : part V W1 k = V := by
                  unfold part
                  rw [List.take_of_length_le (by omega), List.drop_of_length_le (by omega), List.append_nil]
                rw [hpt] at hH
                subst hkl
                simp -implicitDefEqProofs (disch := omega) only [go_sem, ht, h14, h6, h15, h7, h8, h9, h51, h52, eq_self]
                have hpl : (Pv.map Ref.I).length = Pv.length := by simp
                (refine append_own (by simp -implicitDefEqProofs (disch := omega) only [srcP_ref, srcP_sl, srcP_nil, Option.isSome_some, hHp, go_sem, ht, eq_self] <;> rfl) (by simp -implicitDefEqProofs (disch := omega) only [srcP_ref, srcP_sl, srcP_nil, Option.isSome_some, hHp, go_sem, ht, eq_self] <;> rfl) (by simp -implicitDefEqProofs (disch := omega) only [srcP_ref, srcP_sl, srcP_nil, Option.isSome_some, hHp, go_sem, ht, eq_self] <;> rfl) (by simp -implicitDefEqProofs (disch := omega) only [srcP_ref, srcP_sl, srcP_nil, Option.isSome_some, hHp, go_sem, ht, eq_self] <;> rfl) (by simp -implicitDefEqProofs (disch := omega) only [srcP_ref, srcP_sl, srcP_nil, Option.isSome_some, hHp, go_sem, ht, eq_self] <;> rfl) (by simp -implicitDefEqProofs (disch := omega) only [srcP_ref, srcP_sl, srcP_nil, Option.isSome_some, hHp, go_sem, ht, eq_self] <;> rfl) (by simp -implicitDefEqProofs (disch := omega) only [srcP_ref, srcP_sl, srcP_nil, Option.isSome_some, hHp, go_sem, ht, eq_self] <;> rfl) (by simp -implicitDefEqProofs (disch := omega) only [srcP_ref, srcP_sl, srcP_nil, Option.isSome_some, hHp, go_sem, ht, eq_self] <;> rfl) (by simp <;> omega) (by first | assumption | (simp <;> omega)) (by first | rfl | simp) (by first | omega | (simp <;> omega)) ?_; intro id2 cap2 rest2 H2 nx2 hH2 hcap2 hid2 hnx2 hfr2 hfs2; simp only [put_nx, withH_nx, put_H, withH_H] at hid2 hnx2 hfr2 hfs2; (try simp only [app_U, ← List.map_append] at hH2))
                have hH2' : H2 id2 = some ((Pv ++ [c]).map Ref.I ++ rest2.map .val) := by rw [← Ref.app_I]; exact hH2
                have hHw : H2 id1 = some ((V.map CZ).map SW ++ rest1.map .val) := by rw [hfr2 _ (by omega) (by omega)]; simp -implicitDefEqProofs (disch := omega) only [go_sem, ht, hH, eq_self]
                simp -implicitDefEqProofs (disch := omega) only [go_sem, ht, h14, h6, h15, h7, h8, h9, h51, h52, eq_self]
                exact ⟨⟨by omega, c + 1, by omega, rfl, by rw [hst3]; exact hHw, id2, cap2, rest2, by rw [hst3]; simp, by rw [hst3]; exact hH2', by rw [hst3]; simp; omega, by omega, by omega⟩, by omega⟩
              · have hklt : k < m.length := by omega
                have hXl := part_len (V := V) (W := W1) (k := k) (by omega) (by omega)
                by_cases hkr : k = Pv.length
                · have hps := part_same (V := V) (W := W1) (k := k) (by omega) (by omega) (by rw [hkr]; exact hVr)
                  rw [hps] at hH
                  subst hkr
                  simp -implicitDefEqProofs (disch := omega) only [go_sem, ht, h14, h6, h15, h7, h8, h9, h51, h52, eq_self]
                  exact ⟨⟨hid, hHp, hip, Pv.length + 1, by omega, rfl, hH⟩, by omega⟩
                · obtain ⟨hl1, hz1⟩ := hW1 k hklt
                  obtain ⟨hl2, hz2⟩ := hW1 Pv.length hrlt
                  have hXk : (part V W1 k).getD k [] = W1.getD k [] := by rw [part_get (by omega) (by omega), if_neg (by omega)]
                  have hXr : (part V W1 k).getD Pv.length [] = W1.getD Pv.length [] := by
                    rw [part_get (by omega) (by omega)]
                    split
                    · exact hVr
                    · rfl
                  have hgk := get_SM (m := (part V W1 k).map CZ) (i := k) (rest1.map .val) (by simp; omega)
                  have hgr := get_SM (m := (part V W1 k).map CZ) (i := Pv.length) (rest1.map .val) (by simp; omega)
                  rw [getD_CZ (by omega), hXk] at hgk
                  rw [getD_CZ (by omega), hXr] at hgr
                  have hclr := clear_calls (c := c) (Rn.C hz1 (by omega)) (Rn.C hz2 (by omega)) (by rw [CZ_len, CZ_len, hl1, hl2]) (by rw [CZ_len, hl1]; omega) (by rw [CZ_len, hl1]; omega) hB
                  rw [vals_CZ, vals_CZ] at hclr
                  have hif : (if vc (W1.getD k []) c = 0 then CZ (W1.getD k []) else CZ (clearZ (W1.getD k []) (W1.getD Pv.length []) c)) = CZ (V.getD k []) := by
                    rw [hVk k hklt hkr]
                    split
                    · rename_i h0
                      rw [clearZ, if_pos h0]
                    · rfl
                  rw [hif] at hclr
                  have hps := part_set (V := V) (W := W1) (k := k) (by omega) (by omega)
                  have hset := set_SM (m := (part V W1 k).map CZ) (i := k) (l := CZ (V.getD k [])) (n := (CZ (V.getD k [])).length) (rest1.map .val) (by simp; omega) rfl
                  rw [← List.map_set, hps] at hset
                  generalize CZ (V.getD k []) = vk at *
                  generalize CZ (W1.getD k []) = wk at *
                  generalize CZ (W1.getD Pv.length []) = wr at *
                  simp -implicitDefEqProofs (disch := omega) only [go_sem, ht, h14, h6, h15, h7, h8, h9, h51, h52, hH, hgk, hgr, eq_self]
                  (refine pCall_view (by simp -implicitDefEqProofs (disch := omega) only [h14, h6, h15, h7, h8, h9, h51, h52, hH, hgk, hgr, hset, go_sem, ht, eq_self] <;> rfl) (by simp -implicitDefEqProofs (disch := omega) only [h14, h6, h15, h7, h8, h9, h51, h52, hH, hgk, hgr, hset, go_sem, ht, eq_self]) (by first | (apply Or.inl; simp -implicitDefEqProofs (disch := omega) only [h14, h6, h15, h7, h8, h9, h51, h52, hH, hgk, hgr, hset, go_sem, ht, eq_self]; done) | (apply Or.inr; rintro r rfl; rfl)) (hclr) ?_; rintro _ nx - rfl hnx; (try simp only [put_nx, withH_nx, begP_nx] at hnx); simp -implicitDefEqProofs (disch := omega) only [h14, h6, h15, h7, h8, h9, h51, h52, hH, hgk, hgr, hset, go_sem, ht, eq_self])
                  exact ⟨⟨by omega, hHp, by omega, k + 1, by omega, rfl, rfl⟩, by omega⟩
end
end Go.Proofs.Ytfjdfnlkobeehaa
