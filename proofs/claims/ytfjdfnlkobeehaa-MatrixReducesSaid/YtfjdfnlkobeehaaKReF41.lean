/- Part 41 of the way to the statement: the walk and what it needs. -/
import Derived.Test.YtfjdfnlkobeehaaKReF36
import Derived.Test.YtfjdfnlkobeehaaKReF39
import Derived.Test.YtfjdfnlkobeehaaKReF40
section
set_option maxRecDepth 100000
set_option linter.unusedVariables false
set_option linter.unusedSimpArgs false
namespace Go.Proofs.Ytfjdfnlkobeehaa

theorem LC_zcongr {z z' : Nat → Int} {ids caps : Nat → Nat} : ∀ {n : Nat}, (∀ i, i < n → z i = z' i) → LC z ids caps n = LC z' ids caps n
  | 0, _ => rfl
  | n + 1, h => by rw [LC_succ, LC_succ, LC_zcongr fun i hi => h i (by omega), h n (by omega)]
theorem OR.congr {H : Nat → Option (List PV)} {lo b id n : Nat} {z z' : Nat → Int} {ids caps : Nat → Nat} (h : OR H lo b id n z ids caps) (e : ∀ i, i < n → z i = z' i) : OR H lo b id n z' ids caps := by
  obtain ⟨rest, ho⟩ := h.out
  refine ⟨⟨rest, by rw [← LC_zcongr e]; exact ho⟩, fun i hi => ?_, h.lt, h.inj, h.id⟩
  rw [← e i hi]; exact h.leaf i hi
theorem LC_shift (z : Nat → Int) (ids caps : Nat → Nat) (k : Nat) : ∀ n, shiftL k (LC z ids caps n) = LC z (fun i => ids i + k) caps n
  | 0 => rfl
  | n + 1 => by
    rw [LC_succ, LC_succ, shiftL_app, LC_shift z ids caps k n]
    simp [shiftL, Ytfjdfnlkobeehaa.shift]
theorem shiftL_U (k : Nat) (xs : List Nat) : shiftL k (xs.map U) = xs.map U := shiftL_flat _ _ (flatL_U _)
theorem OR.shift {H G : Nat → Option (List PV)} {lo b id n k : Nat} {z : Nat → Int} {ids caps : Nat → Nat} (h : OR G lo b id n z ids caps) : OR (joinH H k G) (lo + k) (b + k) (id + k) n z (fun i => ids i + k) caps := by
  obtain ⟨rest, ho⟩ := h.out
  refine ⟨⟨rest, by rw [joinH_ge, ho]; simp only [Option.map_some, shiftL_app, LC_shift, shiftL_val]⟩, fun i hi => ?_, fun i hi => ?_, fun i j hi hj e => h.inj i j hi hj (by omega), ⟨by have := h.id; omega, by have := h.id; omega⟩⟩
  · obtain ⟨r, hr, hc⟩ := h.leaf i hi
    exact ⟨r, by rw [joinH_ge, hr]; simp only [Option.map_some, shiftL_app, shiftL_U, shiftL_val], hc⟩
  · have := h.lt i hi
    exact ⟨by omega, by omega, by omega⟩
theorem MC_shift (rid rcap : Nat → Nat) (cols k : Nat) : ∀ n, shiftL k (MC rid rcap cols n) = MC (fun i => rid i + k) rcap cols n
  | 0 => rfl
  | n + 1 => by
    rw [MC_succ, MC_succ, shiftL_app, MC_shift rid rcap cols k n]
    simp [shiftL, Ytfjdfnlkobeehaa.shift]
theorem OT.shift {H G : Nat → Option (List PV)} {lo0 b idM n cols k : Nat} {z : Nat → Nat → Int} {rid rcap lo hi : Nat → Nat} {ids caps : Nat → Nat → Nat} (h : OT G lo0 b idM n cols z rid rcap lo hi ids caps) :
    OT (joinH H k G) (lo0 + k) (b + k) (idM + k) n cols z (fun i => rid i + k) rcap (fun i => lo i + k) (fun i => hi i + k) (fun i j => ids i j + k) caps := by
  obtain ⟨rest, ho⟩ := h.out
  refine ⟨⟨rest, by rw [joinH_ge, ho]; simp only [Option.map_some, shiftL_app, MC_shift, shiftL_val]⟩, fun i hi' => (h.row i hi').shift, fun i hi' => ?_, fun i j hij hj => ?_, ⟨by have := h.idM; omega, by have := h.idM; omega⟩⟩
  · have := h.bd i hi'
    exact ⟨by omega, by omega, by omega⟩
  · have := h.ord i j hij hj
    omega
theorem mapM_two {α β : Type} {f : α → Option β} {l m : List α} {r s : List β} (h : l.mapM f = some r) (h' : m.mapM f = some s) : (l ++ m).mapM f = some (r ++ s) := by
  rw [List.mapM_append, h, h']; rfl
theorem SWc_next {zs : List Int} {n : Nat} (h : n < zs.length) : SWc (CZ (zs.take (n + 1))) = SWc (CZ (zs.take n)) ++ [.val (.bool (decide (vc zs n < 0))), .sl (D (vc zs n).natAbs).length ((D (vc zs n).natAbs).map U)] := by
  have e : ∀ k, CZ (zs.take k) = (CZ zs).take k := fun k => by simp [CZ, List.map_take]
  have htk := SWc_take (l := CZ zs) (i := n) (by rw [CZ_len]; exact h)
  have e1 : (CZ zs)[n]'(by rw [CZ_len]; exact h) = toC zs[n] := by simp [CZ]
  rw [e1] at htk
  simp only [toC] at htk
  rw [e, e, vc_lt h, ← htk]
theorem LC_frz {H : Nat → Option (List PV)} {lo b id m : Nat} {zs : List Int} {ids caps : Nat → Nat} (h : OR H lo b id m (vc zs) ids caps) (hm : m ≤ zs.length) : ∀ {n}, n ≤ m → (LC (vc zs) ids caps n).mapM (Ytfjdfnlkobeehaa.frz (fun _ => true) H 1) = some (SWc (CZ (zs.take n)))
  | 0, _ => rfl
  | n + 1, hn => by
    rw [LC_succ, SWc_next (by omega)]
    refine mapM_two (LC_frz h hm (by omega)) ?_
    obtain ⟨r, hr, hc⟩ := h.leaf n (by omega)
    have hfl := frzL_flat (fun _ => true) H 0 (flatL_U (D (vc zs n).natAbs))
    have htk : (List.map U (D (vc zs n).natAbs) ++ r.map PV.val).take ((D (vc zs n).natAbs).length * 1) = List.map U (D (vc zs n).natAbs) := by
      rw [Nat.mul_one, List.take_left' (by simp)]
    rw [mapMo_cons, mapMo_cons, mapMo_nil, frz_flat _ _ _ _ (show Ytfjdfnlkobeehaa.flat (.val (.bool (decide (vc zs n < 0)))) = true from rfl)]
    simp only [frz_ref, if_true, hr, Option.bind_some, List.drop_zero, htk, hfl, Option.map_some]
    rw [if_pos (by simp)]; rfl
theorem OR.frz {H : Nat → Option (List PV)} {lo b id cap : Nat} {zs : List Int} {ids caps : Nat → Nat} (h : OR H lo b id zs.length (vc zs) ids caps) : Ytfjdfnlkobeehaa.frz (fun _ => true) H 2 (.ref id 0 zs.length cap 2) = some (SW (CZ zs)) := by
  obtain ⟨rest, ho⟩ := h.out
  have hl := LC_len (vc zs) ids caps zs.length
  have hf := LC_frz h (Nat.le_refl _) (Nat.le_refl _)
  rw [List.take_length] at hf
  simp only [frz_ref, if_true, ho, Option.bind_some, List.drop_zero]
  rw [if_pos (by simp; omega), List.take_left' hl, hf]
  show some (PV.sl zs.length (SWc (CZ zs))) = some (.sl (CZ zs).length (SWc (CZ zs)))
  rw [CZ_len]

def OM (H : Nat → Option (List PV)) (lo b idM : Nat) (W : List (List Int)) (cols : Nat) : Prop :=
  (∀ k, k < W.length → (W.getD k []).length = cols) ∧ ∃ (rid rcap l h : Nat → Nat) (ids caps : Nat → Nat → Nat), OT H lo b idM W.length cols (fun k => vc (W.getD k [])) rid rcap l h ids caps
theorem OM.shift {H G : Nat → Option (List PV)} {lo b idM cols k : Nat} {W : List (List Int)} (h : OM G lo b idM W cols) : OM (joinH H k G) (lo + k) (b + k) (idM + k) W cols := by
  obtain ⟨h0, _, _, _, _, _, _, h1⟩ := h
  exact ⟨h0, _, _, _, _, _, _, h1.shift⟩
theorem MC_frz {H : Nat → Option (List PV)} {lo b idM cols : Nat} {W : List (List Int)} {rid rcap l h : Nat → Nat} {ids caps : Nat → Nat → Nat} (h0 : ∀ k, k < W.length → (W.getD k []).length = cols) (hT : OT H lo b idM W.length cols (fun k => vc (W.getD k [])) rid rcap l h ids caps) :
    ∀ {n}, n ≤ W.length → (MC rid rcap cols n).mapM (Ytfjdfnlkobeehaa.frz (fun _ => true) H 2) = some (((W.take n).map CZ).map SW)
  | 0, _ => rfl
  | n + 1, hn => by
    have e : W.take (n + 1) = W.take n ++ [W.getD n []] := by
      rw [List.take_succ_eq_append_getElem (by omega)]; simp [show n < W.length by omega]
    rw [MC_succ, e, List.map_append, List.map_append]
    refine mapM_two (MC_frz h0 hT (by omega)) ?_
    have hr := hT.row n (by omega)
    have hc := h0 n (by omega)
    rw [← hc] at hr
    rw [mapMo_cons, mapMo_nil, ← hc, hr.frz]; rfl
theorem OM.frz {H : Nat → Option (List PV)} {lo b idM cols capM : Nat} {W : List (List Int)} (h : OM H lo b idM W cols) : Ytfjdfnlkobeehaa.frz (fun _ => true) H 3 (.ref idM 0 W.length capM 1) = some (SM (W.map CZ)) := by
  obtain ⟨h0, rid, rcap, l, hi, ids, caps, h1⟩ := h
  obtain ⟨rest, ho⟩ := h1.out
  have hl := MC_len rid rcap cols W.length
  have hf := MC_frz h0 h1 (Nat.le_refl _)
  rw [List.take_length] at hf
  simp only [frz_ref, if_true, ho, Option.bind_some, List.drop_zero]
  rw [if_pos (by simp; omega), List.take_left' (by omega), hf, SM_def]
  simp

theorem OM.borrow {f : FuncId} {H : Nat → Option (List PV)} {lo b idM cols capM nx : Nat} {W : List (List Int)} {args : List PV} {x : Value} (h : OM H lo b idM W cols) (hfl : flatL args = true) (hc : PT Try.prog f (SM (W.map CZ) :: args) (isV (.val x))) :
    PCalls Try.prog f (.ref idM 0 W.length capM 1 :: args) H nx (memQ (.val x) H nx) := by
  refine PCalls.borrow (d := 3) (args' := SM (W.map CZ) :: args) ?_ ?_ hc
  · rw [mapMo_cons, h.frz, frzL_flat _ _ _ hfl]; rfl
  · rw [flatL_cons, hfl, Bool.and_true, SM_def]; simp only [Ytfjdfnlkobeehaa.flat]; exact SM_flat _

def omQ (mk : PV → PV) (W : List (List Int)) (cols : Nat) (r : PV) (H' : Nat → Option (List PV)) (nx' : Nat) : Prop :=
  ∃ idM capM, r = mk (.ref idM 0 W.length capM 1) ∧ OM H' 0 nx' idM W cols
end Go.Proofs.Ytfjdfnlkobeehaa
end

section
set_option maxRecDepth 100000
set_option linter.unusedVariables false
set_option linter.unusedSimpArgs false
namespace Go.Proofs.Ytfjdfnlkobeehaa

section
variable {m : List (List (Bool × List Nat))} {cols K B : Nat}
set_option maxHeartbeats 4000000 in
theorem echelon_L (hm : ∀ l ∈ m, Rn l K ∧ l.length = cols) (hcols : cols ≤ 1000) (hlen : m.length ≤ 10000) (hEZ : ∀ c, EZ 4294967296 B m.length cols (echW (m.map vals) c)) (hsh : ∀ c k, k < m.length → ∀ x ∈ (echW (m.map vals) c).1.getD k [], Z (B + 1) x) (hB : 2 * (B + 1) + 1 ≤ 1000000) :
    PCalls Try.prog 53 [SM m, .val (.int .i64 cols)] (fun _ => none) 0 (omQ (fun p => .tup [p, .sl (echW (m.map vals) cols).2.length ((echW (m.map vals) cols).2.map Ref.I)]) (echT (m.map vals) cols) cols) := by
  have heach : PO1 Try.prog 66 [SM m, .fn 90 []] (fun p => p) ((((m.map vals).map primZ).map CZ).map SW) := by
    refine each_r (by omega) (by simp) fun i hi => ?_
    have hl := hm (m.getD i []) (by simp [hi])
    have := primitive_calls hl.1 (by omega)
    have e : ((((m.map vals).map primZ).map CZ)).getD i [] = CZ (primZ (vals (m.getD i []))) := by simp [hi]
    rw [e]; exact this
  refine PCalls.enter (n := 83) (rs := [.tmp 4, .tmp 5]) (tb := [(11, [(0, []), (1, []), (2, []), (3, []), (4, []), (5, []), (6, []), (7, []), (8, []), (9, []), (10, []), (11, []), (12, []), (13, [2, 3]), (14, []), (15, [])]), (1000011, [(0, []), (0, []), (0, []), (0, []), (0, []), (0, []), (48, []), (112, []), (0, []), (0, []), (768, []), (1792, []), (4083, []), (8179, []), (16383, []), (32767, [])]), (16, [(0, []), (1, []), (2, []), (3, []), (4, []), (5, []), (6, []), (7, []), (8, []), (9, []), (10, []), (11, [0, 1]), (12, []), (13, [])]), (1000016, [(0, []), (0, []), (0, []), (0, []), (12, []), (28, []), (0, []), (0, []), (192, []), (448, []), (0, []), (2044, []), (4095, []), (8191, [])])]) Try.func53 rfl rfl rfl (by kernel_rfl) (by kernel_rfl) (by simp) fun c hc ht => ?_
  simp -implicitDefEqProofs (disch := omega) only [go_sem, ht]
  (refine pCall_ownF (mk := fun p => p) (mk_id) (by simp -implicitDefEqProofs (disch := omega) only [go_sem, ht] <;> rfl) (by simp -implicitDefEqProofs (disch := omega) only [go_sem, ht]) (by simp -implicitDefEqProofs (disch := omega) only [go_sem, ht]) (SM_flat _) (heach) ?_; intro id1 cap1 rest1 nx1 hid1 hnx1 hcap1; simp only [put_nx, withH_nx, begP_nx, List.length_map] at hid1 hcap1; simp -implicitDefEqProofs (disch := omega) only [go_sem, ht])
  refine LW.ghost (Gh.nilW 7 1 (by simp -implicitDefEqProofs (disch := omega) only [go_sem, ht])) ?_
  refine LW.loopW hc ht (by kernel_rfl) (fun t => t.sl 14 = .val (.int .i64 cols) ∧ t.sl 6 = .ref id1 0 m.length cap1 1 ∧ id1 < t.nx ∧ ∃ c : Nat, c ≤ cols ∧ t.sl 15 = .val (.int .i64 c) ∧ t.H id1 = some ((((echW (m.map vals) c).1.map CZ).map SW) ++ rest1.map .val) ∧
      ∃ (ip cp : Nat) (rp : List Value), t.sl 7 = .ref ip 0 (echW (m.map vals) c).2.length cp 1 ∧ t.H ip = some ((echW (m.map vals) c).2.map Ref.I ++ rp.map .val) ∧ (echW (m.map vals) c).2.length + rp.length = cp ∧ ip < t.nx ∧ ip ≠ id1)
    (fun t => match t.sl 15 with | .val (.int _ k) => cols - k.toNat | _ => 0) ?_ ?_
  · simp -implicitDefEqProofs (disch := omega) only [go_sem, ht]
    refine ⟨0, Nat.zero_le _, rfl, rfl, nx1, 0, [], rfl, upd_self _ _ _, rfl, by omega, by omega⟩
  · rintro t ⟨h14, h6, hid, c, hcc, h15, hH, ip, cp, rp, h7, hHp, hcp, hip, hne⟩
    by_cases hcl : c = cols
    · subst hcl
      have E := hEZ c
      have hrow := E.row
      have hlW := E.len
      have hshc := hsh c
      have htle : (echW (m.map vals) c).2.length ≤ m.length := by
        obtain ⟨O, κ, hE, _⟩ := E.st
        exact hE.tle
      have hTl : (echT (m.map vals) c).length = (echW (m.map vals) c).2.length := by unfold echT; simp; omega
      have hTr : ∀ i, i < (echW (m.map vals) c).2.length → (echT (m.map vals) c).getD i [] = upZ ((echW (m.map vals) c).1.getD i []) := fun i hi => by
        unfold echT
        simp only [List.getD_eq_getElem?_getD, List.getElem?_map, List.getElem?_take]
        rw [if_pos hi, List.getElem?_eq_getElem (by omega)]; rfl
      generalize echT (m.map vals) c = T at *
      generalize (echW (m.map vals) c).1 = W at *
      generalize (echW (m.map vals) c).2 = Pv at *
      have hml : ((W.take Pv.length).map CZ).length = Pv.length := by simp; omega
      have hup : ∀ H nx, PCalls Try.prog 66 [SM ((W.take Pv.length).map CZ), .fn 92 []] H nx (rowsLQ (fun i => if sgF 0 (W.getD i []) < 0 then fun j => -vc (W.getD i []) j else vc (W.getD i [])) ((W.take Pv.length).map CZ).length c H nx) := fun H nx => by
        refine each_rL (by simp; omega) fun i hi H nx => ?_
        have hi1 : i < (W.take Pv.length).length := by simpa using hi
        have hi2 : i < W.length := by simp at hi1; omega
        have e1 : ((W.take Pv.length).map CZ).getD i [] = CZ (W.getD i []) := by
          rw [getD_CZ hi1]; congr 1
          simp only [List.getD_eq_getElem?_getD, List.getElem?_take]
          rw [if_pos (by simp at hi1; omega)]
        rw [e1]
        have := up_L (l := CZ (W.getD i [])) (k := B + 1) (H := H) (nx := nx) (.C (hshc i (by omega)) (by omega)) (by rw [CZ_len, (hrow i (by omega)).1]; omega)
        rw [vals_CZ, CZ_len, (hrow i (by omega)).1] at this
        have e2 : (fun j => if sgF 0 (W.getD i []) < 0 then -vc (W.getD i []) j else vc (W.getD i []) j) = (if sgF 0 (W.getD i []) < 0 then fun j => -vc (W.getD i []) j else vc (W.getD i [])) := by split <;> rfl
        rw [e2] at this
        exact this
      have htk : List.take Pv.length ((W.map CZ).map SW ++ rest1.map .val) = ((W.take Pv.length).map CZ).map SW := by
        rw [List.take_append_of_le_length (by simp; omega), ← List.map_take, ← List.map_take]
      rw [SM_def, hml] at hup
      have hWl : ((W.map CZ).map SW).length = m.length := by simp; exact hlW
      have hfl := SM_flat ((W.take Pv.length).map CZ)
      have hfl2 := frzL_flat (fun _ => true) t.H 0 hfl
      generalize ((W.take Pv.length).map CZ).map SW = c1 at *
      have hif : (if cap1 = 0 then 0 else 0) = 0 := by simp
      have hle : Pv.length ≤ W.length + rest1.length := by omega
      have hPl : (Pv.map Ref.I).length = Pv.length := by simp
      simp -implicitDefEqProofs (disch := omega) only [go_sem, ht, h14, h6, h15, h7, hif]
      refine pCall_frzMem (by simp -implicitDefEqProofs (disch := omega) only [go_sem, ht, h14, h6, h15, h7, hH, hHp, htk, hif, hfl2, hfl, hle] <;> rfl) (hup _ _) ?_
      rintro r H1 nx1 ⟨idM, capM, rid, rcap, lo, hi, ids, caps, rfl, hT, hfr⟩ hn1
      simp -implicitDefEqProofs (disch := omega) only [go_sem, ht, h14, h6, h15, h7, hH, hHp, htk, hif, hfl2, hfl, hle]
      refine end_plain (by simp -implicitDefEqProofs (disch := omega) only [go_sem, ht, hPl, Nat.le_add_right, if_pos, Option.getD_some, Ref.flatL_I] <;> rfl) ?_
      simp only [tupP_2]
      refine ⟨idM, capM, by rw [hTl], fun k hk => ?_, rid, rcap, lo, hi, ids, caps, ?_⟩
      · rw [hTr k (by omega), upZ_len]; exact (hrow k (by omega)).1
      · have hz : ∀ k, k < Pv.length → ∀ j, j < c → (if sgF 0 (W.getD k []) < 0 then fun j => -vc (W.getD k []) j else vc (W.getD k [])) j = vc (T.getD k []) j := fun k hk j hj => by
          rw [hTr k hk, upZ_vc _ _ (by rw [(hrow k (by omega)).1]; exact hj)]
          split <;> rfl
        rw [hTl]
        obtain ⟨g1, g2, g3, g4, g5⟩ := hT
        refine ⟨g1, fun k hk => (g2 k hk).congr (hz k hk), fun k hk => ?_, g4, ⟨Nat.zero_le _, g5.2⟩⟩
        obtain ⟨q1, q2, q3⟩ := g3 k hk
        exact ⟨Nat.zero_le _, q2, q3⟩
    · have E := hEZ c
      have hshc := hsh c
      have hlW := E.len
      have hrow := E.row
      have htle : (echW (m.map vals) c).2.length ≤ m.length := by
        obtain ⟨O, κ, hE, _⟩ := E.st
        exact hE.tle
      have hst : echW (m.map vals) (c + 1) = stepE c (echW (m.map vals) c) := rfl
      obtain ⟨W, eW⟩ : ∃ W, (echW (m.map vals) c).1 = W := ⟨_, rfl⟩
      obtain ⟨Pv, eP⟩ : ∃ Pv, (echW (m.map vals) c).2 = Pv := ⟨_, rfl⟩
      rw [eW] at hH hlW hrow hshc
      rw [eP] at h7 hHp hcp htle
      have hst2 : echW (m.map vals) (c + 1) = if findP W c Pv.length < W.length then (clearAll (swapL W Pv.length (findP W c Pv.length)) Pv.length c, Pv ++ [c]) else (W, Pv) := by
        rw [hst, stepE, eW, eP]
        split
        · rfl
        · rw [← eW, ← eP]
      clear hst E
      simp -implicitDefEqProofs (disch := omega) only [go_sem, ht, h14, h6, h15, h7]
      refine LW.loopW hc ht (by kernel_rfl) (fun s => s.sl 14 = .val (.int .i64 cols) ∧ s.sl 6 = .ref id1 0 m.length cap1 1 ∧ id1 < s.nx ∧ s.sl 15 = .val (.int .i64 c) ∧ s.sl 8 = .val (.int .i64 c) ∧ s.sl 9 = .val (.int .i64 Pv.length) ∧ s.H id1 = some (((W.map CZ).map SW) ++ rest1.map .val) ∧
          s.sl 7 = .ref ip 0 Pv.length cp 1 ∧ s.H ip = some (Pv.map Ref.I ++ rp.map .val) ∧ ip < s.nx ∧ ∃ i : Nat, i ≤ m.length ∧ Pv.length ≤ i ∧ s.sl 10 = .val (.int .i64 i) ∧ findP W c i = findP W c Pv.length)
        (fun s => match s.sl 10 with | .val (.int _ k) => m.length - k.toNat | _ => 0) ?_ ?_
      · simp -implicitDefEqProofs (disch := omega) only [go_sem, ht, h14, h6, h15, h7]
        exact ⟨hid, hH, hHp, hip, Pv.length, htle, Nat.le_refl _, rfl, rfl⟩
      · clear h14 h6 h15 h7 hid hH hHp hip
        rintro s ⟨h14, h6, hid, h15, h8, h9, hH, h7, hHp, hip, i, hi, hri, h10, hfi⟩
        by_cases hil : i = m.length
        · subst hil
          have hend : findP W c Pv.length = W.length := by rw [← hfi]; exact findP_end (by omega)
          rw [if_neg (by omega)] at hst2
          simp -implicitDefEqProofs (disch := omega) only [go_sem, ht, h14, h6, h15, h7, h8, h9, h10]
          exact ⟨⟨hid, c + 1, by omega, rfl, by rw [hst2]; exact hH, ip, cp, rp, by rw [hst2], by rw [hst2]; exact hHp, by rw [hst2]; exact hcp, hip, hne⟩, by omega⟩
        · have hlt : i < m.length := by omega
          obtain ⟨hzl, hzp⟩ := hrow i hlt
          have hgi := get_SM (m := W.map CZ) (i := i) (rest1.map .val) (by simp; omega)
          rw [getD_CZ (by omega)] at hgi
          have hat := CZ_at (z := W.getD i []) (c := c) (by omega)
          have hzs := hshc i hlt
          have hzx : Z (B + 1) (vc (W.getD i []) c) := by
            rw [vc_lt (by omega)]; exact hzs _ (List.getElem_mem _)
          have hsg := signW (Wn.C hzx (by omega))
          have hfe := findP_eq (W := W) (c := c) (i := i) (by omega)
          have hczl : (CZ (W.getD i [])).length = cols := by rw [CZ_len]; exact hzl
          by_cases hz0 : vc (W.getD i []) c = 0
          · rw [if_neg (by simpa using hz0)] at hfe
            rw [hz0, cZ_eq rfl] at hsg
            rw [hz0] at hat
            have hfi2 : findP W c (i + 1) = findP W c Pv.length := by rw [← hfe]; exact hfi
            simp -implicitDefEqProofs (disch := omega) only [go_sem, ht, h14, h6, h15, h7, h8, h9, h10, hH, hgi, hczl, hat]
            (refine pCall_vw (by refine ⟨⟨?_, ?_⟩, ?_, ?_⟩; rotate_left 2; (first | (right; rintro r rfl; rfl) | left); all_goals ((try simp -implicitDefEqProofs (disch := omega) only [h14, h6, h15, h7, h8, h9, h10, hH, hgi, hczl, hat, go_sem, ht]) <;> rfl)) (hsg) ?_; rintro _ nx - rfl hnx; simp -implicitDefEqProofs (disch := omega) only [h14, h6, h15, h7, h8, h9, h10, hH, hgi, hczl, hat, go_sem, ht])
            exact ⟨⟨by omega, hHp, by omega, i + 1, by omega, by omega, rfl, hfi2⟩, by omega⟩
          · rw [if_pos (by simpa using hz0)] at hfe
            have hfi3 : findP W c Pv.length = i := by rw [← hfi]; exact hfe
            rw [hfi3, if_pos (by omega)] at hst2
            have hs0 : cZ (vc (W.getD i []) c) 0 ≠ 0 := by unfold cZ; split <;> (try split) <;> omega
            have hrlt : Pv.length < m.length := by omega
            have hgr := get_SM (m := W.map CZ) (i := Pv.length) (rest1.map .val) (by simp; omega)
            rw [getD_CZ (by omega)] at hgr
            have hczr : (CZ (W.getD Pv.length [])).length = cols := by rw [CZ_len]; exact (hrow _ hrlt).1
            have hset1 := set_SM (m := W.map CZ) (i := Pv.length) (l := CZ (W.getD i [])) (n := cols) (rest1.map .val) (by simp; omega) hczl.symm
            have hset2 := set_SM (m := (W.map CZ).set Pv.length (CZ (W.getD i []))) (i := i) (l := CZ (W.getD Pv.length [])) (n := cols) (rest1.map .val) (by simp; omega) hczr.symm
            have hsw : ((W.map CZ).set Pv.length (CZ (W.getD i []))).set i (CZ (W.getD Pv.length [])) = (swapL W Pv.length i).map CZ := by
              unfold swapL
              rw [List.map_set, List.map_set]
            rw [hsw] at hset2
            generalize cZ (vc (W.getD i []) c) 0 = sx at *
            simp -implicitDefEqProofs (disch := omega) only [go_sem, ht, h14, h6, h15, h7, h8, h9, h10, hH, hgi, hczl, hat]
            (refine pCall_vw (by refine ⟨⟨?_, ?_⟩, ?_, ?_⟩; rotate_left 2; (first | (right; rintro r rfl; rfl) | left); all_goals ((try simp -implicitDefEqProofs (disch := omega) only [h14, h6, h15, h7, h8, h9, h10, hH, hgi, hczl, hat, hgr, hczr, hset1, hset2, go_sem, ht]) <;> rfl)) (hsg) ?_; rintro _ nx - rfl hnx; simp -implicitDefEqProofs (disch := omega) only [h14, h6, h15, h7, h8, h9, h10, hH, hgi, hczl, hat, hgr, hczr, hset1, hset2, go_sem, ht])
            refine ⟨by simp; omega, ?_⟩
            clear hgi hgr hat hset1 hset2 hsg hczl hczr
            have hW1l : (swapL W Pv.length i).length = m.length := by rw [swapL_len]; exact hlW
            have hVl : (clearAll (swapL W Pv.length i) Pv.length c).length = m.length := by rw [clearAll_len]; exact hW1l
            have hVr : (clearAll (swapL W Pv.length i) Pv.length c).getD Pv.length [] = (swapL W Pv.length i).getD Pv.length [] := by rw [clearAll_get (by omega), if_pos rfl]
            have hVk : ∀ k, k < m.length → k ≠ Pv.length → (clearAll (swapL W Pv.length i) Pv.length c).getD k [] = clearZ ((swapL W Pv.length i).getD k []) ((swapL W Pv.length i).getD Pv.length []) c := fun k hk hkr => by rw [clearAll_get (by omega), if_neg hkr]
            have hW1 : ∀ k, k < m.length → ((swapL W Pv.length i).getD k []).length = cols ∧ ∀ x ∈ (swapL W Pv.length i).getD k [], Z (B + 1) x := fun k hk => by
              rw [swapL_get (by omega) (by omega) (by omega)]
              have hb := swp_bd (i := i) (t := Pv.length) hlt hrlt hk
              exact ⟨(hrow _ hb).1, hshc _ hb⟩
            have hst3 : echW (m.map vals) (c + 1) = (clearAll (swapL W Pv.length i) Pv.length c, Pv ++ [c]) := hst2
            generalize clearAll (swapL W Pv.length i) Pv.length c = V at *
            generalize swapL W Pv.length i = W1 at *
            refine LW.loopW hc ht (by kernel_rfl) (fun u => u.sl 14 = .val (.int .i64 cols) ∧ u.sl 6 = .ref id1 0 m.length cap1 1 ∧ id1 < u.nx ∧ u.sl 15 = .val (.int .i64 c) ∧ u.sl 8 = .val (.int .i64 c) ∧ u.sl 9 = .val (.int .i64 Pv.length) ∧
                u.sl 7 = .ref ip 0 Pv.length cp 1 ∧ u.H ip = some (Pv.map Ref.I ++ rp.map .val) ∧ ip < u.nx ∧ u.sl 51 = .val (.int .i64 m.length) ∧ ∃ k : Nat, k ≤ m.length ∧ u.sl 52 = .val (.int .i64 k) ∧ u.H id1 = some ((((part V W1 k).map CZ).map SW) ++ rest1.map .val))
              (fun u => match u.sl 52 with | .val (.int _ k) => m.length - k.toNat | _ => 0) ?_ ?_
            · simp -implicitDefEqProofs (disch := omega) only [go_sem, ht, h14, h6, h15, h7, h8, h9, h10, hHp, hne]
              exact ⟨by omega, by omega, 0, Nat.zero_le _, rfl, by simp [part]⟩
            · clear h14 h6 h15 h7 h8 h9 h10 hid hH hHp hip
              rintro u ⟨h14, h6, hid, h15, h8, h9, h7, hHp, hip, h51, k, hk, h52, hH⟩
              by_cases hkl : k = m.length
              · have hpt : part V W1 k = V := by
                  unfold part
                  rw [List.take_of_length_le (by omega), List.drop_of_length_le (by omega), List.append_nil]
                rw [hpt] at hH
                subst hkl
                simp -implicitDefEqProofs (disch := omega) only [go_sem, ht, h14, h6, h15, h7, h8, h9, h51, h52]
                have hpl : (Pv.map Ref.I).length = Pv.length := by simp
                (refine append_ownX (by refine ⟨?_, ?_, ?_, ?_, ?_, ?_, ?_, ?_⟩ <;> (simp -implicitDefEqProofs (disch := omega) only [srcP_ref, srcP_sl, srcP_nil, Option.isSome_some, hHp, go_sem, ht] <;> rfl)) (by simp <;> omega) (by first | assumption | (simp <;> omega)) (by first | rfl | simp) (by first | omega | (simp <;> omega)) ?_; intro id2 cap2 rest2 H2 nx2 hH2 hcap2 hid2 hnx2 hfr2 hfs2; simp only [put_nx, withH_nx, put_H, withH_H] at hid2 hnx2 hfr2 hfs2; (try simp only [app_U, ← List.map_append] at hH2))
                have hH2' : H2 id2 = some ((Pv ++ [c]).map Ref.I ++ rest2.map .val) := by rw [← Ref.app_I]; exact hH2
                have hHw : H2 id1 = some ((V.map CZ).map SW ++ rest1.map .val) := by rw [hfr2 _ (by omega) (by omega)]; simp -implicitDefEqProofs (disch := omega) only [go_sem, ht, hH]
                simp -implicitDefEqProofs (disch := omega) only [go_sem, ht, h14, h6, h15, h7, h8, h9, h51, h52]
                exact ⟨⟨by omega, c + 1, by omega, rfl, by rw [hst3]; exact hHw, id2, cap2, rest2, by rw [hst3]; simp, by rw [hst3]; exact hH2', by rw [hst3]; simp; omega, by omega, by omega⟩, by omega⟩
              · have hklt : k < m.length := by omega
                have hXl := part_len (V := V) (W := W1) (k := k) (by omega) (by omega)
                by_cases hkr : k = Pv.length
                · have hps := part_same (V := V) (W := W1) (k := k) (by omega) (by omega) (by rw [hkr]; exact hVr)
                  rw [hps] at hH
                  subst hkr
                  simp -implicitDefEqProofs (disch := omega) only [go_sem, ht, h14, h6, h15, h7, h8, h9, h51, h52]
                  exact ⟨⟨hid, hHp, hip, Pv.length + 1, by omega, rfl, hH⟩, by omega⟩
                · obtain ⟨hl1, hz1⟩ := hW1 k hklt
                  obtain ⟨hl2, hz2⟩ := hW1 Pv.length hrlt
                  have hXk : (part V W1 k).getD k [] = W1.getD k [] := by rw [part_get (by omega) (by omega), if_neg (by omega)]
                  have hXr : (part V W1 k).getD Pv.length [] = W1.getD Pv.length [] := by
                    rw [part_get (by omega) (by omega)]
                    split
                    · exact hVr
                    · rfl
                  have hgk := get_SM (m := (part V W1 k).map CZ) (i := k) (rest1.map .val) (by simp; omega)
                  have hgr := get_SM (m := (part V W1 k).map CZ) (i := Pv.length) (rest1.map .val) (by simp; omega)
                  rw [getD_CZ (by omega), hXk] at hgk
                  rw [getD_CZ (by omega), hXr] at hgr
                  have hclr := clear_calls (c := c) (Rn.C hz1 (by omega)) (Rn.C hz2 (by omega)) (by rw [CZ_len, CZ_len, hl1, hl2]) (by rw [CZ_len, hl1]; omega) (by rw [CZ_len, hl1]; omega) hB
                  rw [vals_CZ, vals_CZ] at hclr
                  have hif : (if vc (W1.getD k []) c = 0 then CZ (W1.getD k []) else CZ (clearZ (W1.getD k []) (W1.getD Pv.length []) c)) = CZ (V.getD k []) := by
                    rw [hVk k hklt hkr]
                    split
                    · rename_i h0
                      rw [clearZ, if_pos h0]
                    · rfl
                  rw [hif] at hclr
                  have hps := part_set (V := V) (W := W1) (k := k) (by omega) (by omega)
                  have hset := set_SM (m := (part V W1 k).map CZ) (i := k) (l := CZ (V.getD k [])) (n := (CZ (V.getD k [])).length) (rest1.map .val) (by simp; omega) rfl
                  rw [← List.map_set, hps] at hset
                  generalize CZ (V.getD k []) = vk at *
                  generalize CZ (W1.getD k []) = wk at *
                  generalize CZ (W1.getD Pv.length []) = wr at *
                  simp -implicitDefEqProofs (disch := omega) only [go_sem, ht, h14, h6, h15, h7, h8, h9, h51, h52, hH, hgk, hgr]
                  (refine pCall_vw (by refine ⟨⟨?_, ?_⟩, ?_, ?_⟩; rotate_left 2; (first | (right; rintro r rfl; rfl) | left); all_goals ((try simp -implicitDefEqProofs (disch := omega) only [h14, h6, h15, h7, h8, h9, h51, h52, hH, hgk, hgr, hset, go_sem, ht]) <;> rfl)) (hclr) ?_; rintro _ nx - rfl hnx; simp -implicitDefEqProofs (disch := omega) only [h14, h6, h15, h7, h8, h9, h51, h52, hH, hgk, hgr, hset, go_sem, ht])
                  exact ⟨⟨by omega, hHp, by omega, k + 1, by omega, rfl, rfl⟩, by omega⟩
end
end Go.Proofs.Ytfjdfnlkobeehaa
end

section
set_option maxRecDepth 100000
set_option linter.unusedVariables false
set_option linter.unusedSimpArgs false
namespace Go.Proofs.Ytfjdfnlkobeehaa


theorem pCall_om {f : FuncId} {args args' : List PV} {st : PS} {K : PV → PS → Prop} {mk : PV → PV} {W : List (List Int)} {cols : Nat} (hmk : ∀ k p, Ytfjdfnlkobeehaa.shift k (mk p) = mk (Ytfjdfnlkobeehaa.shift k p)) (hv : args.map (view st.H) = args') (hfa : flatL args = true) (hf : flatL args' = true)
    (h : PCalls Try.prog f args' (fun _ => none) 0 (omQ mk W cols))
    (hk : ∀ idM capM H' n, OM H' st.nx n idM W cols → (∀ j, j < st.nx → H' j = st.H j) → st.nx ≤ n → K (mk (.ref idM 0 W.length capM 1)) (st.withH H' n)) : pCall Try.prog f args st K := by
  refine pCall_new hv hfa hf h ?_
  rintro _ H' nx' ⟨idM, capM, rfl, hM⟩
  have hS := hM.shift (H := st.H) (k := st.nx)
  rw [hmk]
  rw [Nat.zero_add, Nat.add_comm nx'] at hS
  exact hk _ _ _ _ hS (fun j hj => joinH_lt hj) (Nat.le_add_right _ _)
section
variable {m : List (List (Bool × List Nat))} {W : List (List Int)} {cols k B : Nat}
theorem told_L {H : Nat → Option (List PV)} {lo b idM capM nx : Nat} (hM : OM H lo b idM W cols) (h : ∀ z ∈ W, z.length = cols ∧ ∀ x ∈ z, Z k x) (hk : k ≤ 1000000) (hn : W.length ≤ 1000000) (hcols : cols ≤ 1000000) (hl : longZ W = false) :
    PCalls Try.prog 54 [.ref idM 0 W.length capM 1] H nx (memQ (.tup [.ref idM 0 W.length capM 1, .val (.int .i64 0)]) H nx) := by
  have hc := elong_calls h hk hn hcols
  rw [hl] at hc
  have hb := fun nx => hM.borrow (nx := nx) (capM := capM) (args := []) rfl hc
  refine PCalls.enter (n := 7) (rs := [.tmp 2, .tmp 3]) (tb := []) Try.func54 rfl rfl rfl (by kernel_rfl) (by kernel_rfl) (by simp) fun c hc ht => ?_
  simp -implicitDefEqProofs (disch := omega) only [go_sem, ht]
  apply pCall_mem
  exact hb _
  rintro _ H6 n6 ⟨rfl, rfl, rfl⟩ hn6
  simp -implicitDefEqProofs (disch := omega) only [go_sem, ht]
  refine end_plain (by simp -implicitDefEqProofs (disch := omega) only [go_sem, ht] <;> rfl) ?_
  simp only [tupP_2]
  exact ⟨rfl, by simp -implicitDefEqProofs (disch := omega) only [go_sem, ht], by simp -implicitDefEqProofs (disch := omega) only [go_sem, ht]⟩
theorem Mx.echL (h : Mx m B) (hc : ∀ l ∈ m, l.length = cols) (hcols : cols ≤ 1000) (hn : m.length ≤ 10000) :
    PCalls Try.prog 53 [SM m, .val (.int .i64 cols)] (fun _ => none) 0 (omQ (fun p => .tup [p, .sl (echW (m.map vals) cols).2.length ((echW (m.map vals) cols).2.map Ref.I)]) (echT (m.map vals) cols) cols) := by
  obtain ⟨h1, h2⟩ := h.ez hc
  exact echelon_L (fun l hl => ⟨h.rn hl, hc l hl⟩) hcols hn h1 h2 h.hB
theorem mech_L (h : Mx m B) (hw' : wrongM m cols = false) (hl : longZ (echT (m.map vals) cols) = false) : PCalls Try.prog 17 [SM m, .val (.int .i64 cols)] (fun _ => none) 0 (omQ (fun p => .tup [p, .val (.int .i64 0)]) (echT (m.map vals) cols) cols) := by
  have hw := wrong_calls (m := m) (cn := cols)
  obtain ⟨n, e, hn, hml, hlc⟩ := wrongM_false hw'
  obtain rfl : cols = n := by omega
  rw [hw'] at hw
  have he := h.echL hlc (by omega) (by omega)
  have hr := h.rr hlc
  have hTl : (echT (m.map vals) cols).length ≤ 1000000 := by have := hr.len; have := (h.ez hlc).1 cols; obtain ⟨O, κ, hI, _⟩ := this.st; have := hI.tle; omega
  have hrow : ∀ z ∈ echT (m.map vals) cols, z.length = cols ∧ ∀ x ∈ z, Z (B + 1) x := fun z hz => by
    obtain ⟨i, hi, rfl⟩ := mem_getD (d := []) hz
    exact hr.row i hi
  have hk := hr.hk
  generalize echT (m.map vals) cols = T at *
  have hsh : ∀ k (P : List Nat), shiftL k (P.map Ref.I) = P.map Ref.I := fun k P => shiftL_flat _ _ (Ref.flatL_I _)
  refine PCalls.enter (n := 21) (rs := [.tmp 4, .tmp 5]) (tb := []) Try.func17 rfl rfl rfl (by kernel_rfl) (by kernel_rfl) (by simp) fun c hc ht => ?_
  simp -implicitDefEqProofs (disch := omega) only [go_sem, ht]
  (refine pCall_vw (by refine ⟨⟨?_, ?_⟩, ?_, ?_⟩; rotate_left 2; (first | (right; rintro r rfl; rfl) | left); all_goals ((try simp -implicitDefEqProofs (disch := omega) only [go_sem, ht]) <;> rfl)) (hw) ?_; rintro _ nx - rfl hnx; simp -implicitDefEqProofs (disch := omega) only [go_sem, ht])
  refine pCall_om (fun k p => by simp [Ytfjdfnlkobeehaa.shift, shiftL, hsh]) (by simp -implicitDefEqProofs (disch := omega) only [go_sem, ht] <;> rfl) (by simp -implicitDefEqProofs (disch := omega) only [go_sem, ht]) (by simp -implicitDefEqProofs (disch := omega) only [go_sem, ht]) he ?_
  rintro idM capM H1 n1 hM hfr hn1
  simp -implicitDefEqProofs (disch := omega) only [go_sem, ht]
  apply pCall_mem
  exact told_L (H := H1) (capM := capM) hM hrow hk hTl (by omega) hl
  rintro _ H6 n6 ⟨rfl, rfl, rfl⟩ hn6
  simp -implicitDefEqProofs (disch := omega) only [go_sem, ht]
  refine end_plain (by simp -implicitDefEqProofs (disch := omega) only [go_sem, ht] <;> rfl) ?_
  simp only [tupP_2]
  refine ⟨idM, capM, rfl, ?_⟩
  obtain ⟨g0, a1, a2, a3, a4, a5, a6, hT⟩ := hM
  refine ⟨g0, a1, a2, a3, a4, a5, a6, ?_⟩
  obtain ⟨g1, g2, g3, g4, g5⟩ := hT
  refine ⟨g1, g2, fun k hk => ?_, g4, ⟨Nat.zero_le _, g5.2⟩⟩
  obtain ⟨q1, q2, q3⟩ := g3 k hk
  exact ⟨Nat.zero_le _, q2, q3⟩
end
end Go.Proofs.Ytfjdfnlkobeehaa
end
