/- Part 47 of the way to the statement: the walk and what it needs. -/
import Derived.Test.YtfjdfnlkobeehaaGreatKSoF33
import Derived.Test.YtfjdfnlkobeehaaGreatKSoF36
import Derived.Test.YtfjdfnlkobeehaaGreatKSoF39
import Derived.Test.YtfjdfnlkobeehaaGreatKSoF41
import Derived.Test.YtfjdfnlkobeehaaGreatKSoF46
section
set_option maxRecDepth 100000
set_option linter.unusedVariables false
set_option linter.unusedSimpArgs false
namespace Go.Proofs.YtfjdfnlkobeehaaGreat.Ref
open YtfjdfnlkobeehaaGreat (SWc SW WX WC WV vals vals_len SM lenM Rn vc vc_lt canZ canZ_len combZ combZ_len combZ_take primZ upZ upZ_len SW_def SM_def cZ get_SM' getD_take getD_mem insR insB zeroB getD_vals wrongM
  EZ echW echT part part_len part_get part_set part_same findP findP_eq findP_end swapL swapL_len swapL_get swp swp_bd clearAll clearAll_len clearAll_get stepE clearZ up_vc0)

theorem getD_map {f : List Int → List Int} {W : List (List Int)} {i : Nat} (h : i < W.length) : (W.map f).getD i [] = f (W.getD i []) := by simp [h]
theorem upZ_z {z : List Int} {k : Nat} (h : ∀ x ∈ z, Z k x) : ∀ x ∈ upZ z, Z k x := fun x hx => by
  rcases YtfjdfnlkobeehaaGreat.upZ_cases z with e | e
  · rw [e] at hx; exact h x hx
  · rw [e] at hx
    obtain ⟨y, hy, rfl⟩ := List.mem_map.1 hx
    exact (h y hy).neg
section
variable {R : List (List Int)} {cols K B : Nat}
set_option maxHeartbeats 16000000 in
theorem reduce_z (hm : ∀ z ∈ R, (∀ x ∈ z, Z K x) ∧ z.length = cols) (hK : K ≤ 100000) (hcols : cols ≤ 1000) (hlen : R.length ≤ 10000) (hEZ : ∀ c, EZ 4294967296 B R.length cols (echW R c)) (hsh : ∀ c k, k < R.length → ∀ x ∈ (echW R c).1.getD k [], Z (B + 1) x) (hB : 2 * (B + 1) + 1 ≤ 100000) :
    PT Tryz.prog 47 [SNM R, .val (.int .i64 cols)] (isV (.tup [SNM (echT R cols), .sl (echW R cols).2.length ((echW R cols).2.map I)])) := by
  have hcp := copied_z (W := R) (fun z hz => by rw [(hm z hz).2]; omega) (by omega)
  have hRl : (R.map SN).length = R.length := by simp
  have hUl : (R.map canZ).length = R.length := by simp
  refine PCalls.enter (n := 129) (rs := [.tmp 4, .tmp 5]) (tb := [(22, [(0, []), (1, []), (2, []), (3, []), (4, []), (5, []), (6, []), (7, []), (8, []), (9, []), (10, []), (11, []), (12, []), (13, []), (14, []), (15, []), (16, []), (17, []), (18, []), (19, []), (20, []), (21, []), (22, []), (23, []), (24, [0, 1]), (25, []), (26, [])]), (1000022, [(0, []), (0, []), (0, []), (0, []), (12, []), (28, []), (0, []), (124, []), (252, []), (0, []), (0, []), (1536, []), (3584, []), (0, []), (0, []), (24576, []), (57344, []), (0, []), (253952, []), (516096, []), (0, []), (0, []), (3145728, []), (7340032, []), (16777212, []), (33554431, []), (67108863, [])])]) Tryz.func47 rfl rfl rfl (by kernel_rfl) (by kernel_rfl) (by simp) fun c hc ht => ?_
  simp -implicitDefEqProofs (disch := omega) only [go_sem, ht]
  (refine pCall_ownF (mk := fun p => p) (YtfjdfnlkobeehaaGreat.mk_id) (by simp -implicitDefEqProofs (disch := omega) only [go_sem, ht] <;> rfl) (by simp -implicitDefEqProofs (disch := omega) only [go_sem, ht]) (by simp -implicitDefEqProofs (disch := omega) only [go_sem, ht]) (SNM_flat _) (hcp) ?_; intro id1 cap1 rest1 nx1 hid1 hnx1 hcap1; simp only [put_nx, withH_nx, begP_nx, List.length_map] at hid1 hcap1; simp -implicitDefEqProofs (disch := omega) only [go_sem, ht])
  refine LW.loopW hc ht (by kernel_rfl) (fun t => t.sl 1 = .val (.int .i64 cols) ∧ t.sl 6 = .ref id1 0 R.length cap1 1 ∧ id1 < t.nx ∧ ∃ i : Nat, i ≤ R.length ∧ t.sl 7 = .val (.int .i64 i) ∧ t.H id1 = some (((part (R.map canZ) R i).map SN) ++ rest1.map .val))
    (fun t => match t.sl 7 with | .val (.int _ k) => R.length - k.toNat | _ => 0) ?_ ?_
  · simp -implicitDefEqProofs (disch := omega) only [go_sem, ht]
    exact ⟨by omega, 0, Nat.zero_le _, rfl, by simp [part]⟩
  · rintro t ⟨h1, h6, hid, i, hi, h7, hH⟩
    by_cases hil : i = R.length
    · subst hil
      have hpt : part (R.map canZ) R R.length = (echW R 0).1.map upZ := by
        unfold part
        rw [List.take_of_length_le (by omega), List.drop_of_length_le (by omega), List.append_nil]
        show R.map canZ = (R.map primZ).map upZ
        rw [List.map_map]; rfl
      rw [hpt] at hH
      simp -implicitDefEqProofs (disch := omega) only [go_sem, ht, h1, h6, h7]
      refine LW.ghost (Gh.nilW 8 1 (by simp -implicitDefEqProofs (disch := omega) only [go_sem, ht])) ?_
      refine LW.loopW hc ht (by kernel_rfl) (fun t => t.sl 1 = .val (.int .i64 cols) ∧ t.sl 6 = .ref id1 0 R.length cap1 1 ∧ id1 < t.nx ∧ ∃ c : Nat, c ≤ cols ∧ t.sl 9 = .val (.int .i64 c) ∧ t.H id1 = some ((((echW R c).1.map upZ).map SN) ++ rest1.map .val) ∧
          ∃ (ip cp : Nat) (rp : List Value), t.sl 8 = .ref ip 0 (echW R c).2.length cp 1 ∧ t.H ip = some ((echW R c).2.map I ++ rp.map .val) ∧ (echW R c).2.length + rp.length = cp ∧ ip < t.nx ∧ ip ≠ id1)
        (fun t => match t.sl 9 with | .val (.int _ k) => cols - k.toNat | _ => 0) ?_ ?_
      · simp -implicitDefEqProofs (disch := omega) only [go_sem, ht, h1, h6, h7]
        exact ⟨0, Nat.zero_le _, rfl, hH, _, 0, [], rfl, upd_self _ _ _, rfl, by omega, by omega⟩
      · clear h1 h6 hid h7 hH hi hpt
        rintro t ⟨h1, h6, hid, c, hcc, h9, hH, ip, cp, rp, h8, hHp, hcp, hip, hne⟩
        by_cases hcl : c = cols
        · subst hcl
          have E := hEZ c
          have hlW := E.len
          have htle : (echW R c).2.length ≤ R.length := by
            obtain ⟨O, κ, hE, _⟩ := E.st
            exact hE.tle
          unfold echT
          generalize (echW R c).1 = W at *
          generalize (echW R c).2 = Pv at *
          have htk : List.take Pv.length ((W.map upZ).map SN ++ rest1.map .val) = ((W.take Pv.length).map upZ).map SN := by
            rw [List.take_append_of_le_length (by simp; omega), ← List.map_take, ← List.map_take]
          have hfl := SNM_flat ((W.take Pv.length).map upZ)
          have hfl2 := fun d => YtfjdfnlkobeehaaGreat.frzL_flat (fun _ => true) t.H d hfl
          have hm2 : ((W.take Pv.length).map upZ).length = Pv.length := by simp; omega
          have hif : (if cap1 = 0 then 0 else 0) = 0 := by simp
          have hWl : ((W.map upZ).map SN).length = R.length := by simp; exact hlW
          have hle : Pv.length ≤ W.length + rest1.length := by omega
          have hPl : (Pv.map I).length = Pv.length := by simp
          have hpt2 := take_Il Pv (rp.map .val)
          have hfp := fun d => frzL_I (fun _ => true) t.H d Pv
          have hle2 : Pv.length ≤ Pv.length + rp.length := by omega
          have hpc : Pv.length ≤ cap1 := by omega
          generalize (W.take Pv.length).map upZ = T at *
          simp -implicitDefEqProofs (disch := omega) only [go_sem, ht, h1, h6, h9, h8, hif, hpc]
          (refine end_treeM 2 ?_; simp -implicitDefEqProofs (disch := omega) only [go_sem, ht, hH, hHp, htk, hfl2, hfl, hle, if_pos, hm2, hpt2, hfp, hle2, hPl, flatL_I, hRl, hWl])
          done
        · have E := hEZ c
          have hshc := hsh c
          have hlW := E.len
          have hrow := E.row
          have htle : (echW R c).2.length ≤ R.length := by
            obtain ⟨O, κ, hE, _⟩ := E.st
            exact hE.tle
          have hst : echW R (c + 1) = stepE c (echW R c) := rfl
          obtain ⟨W, eW⟩ : ∃ W, (echW R c).1 = W := ⟨_, rfl⟩
          obtain ⟨Pv, eP⟩ : ∃ Pv, (echW R c).2 = Pv := ⟨_, rfl⟩
          rw [eW] at hH hlW hrow hshc
          rw [eP] at h8 hHp hcp htle
          have hst2 : echW R (c + 1) = if findP W c Pv.length < W.length then (clearAll (swapL W Pv.length (findP W c Pv.length)) Pv.length c, Pv ++ [c]) else (W, Pv) := by
            rw [hst, stepE, eW, eP]
            split
            · rfl
            · rw [← eW, ← eP]
          clear hst E
          have hUW : (W.map upZ).length = R.length := by simp; exact hlW
          have hUget : ∀ k, k < R.length → (W.map upZ).getD k [] = upZ (W.getD k []) := fun k hk => getD_map (f := upZ) (by omega)
          simp -implicitDefEqProofs (disch := omega) only [go_sem, ht, h1, h6, h9, h8]
          refine LW.loopW hc ht (by kernel_rfl) (fun s => s.sl 1 = .val (.int .i64 cols) ∧ s.sl 6 = .ref id1 0 R.length cap1 1 ∧ id1 < s.nx ∧ s.sl 9 = .val (.int .i64 c) ∧ s.sl 10 = .val (.int .i64 Pv.length) ∧ s.H id1 = some (((W.map upZ).map SN) ++ rest1.map .val) ∧
              s.sl 8 = .ref ip 0 Pv.length cp 1 ∧ s.H ip = some (Pv.map I ++ rp.map .val) ∧ ip < s.nx ∧ ∃ i : Nat, i ≤ R.length ∧ Pv.length ≤ i ∧ s.sl 11 = .val (.int .i64 i) ∧ findP W c i = findP W c Pv.length)
            (fun s => match s.sl 11 with | .val (.int _ k) => R.length - k.toNat | _ => 0) ?_ ?_
          · simp -implicitDefEqProofs (disch := omega) only [go_sem, ht, h1, h6, h9, h8]
            exact ⟨hid, hH, hHp, hip, Pv.length, htle, Nat.le_refl _, rfl, rfl⟩
          · clear h1 h6 h9 h8 hid hH hHp hip
            rintro s ⟨h1, h6, hid, h9, h10, hH, h8, hHp, hip, i, hi, hri, h11, hfi⟩
            by_cases hil : i = R.length
            · subst hil
              have hend : findP W c Pv.length = W.length := by rw [← hfi]; exact findP_end (by omega)
              rw [if_neg (by omega)] at hst2
              simp -implicitDefEqProofs (disch := omega) only [go_sem, ht, h1, h6, h9, h8, h10, h11]
              exact ⟨⟨hid, c + 1, by omega, rfl, by rw [hst2]; exact hH, ip, cp, rp, by rw [hst2], by rw [hst2]; exact hHp, by rw [hst2]; exact hcp, hip, hne⟩, by omega⟩
            · have hlt : i < R.length := by omega
              obtain ⟨hzl, hzp⟩ := hrow i hlt
              have hgi := get_SNM (W := W.map upZ) (i := i) (rest1.map .val) (by omega)
              rw [hUget i hlt] at hgi
              have hul : (upZ (W.getD i [])).length = cols := by rw [upZ_len]; exact hzl
              have hat := SNc_at (zs := upZ (W.getD i [])) (i := c) (by omega)
              have hzs := upZ_z (hshc i hlt)
              have hsg := sign_z (okZ (YtfjdfnlkobeehaaGreat.vc_z hzs c) (by omega))
              have hfe := findP_eq (W := W) (c := c) (i := i) (by omega)
              by_cases hz0 : vc (W.getD i []) c = 0
              · rw [if_neg (by simpa using hz0)] at hfe
                rw [up_vc0.2 hz0, cZ_eq rfl] at hsg
                rw [up_vc0.2 hz0] at hat
                have hfi2 : findP W c (i + 1) = findP W c Pv.length := by rw [← hfe]; exact hfi
                simp -implicitDefEqProofs (disch := omega) only [go_sem, ht, h1, h6, h9, h8, h10, h11, hH, hgi, hul, hat]
                (refine pCall_vw (by refine ⟨⟨?_, ?_⟩, ?_, ?_⟩; rotate_left 2; (first | (right; rintro r rfl; rfl) | left); all_goals ((try simp -implicitDefEqProofs (disch := omega) only [h1, h6, h9, h8, h10, h11, hH, hgi, hul, hat, go_sem, ht]) <;> rfl)) (hsg) ?_; rintro _ nx - rfl hnx; simp -implicitDefEqProofs (disch := omega) only [h1, h6, h9, h8, h10, h11, hH, hgi, hul, hat, go_sem, ht])
                exact ⟨⟨by omega, hHp, by omega, i + 1, by omega, by omega, rfl, hfi2⟩, by omega⟩
              · rw [if_pos (by simpa using hz0)] at hfe
                have hfi3 : findP W c Pv.length = i := by rw [← hfi]; exact hfe
                rw [hfi3, if_pos (by omega)] at hst2
                have hu0 : vc (upZ (W.getD i [])) c ≠ 0 := fun e => hz0 (up_vc0.1 e)
                have hs0 : cZ (vc (upZ (W.getD i [])) c) 0 ≠ 0 := fun e => hu0 (YtfjdfnlkobeehaaGreat.cZ_zero.1 e)
                have hrlt : Pv.length < R.length := by omega
                have hir : i ≠ R.length := by omega
                have hgr := get_SNM (W := W.map upZ) (i := Pv.length) (rest1.map .val) (by omega)
                rw [hUget _ hrlt] at hgr
                have hur : (upZ (W.getD Pv.length [])).length = cols := by rw [upZ_len]; exact (hrow _ hrlt).1
                have hset1 := set_SNM (W := W.map upZ) (i := i) (z := upZ (W.getD Pv.length [])) (n := cols) (rest1.map .val) (by omega) hur.symm
                have hset2 := set_SNM (W := (W.map upZ).set i (upZ (W.getD Pv.length []))) (i := Pv.length) (z := upZ (W.getD i [])) (n := cols) (rest1.map .val) (by simp; omega) hul.symm
                have hsw : ((W.map upZ).set i (upZ (W.getD Pv.length []))).set Pv.length (upZ (W.getD i [])) = (swapL W Pv.length i).map upZ := by
                  unfold swapL
                  rw [List.map_set, List.map_set]
                  by_cases hpi : Pv.length = i
                  · rw [hpi]
                  · exact List.set_comm _ _ (by omega)
                rw [hsw] at hset2
                generalize cZ (vc (upZ (W.getD i [])) c) 0 = sx at *
                simp -implicitDefEqProofs (disch := omega) only [go_sem, ht, h1, h6, h9, h8, h10, h11, hH, hgi, hul, hat]
                (refine pCall_vw (by refine ⟨⟨?_, ?_⟩, ?_, ?_⟩; rotate_left 2; (first | (right; rintro r rfl; rfl) | left); all_goals ((try simp -implicitDefEqProofs (disch := omega) only [h1, h6, h9, h8, h10, h11, hH, hgi, hul, hat, hgr, hur, hset1, hset2, hir, go_sem, ht]) <;> rfl)) (hsg) ?_; rintro _ nx - rfl hnx; simp -implicitDefEqProofs (disch := omega) only [h1, h6, h9, h8, h10, h11, hH, hgi, hul, hat, hgr, hur, hset1, hset2, hir, go_sem, ht])
                refine ⟨by simp; omega, ?_⟩
                clear hgi hgr hat hset1 hset2 hsg hul hur hzs hu0 hs0
                have hW1l : (swapL W Pv.length i).length = R.length := by rw [swapL_len]; exact hlW
                have hVl : (clearAll (swapL W Pv.length i) Pv.length c).length = R.length := by rw [clearAll_len]; exact hW1l
                have hVr : (clearAll (swapL W Pv.length i) Pv.length c).getD Pv.length [] = (swapL W Pv.length i).getD Pv.length [] := by rw [clearAll_get (by omega), if_pos rfl]
                have hVk : ∀ k, k < R.length → k ≠ Pv.length → (clearAll (swapL W Pv.length i) Pv.length c).getD k [] = clearZ ((swapL W Pv.length i).getD k []) ((swapL W Pv.length i).getD Pv.length []) c := fun k hk hkr => by rw [clearAll_get (by omega), if_neg hkr]
                have hW1 : ∀ k, k < R.length → ((swapL W Pv.length i).getD k []).length = cols ∧ ∀ x ∈ (swapL W Pv.length i).getD k [], Z (B + 1) x := fun k hk => by
                  rw [swapL_get (by omega) (by omega) (by omega)]
                  have hb := swp_bd (i := i) (t := Pv.length) hlt hrlt hk
                  exact ⟨(hrow _ hb).1, hshc _ hb⟩
                have hst3 : echW R (c + 1) = (clearAll (swapL W Pv.length i) Pv.length c, Pv ++ [c]) := hst2
                generalize clearAll (swapL W Pv.length i) Pv.length c = V at *
                generalize swapL W Pv.length i = W1 at *
                refine LW.loopW hc ht (by kernel_rfl) (fun u => u.sl 1 = .val (.int .i64 cols) ∧ u.sl 6 = .ref id1 0 R.length cap1 1 ∧ id1 < u.nx ∧ u.sl 9 = .val (.int .i64 c) ∧ u.sl 10 = .val (.int .i64 Pv.length) ∧
                    u.sl 8 = .ref ip 0 Pv.length cp 1 ∧ u.H ip = some (Pv.map I ++ rp.map .val) ∧ ip < u.nx ∧ ∃ k : Nat, k ≤ R.length ∧ u.sl 13 = .val (.int .i64 k) ∧ u.H id1 = some ((((part V W1 k).map upZ).map SN) ++ rest1.map .val))
                  (fun u => match u.sl 13 with | .val (.int _ k) => R.length - k.toNat | _ => 0) ?_ ?_
                · simp -implicitDefEqProofs (disch := omega) only [go_sem, ht, h1, h6, h9, h8, h10, h11, hHp, hne]
                  exact ⟨by omega, by omega, 0, Nat.zero_le _, rfl, by simp [part]⟩
                · clear h1 h6 h9 h8 h10 h11 hid hH hHp hip
                  rintro u ⟨h1, h6, hid, h9, h10, h8, hHp, hip, k, hk, h13, hH⟩
                  by_cases hkl : k = R.length
                  · have hpt : part V W1 k = V := by
                      unfold part
                      rw [List.take_of_length_le (by omega), List.drop_of_length_le (by omega), List.append_nil]
                    rw [hpt] at hH
                    subst hkl
                    simp -implicitDefEqProofs (disch := omega) only [go_sem, ht, h1, h6, h9, h8, h10, h13]
                    have hpl : (Pv.map I).length = Pv.length := by simp
                    (refine append_ownX (by refine ⟨?_, ?_, ?_, ?_, ?_, ?_, ?_, ?_⟩ <;> (simp -implicitDefEqProofs (disch := omega) only [srcP_ref, srcP_sl, srcP_nil, Option.isSome_some, hHp, go_sem, ht] <;> rfl)) (by simp <;> omega) (by first | assumption | (simp <;> omega)) (by first | rfl | simp) (by first | omega | (simp <;> omega)) ?_; intro id2 cap2 rest2 H2 nx2 hH2 hcap2 hid2 hnx2 hfr2 hfs2; simp only [put_nx, withH_nx, put_H, withH_H] at hid2 hnx2 hfr2 hfs2; (try simp only [app_U, ← List.map_append] at hH2))
                    have hH2' : H2 id2 = some ((Pv ++ [c]).map I ++ rest2.map .val) := by rw [← app_I]; exact hH2
                    have hHw : H2 id1 = some ((V.map upZ).map SN ++ rest1.map .val) := by rw [hfr2 _ (by omega) (by omega)]; simp -implicitDefEqProofs (disch := omega) only [go_sem, ht, hH]
                    simp -implicitDefEqProofs (disch := omega) only [go_sem, ht, h1, h6, h9, h8, h10, h13]
                    exact ⟨⟨by omega, c + 1, by omega, rfl, by rw [hst3]; exact hHw, id2, cap2, rest2, by rw [hst3]; simp, by rw [hst3]; exact hH2', by rw [hst3]; simp; omega, by omega, by omega⟩, by omega⟩
                  · have hklt : k < R.length := by omega
                    have hXl := part_len (V := V) (W := W1) (k := k) (by omega) (by omega)
                    by_cases hkr : k = Pv.length
                    · have hps := part_same (V := V) (W := W1) (k := k) (by omega) (by omega) (by rw [hkr]; exact hVr)
                      rw [hps] at hH
                      subst hkr
                      simp -implicitDefEqProofs (disch := omega) only [go_sem, ht, h1, h6, h9, h8, h10, h13]
                      exact ⟨⟨hid, hHp, hip, Pv.length + 1, by omega, rfl, hH⟩, by omega⟩
                    · obtain ⟨hl1, hz1⟩ := hW1 k hklt
                      obtain ⟨hl2, hz2⟩ := hW1 Pv.length hrlt
                      have hXk : (part V W1 k).getD k [] = W1.getD k [] := by rw [part_get (by omega) (by omega), if_neg (by omega)]
                      have hXr : (part V W1 k).getD Pv.length [] = W1.getD Pv.length [] := by
                        rw [part_get (by omega) (by omega)]
                        split
                        · exact hVr
                        · rfl
                      have hgk := get_SNM (W := (part V W1 k).map upZ) (i := k) (rest1.map .val) (by simp; omega)
                      have hgr := get_SNM (W := (part V W1 k).map upZ) (i := Pv.length) (rest1.map .val) (by simp; omega)
                      rw [getD_map (f := upZ) (by omega), hXk] at hgk
                      rw [getD_map (f := upZ) (by omega), hXr] at hgr
                      have hlk : (upZ (W1.getD k [])).length = cols := by rw [upZ_len]; exact hl1
                      have hlr : (upZ (W1.getD Pv.length [])).length = cols := by rw [upZ_len]; exact hl2
                      have hat := SNc_at (zs := upZ (W1.getD k [])) (i := c) (by omega)
                      have hatr := SNc_at (zs := upZ (W1.getD Pv.length [])) (i := c) (by omega)
                      have zk := YtfjdfnlkobeehaaGreat.vc_z (upZ_z hz1) c
                      have zr := YtfjdfnlkobeehaaGreat.vc_z (upZ_z hz2) c
                      have hsg := sign_z (okZ zk (by omega))
                      by_cases hz0 : vc (W1.getD k []) c = 0
                      · have hps := part_same (V := V) (W := W1) (k := k) (by omega) (by omega) (by rw [hVk k hklt hkr, clearZ, if_pos hz0])
                        rw [up_vc0.2 hz0, cZ_eq rfl] at hsg
                        rw [up_vc0.2 hz0] at hat
                        have hH' := hH
                        rw [hps] at hH'
                        generalize upZ (W1.getD k []) = wk at *
                        simp -implicitDefEqProofs (disch := omega) only [go_sem, ht, h1, h6, h9, h8, h10, h13, hH, hgk, hlk, hat]
                        (refine pCall_vw (by refine ⟨⟨?_, ?_⟩, ?_, ?_⟩; rotate_left 2; (first | (right; rintro r rfl; rfl) | left); all_goals ((try simp -implicitDefEqProofs (disch := omega) only [h1, h6, h9, h8, h10, h13, hH, hgk, hlk, hat, go_sem, ht]) <;> rfl)) (hsg) ?_; rintro _ nx - rfl hnx; simp -implicitDefEqProofs (disch := omega) only [h1, h6, h9, h8, h10, h13, hH, hgk, hlk, hat, go_sem, ht])
                        refine ⟨⟨by omega, hHp, by omega, k + 1, by omega, rfl, ?_⟩, by omega⟩
                        rw [← hps]
                      · have hu0 : vc (upZ (W1.getD k [])) c ≠ 0 := fun e => hz0 (up_vc0.1 e)
                        have hs0 : cZ (vc (upZ (W1.getD k [])) c) 0 ≠ 0 := fun e => hu0 (YtfjdfnlkobeehaaGreat.cZ_zero.1 e)
                        have hj := joined_z zr zk (upZ_z hz1) (upZ_z hz2) (by omega) hB (by omega)
                        have hjc : canZ (combZ (vc (upZ (W1.getD Pv.length [])) c) (vc (upZ (W1.getD k [])) c) (upZ (W1.getD k [])) (upZ (W1.getD Pv.length []))) = upZ (V.getD k []) := by
                          rw [YtfjdfnlkobeehaaGreat.join_up hz0, hVk k hklt hkr]
                        rw [hjc] at hj
                        have hlv : (upZ (V.getD k [])).length = cols := by rw [upZ_len, hVk k hklt hkr, YtfjdfnlkobeehaaGreat.clearZ_len (by omega)]; exact hl1
                        have hps := part_set (V := V) (W := W1) (k := k) (by omega) (by omega)
                        have hset := set_SNM (W := (part V W1 k).map upZ) (i := k) (z := upZ (V.getD k [])) (n := cols) (rest1.map .val) (by simp; omega) hlv.symm
                        rw [← List.map_set, hps] at hset
                        rw [SN_def, SN_def, SN_def, hlk, hlr, hlv] at hj
                        clear zk zr hz0 hjc
                        generalize upZ (V.getD k []) = vk at *
                        generalize vc (upZ (W1.getD k [])) c = xk at *
                        generalize vc (upZ (W1.getD Pv.length [])) c = xr at *
                        generalize upZ (W1.getD k []) = wk at *
                        generalize upZ (W1.getD Pv.length []) = wr at *
                        generalize cZ xk 0 = sx at *
                        simp -implicitDefEqProofs (disch := omega) only [go_sem, ht, h1, h6, h9, h8, h10, h13, hH, hgk, hlk, hat]
                        ((refine pCall_vw (by refine ⟨⟨?_, ?_⟩, ?_, ?_⟩; rotate_left 2; (first | (right; rintro r rfl; rfl) | left); all_goals ((try simp -implicitDefEqProofs (disch := omega) only [h1, h6, h9, h8, h10, h13, hH, hgk, hgr, hlk, hlr, hat, hatr, hset, hs0, go_sem, ht]) <;> rfl)) (hsg) ?_; rintro _ nx_1 - rfl hnx_1; simp -implicitDefEqProofs (disch := omega) only [h1, h6, h9, h8, h10, h13, hH, hgk, hgr, hlk, hlr, hat, hatr, hset, hs0, go_sem, ht]); (refine pCall_vw (by refine ⟨⟨?_, ?_⟩, ?_, ?_⟩; rotate_left 2; (first | (right; rintro r rfl; rfl) | left); all_goals ((try simp -implicitDefEqProofs (disch := omega) only [h1, h6, h9, h8, h10, h13, hH, hgk, hgr, hlk, hlr, hat, hatr, hset, hs0, go_sem, ht]) <;> rfl)) (hj) ?_; rintro _ nx_2 - rfl hnx_2; simp -implicitDefEqProofs (disch := omega) only [h1, h6, h9, h8, h10, h13, hH, hgk, hgr, hlk, hlr, hat, hatr, hset, hs0, go_sem, ht]))
                        exact ⟨⟨by omega, hHp, by omega, k + 1, by omega, rfl, rfl⟩, by omega⟩
    · have hlt : i < R.length := by omega
      obtain ⟨hzz, hzl⟩ := hm _ (getD_mem (d := []) hlt)
      have hXl := part_len (V := R.map canZ) (W := R) (k := i) (by omega) (by omega)
      have hgi := get_SNM (W := part (R.map canZ) R i) (i := i) (rest1.map .val) (by omega)
      have hXi : (part (R.map canZ) R i).getD i [] = R.getD i [] := by rw [part_get (by omega) (by omega), if_neg (by omega)]
      rw [hXi] at hgi
      have hcn := canon_z hzz hK (by omega)
      have hcz : (canZ (R.getD i [])).length = cols := by rw [canZ_len]; exact hzl
      have hset := set_SNM (W := part (R.map canZ) R i) (i := i) (z := canZ (R.getD i [])) (n := cols) (rest1.map .val) (by omega) hcz.symm
      rw [← getD_map (f := canZ) hlt, part_set (by omega) (by omega), getD_map (f := canZ) hlt] at hset
      generalize canZ (R.getD i []) = r at *
      generalize R.getD i [] = z at *
      simp -implicitDefEqProofs (disch := omega) only [go_sem, ht, h1, h6, h7, hH, hgi]
      (refine pCall_vw (by refine ⟨⟨?_, ?_⟩, ?_, ?_⟩; rotate_left 2; (first | (right; rintro r rfl; rfl) | left); all_goals ((try simp -implicitDefEqProofs (disch := omega) only [h1, h6, h7, hH, hgi, hcz, hset, hzl, go_sem, ht]) <;> rfl)) (hcn) ?_; rintro _ nx - rfl hnx; simp -implicitDefEqProofs (disch := omega) only [h1, h6, h7, hH, hgi, hcz, hset, hzl, go_sem, ht])
      exact ⟨⟨by omega, i + 1, by omega, rfl, rfl⟩, by omega⟩
end
end Go.Proofs.YtfjdfnlkobeehaaGreat.Ref
end

section
set_option maxRecDepth 100000
set_option linter.unusedVariables false
set_option linter.unusedSimpArgs false
namespace Go.Proofs.YtfjdfnlkobeehaaGreat.Ref
open YtfjdfnlkobeehaaGreat (SWc SW WX WC WV vals vals_len SM lenM Rn vc vc_lt canZ canZ_len combZ combZ_len combZ_take primZ upZ upZ_len SW_def SM_def cZ get_SM' getD_take getD_mem insR insB zeroB getD_vals wrongM echW echT Mx)

section
variable {m : List (List (Bool × List Nat))}
theorem rwrong_calls {cn : Int} (hml : m.length ≤ 8796093022208) : PT Tryz.prog 23 [SM m, .val (.int .i64 cn)] (isV (.val (.bool (wrongM m cn)))) := by
  by_cases h1 : cn < 0
  · rw [show wrongM m cn = true from decide_eq_true (.inl h1)]
    refine PCalls.enter (n := 30) (rs := [.tmp 4]) (tb := []) Tryz.func23 rfl rfl rfl (by kernel_rfl) (by kernel_rfl) (by simp) fun c hc ht => ?_
    simp -implicitDefEqProofs (disch := omega) only [go_sem, ht]
    (refine end_treeW 0 ?_; simp -implicitDefEqProofs (disch := omega) only [go_sem, ht])
  by_cases h2 : 32 < cn
  · rw [show wrongM m cn = true from decide_eq_true (.inr (.inl h2))]
    refine PCalls.enter (n := 30) (rs := [.tmp 4]) (tb := []) Tryz.func23 rfl rfl rfl (by kernel_rfl) (by kernel_rfl) (by simp) fun c hc ht => ?_
    simp -implicitDefEqProofs (disch := omega) only [go_sem, ht]
    (refine end_treeW 0 ?_; simp -implicitDefEqProofs (disch := omega) only [go_sem, ht])
  by_cases h3 : 64 < m.length
  · rw [show wrongM m cn = true from decide_eq_true (.inr (.inr (.inl h3)))]
    refine PCalls.enter (n := 30) (rs := [.tmp 4]) (tb := []) Tryz.func23 rfl rfl rfl (by kernel_rfl) (by kernel_rfl) (by simp) fun c hc ht => ?_
    simp -implicitDefEqProofs (disch := omega) only [go_sem, ht]
    (refine end_treeW 0 ?_; simp -implicitDefEqProofs (disch := omega) only [go_sem, ht])
  refine PCalls.enter (n := 30) (rs := [.tmp 4]) (tb := []) Tryz.func23 rfl rfl rfl (by kernel_rfl) (by kernel_rfl) (by simp) fun c hc ht => ?_
  simp -implicitDefEqProofs (disch := omega) only [go_sem, ht]
  refine LW.loopW hc ht (by kernel_rfl) (fun t => t.sl 0 = .sl m.length (m.map SW) ∧ t.sl 1 = .val (.int .i64 cn) ∧ ∃ i : Nat, i ≤ m.length ∧ t.sl 5 = .val (.int .i64 i) ∧ ∀ l ∈ m.take i, (l.length   : Int) = cn)
    (fun t => match t.sl 5 with | .val (.int _ k) => m.length - k.toNat | _ => 0) ?_ ?_
  · simp -implicitDefEqProofs (disch := omega) only [go_sem, ht]
    exact ⟨0, Nat.zero_le _, rfl, by simp⟩
  · rintro t ⟨h0, h1', i, hi, h5, hall⟩
    by_cases hil : i = m.length
    · subst hil
      rw [List.take_length] at hall
      rw [show wrongM m cn = false from decide_eq_false (by
        rintro (h | h | h | ⟨l, hl, hne⟩)
        · exact h1 h
        · exact h2 h
        · exact h3 h
        · exact hne (hall l hl))]
      simp -implicitDefEqProofs (disch := omega) only [go_sem, ht, h0, h1', h5]
      (refine end_treeW 0 ?_; simp -implicitDefEqProofs (disch := omega) only [go_sem, ht])
    · have hlt : i < m.length := by omega
      have hgi := get_SM' hlt
      have hmem := getD_mem (d := []) hlt
      have hst := getD_take (d := []) hlt
      by_cases he : ((m.getD i []).length   : Int) = cn
      · generalize m.getD i [] = l0 at *
        simp -implicitDefEqProofs (disch := omega) only [go_sem, ht, h0, h1', h5, hgi, he]
        refine ⟨⟨i + 1, by omega, rfl, fun l hl => ?_⟩, by omega⟩
        rw [hst] at hl
        rcases List.mem_append.1 hl with hl | hl
        · exact hall l hl
        · have : l = l0 := by simpa using hl
          rw [this]; exact he
      · rw [show wrongM m cn = true from decide_eq_true (.inr (.inr (.inr ⟨_, hmem, he⟩)))]
        generalize m.getD i [] = l0 at *
        simp -implicitDefEqProofs (disch := omega) only [go_sem, ht, h0, h1', h5, hgi, he]
        (refine end_treeW 0 ?_; simp -implicitDefEqProofs (disch := omega) only [go_sem, ht])
theorem read_z {k : Nat} (hm : ∀ l ∈ m, Rn l k ∧ l.length ≤ 1000000) (hml : m.length ≤ 1000000) : PT Tryz.prog 26 [SM m] (isV (SNM (m.map vals))) := by
  have hvl : (m.map vals).length = m.length := by simp
  refine PCalls.enter (n := 20) (rs := [.tmp 2]) (tb := []) Tryz.func26 rfl rfl rfl (by kernel_rfl) (by kernel_rfl) (by simp) fun c hc ht => ?_
  simp -implicitDefEqProofs (disch := omega) only [go_sem, ht]
  refine LW.ghost (Gh.nilW 3 1 (by simp -implicitDefEqProofs (disch := omega) only [go_sem, ht])) ?_
  refine LW.loopW hc ht (by kernel_rfl) (fun t => t.sl 0 = .sl m.length (m.map SW) ∧ ∃ i : Nat, i ≤ m.length ∧ t.sl 4 = .val (.int .i64 i) ∧ ∃ (id cap : Nat) (rest : List Value), t.sl 3 = .ref id 0 i cap 1 ∧ t.H id = some (((m.map vals).take i).map SN ++ rest.map .val) ∧ i + rest.length = cap ∧ id < t.nx)
    (fun t => match t.sl 4 with | .val (.int _ k) => m.length - k.toNat | _ => 0) ?_ ?_
  · simp -implicitDefEqProofs (disch := omega) only [go_sem, ht]
    exact ⟨0, Nat.zero_le _, rfl, _, 0, [], rfl, upd_self _ _ _, rfl, by omega⟩
  · rintro t ⟨h0, i, hi, h4, id, cap, rest, h3, hH, hcap, hid⟩
    by_cases hil : i = m.length
    · subst hil
      rw [List.take_of_length_le (by omega)] at hH
      have hml2 : ((m.map vals).map SN).length = m.length := by simp
      have htk : List.take m.length ((m.map vals).map SN ++ rest.map .val) = (m.map vals).map SN := by
        rw [List.take_append_of_le_length (by omega), List.take_of_length_le (by omega)]
      have hle : m.length ≤ ((m.map vals).map SN).length + rest.length := by omega
      have hfl := YtfjdfnlkobeehaaGreat.frzL_flat (fun _ => true) t.H 1 (SNM_flat (m.map vals))
      have hfl0 := SNM_flat (m.map vals)
      generalize m.map vals = W at *
      simp -implicitDefEqProofs (disch := omega) only [go_sem, ht, h0, h3, h4]
      (refine end_treeW 2 ?_; simp -implicitDefEqProofs (disch := omega) only [go_sem, ht, hH, htk, hfl, hfl0, hle, hvl])
      omega
    · have hlt : i < m.length := by omega
      have hgi := get_SM' hlt
      obtain ⟨hrn, hlw⟩ := hm _ (getD_mem (d := []) hlt)
      have hct := all_z hrn hlw
      have hst : ((m.map vals).take i).map SN ++ [.sl (vals (m.getD i [])).length (SNc (vals (m.getD i [])))] = ((m.map vals).take (i + 1)).map SN := by
        rw [getD_take (l := m.map vals) (d := []) (by omega), List.map_append, getD_vals hlt]; rfl
      have hln : (((m.map vals).take i).map SN).length = i := by simp; omega
      generalize m.map vals = W at *
      generalize vals (m.getD i []) = z0 at *
      generalize m.getD i [] = l0 at *
      simp -implicitDefEqProofs (disch := omega) only [go_sem, ht, h0, h3, h4, hgi]
      (refine pCall_vw (by refine ⟨⟨?_, ?_⟩, ?_, ?_⟩; rotate_left 2; (first | (right; rintro r rfl; rfl) | left); all_goals ((try simp -implicitDefEqProofs (disch := omega) only [h0, h3, h4, hgi, go_sem, ht]) <;> rfl)) (hct) ?_; rintro _ nx - rfl hnx; simp -implicitDefEqProofs (disch := omega) only [h0, h3, h4, hgi, go_sem, ht])
      have hne : id ≠ nx := by omega
      (refine append_ownX (by refine ⟨?_, ?_, ?_, ?_, ?_, ?_, ?_, ?_⟩ <;> (simp -implicitDefEqProofs (disch := omega) only [srcP_ref, srcP_sl, srcP_nil, Option.isSome_some, hH, go_sem, ht] <;> rfl)) (by first | omega | (simp <;> omega)) (by first | assumption | (simp <;> omega)) (by first | rfl | simp) (by first | omega | (simp <;> omega)) ?_; intro id1 cap1 rest1 H1 nx1 hH1 hcap1 hid1 hnx1 hfr1 hfs1; (try simp only [put_nx, withH_nx, put_H, withH_H] at hid1 hnx1 hfr1 hfs1); (try simp only [app_U, ← List.map_append] at hH1))
      rw [hst] at hH1
      simp -implicitDefEqProofs (disch := omega) only [go_sem, ht, h0, h3, h4]
      exact ⟨⟨i + 1, by omega, rfl, id1, cap1, rest1, rfl, hH1, by omega, by omega⟩, by omega⟩
end
section
variable {m : List (List (Bool × List Nat))} {v : List (Bool × List Nat)} {B k : Nat}
theorem mread (h : Mx m B) {n : Nat} (hlc : ∀ l ∈ m, l.length = n) (hn : n ≤ 32) (hml : m.length ≤ 64) : PT Tryz.prog 26 [SM m] (isV (SNM (m.map vals))) :=
  read_z (fun l hl => ⟨h.rn hl, by rw [hlc l hl]; omega⟩) (by omega)

end
end Go.Proofs.YtfjdfnlkobeehaaGreat.Ref
end

section
set_option maxRecDepth 100000
set_option linter.unusedVariables false
set_option linter.unusedSimpArgs false
namespace Go.Proofs.YtfjdfnlkobeehaaGreat
theorem dtx_map {F G : List Vc → Int} {h : Vc → Vc} {c c' : Nat} (hc : ∀ v, h v c = v c') (hF : ∀ q, F (q.map h) = G q) : ∀ (l p : List Vc), dtx F c (p.map h) (l.map h) = dtx G c' p l
  | [], p => rfl
  | x :: l, p => by
    have e1 := hF (p ++ l)
    have e2 := dtx_map hc hF l (p ++ [x])
    rw [List.map_append] at e1 e2
    rw [List.map_cons, dtx, dtx, e1, hc, ← e2]; rfl
theorem dt_map (g : Nat → Nat) : ∀ (cs : List Nat) (rs : List Vc), dt cs (rs.map fun v k => v (g k)) = dt (cs.map g) rs
  | [], [] => rfl
  | [], _ :: _ => rfl
  | c :: cs, rs => by
    rw [List.map_cons, dt_cons, dt_cons]
    exact dtx_map (h := fun v k => v (g k)) (c := c) (c' := g c) (fun v => rfl) (fun q => dt_map g cs q) rs []

def minorW (W : List (List Int)) (r : Nat) : List (List Int) := (W.eraseIdx r).map List.tail
theorem vc_tail (z : List Int) (k : Nat) : vc z.tail k = vc z (k + 1) := by cases z <;> simp [vc]

def expW (W : List (List Int)) (n : Nat) : Int := dt (List.range n) (W.map vc)
theorem expW_minor {W : List (List Int)} {n r : Nat} : expW (minorW W r) n = dt ((List.range n).map (· + 1)) ((W.map vc).eraseIdx r) := by
  unfold expW minorW
  rw [← dt_map]
  congr 1
  rw [List.map_map]
  have e : (vc ∘ List.tail) = fun z k => vc z (k + 1) := by
    funext z k; exact vc_tail z k
  rw [e]
  have e2 : ∀ (l : List (List Int)) (r : Nat), (l.eraseIdx r).map (fun z k => vc z (k + 1)) = ((l.map vc).eraseIdx r).map fun v k => v (k + 1) := by
    intro l
    induction l with
    | nil => intro r; rfl
    | cons a l ih =>
      intro r
      cases r with
      | zero => simp
      | succ r => simp [ih r]
  exact e2 W r
theorem dtx_at {f : List Vc → Int} {c : Nat} {rs : List Vc} {i : Nat} (h : i < rs.length) : dtx f c (rs.take i) (rs.drop i) = rs[i] c * f (rs.eraseIdx i) - dtx f c (rs.take (i + 1)) (rs.drop (i + 1)) := by
  rw [List.drop_eq_getElem_cons h, dtx, List.take_succ_eq_append_getElem h, List.eraseIdx_eq_take_drop_succ]
theorem expW_succ {W : List (List Int)} {n : Nat} : expW W (n + 1) = dtx (dt ((List.range n).map (· + 1))) 0 [] (W.map vc) := by
  unfold expW
  rw [List.range_succ_eq_map, dt_cons]
theorem minorW_take {W : List (List Int)} {i r : Nat} (hi : i < W.length) (hr : i ≠ r) : minorW (W.take (i + 1)) r = minorW (W.take i) r ++ [(W.getD i []).tail] := by
  unfold minorW
  rw [getD_take (d := []) hi]
  have hl : (W.take i).length = i := by rw [List.length_take]; omega
  by_cases h : r < i
  · rw [List.eraseIdx_append_of_lt_length (by omega), List.map_append]; rfl
  · rw [List.eraseIdx_of_length_le (by simp; omega), List.eraseIdx_of_length_le (by omega), List.map_append]; rfl
theorem minorW_skip {W : List (List Int)} {i : Nat} (hi : i < W.length) : minorW (W.take (i + 1)) i = minorW (W.take i) i := by
  unfold minorW
  rw [getD_take (d := []) hi]
  have hl : (W.take i).length = i := by rw [List.length_take]; omega
  rw [List.eraseIdx_append_of_length_le (by omega), hl, Nat.sub_self, List.eraseIdx_of_length_le (l := W.take i) (by omega)]
  simp
end Go.Proofs.YtfjdfnlkobeehaaGreat
namespace Go.Proofs.YtfjdfnlkobeehaaGreat.Ref
open YtfjdfnlkobeehaaGreat (SWc SW WX WC WV vals vals_len SM lenM Rn vc vc_lt SW_def SM_def cZ get_SM' getD_take getD_mem getD_vals wrongM minorW minorW_take minorW_skip expW expW_minor expW_succ dtx_at dtx dt sgn)
end Go.Proofs.YtfjdfnlkobeehaaGreat.Ref
end

section
set_option maxRecDepth 100000
set_option linter.unusedVariables false
set_option linter.unusedSimpArgs false
namespace Go.Proofs.YtfjdfnlkobeehaaGreat.Ref
open YtfjdfnlkobeehaaGreat (SWc SW WX WC WV vals vals_len SM lenM Rn vc vc_lt SW_def SM_def cZ get_SM' getD_take getD_mem getD_vals wrongM swp_bd swp_swp swp_ge)

def QR (q : Rat) : List PV := [.val (.bool (decide (q.num < 0))), .sl (D q.num.natAbs).length ((D q.num.natAbs).map I), .val (.bool false), .sl (D q.den).length ((D q.den).map I)]
def QC (qs : List Rat) : List PV := qs.flatMap QR
theorem QC_cons (q : Rat) (qs : List Rat) : QC (q :: qs) = .val (.bool (decide (q.num < 0))) :: .sl (D q.num.natAbs).length ((D q.num.natAbs).map I) :: .val (.bool false) :: .sl (D q.den).length ((D q.den).map I) :: QC qs := rfl
theorem QC_app (x y : List Rat) : QC (x ++ y) = QC x ++ QC y := by unfold QC; rw [List.flatMap_append]
theorem QC_len : ∀ qs : List Rat, (QC qs).length = qs.length * 4
  | [] => rfl
  | q :: qs => by rw [QC_cons]; simp only [List.length_cons, QC_len qs]; omega
theorem QC_drop : ∀ (qs : List Rat) (c : Nat), (QC qs).drop (c * 4) = QC (qs.drop c)
  | qs, 0 => rfl
  | [], c + 1 => by simp [QC]
  | q :: qs, c + 1 => by
    rw [Nat.succ_mul, QC_cons]
    exact QC_drop qs c
theorem QC_take : ∀ (qs : List Rat) (c : Nat), (QC qs).take (c * 4) = QC (qs.take c)
  | qs, 0 => by simp [QC]
  | [], c + 1 => by simp [QC]
  | q :: qs, c + 1 => by
    rw [Nat.succ_mul, QC_cons]
    show _ :: _ :: _ :: _ :: (QC qs).take (c * 4) = _
    rw [QC_take qs c]; rfl

def qv (qs : List Rat) (k : Nat) : Rat := qs.getD k 0
theorem qv_lt {qs : List Rat} {k : Nat} (h : k < qs.length) : qv qs k = qs[k] := by simp [qv, h]
theorem QC_at {qs : List Rat} {c : Nat} (r : List PV) (h : c < qs.length) : (QC qs ++ r).drop (c * 4) = .val (.bool (decide ((qv qs c).num < 0))) :: .sl (D (qv qs c).num.natAbs).length ((D (qv qs c).num.natAbs).map I) :: .val (.bool false) :: .sl (D (qv qs c).den).length ((D (qv qs c).den).map I) :: (QC (qs.drop (c + 1)) ++ r) := by
  rw [List.drop_append_of_le_length (by rw [QC_len]; omega), QC_drop, List.drop_eq_getElem_cons h, QC_cons, qv_lt h]; rfl
theorem QC_set {qs : List Rat} {c : Nat} (r : List PV) (h : c < qs.length) (q : Rat) : spl (QC qs ++ r) (c * 4) [.val (.bool (decide (q.num < 0))), .sl (D q.num.natAbs).length ((D q.num.natAbs).map I), .val (.bool false), .sl (D q.den).length ((D q.den).map I)] = QC (qs.set c q) ++ r := by
  rw [YtfjdfnlkobeehaaGreat.spl_app (by rw [QC_len]; simp; omega)]
  congr 1
  unfold spl
  have h4 : c * 4 + 4 = (c + 1) * 4 := by omega
  simp only [List.length_cons, List.length_nil, Nat.zero_add, Nat.reduceAdd]
  rw [QC_take, h4, QC_drop, List.set_eq_take_append_cons_drop, if_pos h, QC_app]; rfl
end Go.Proofs.YtfjdfnlkobeehaaGreat.Ref
end

section
set_option maxRecDepth 100000
set_option linter.unusedVariables false
set_option linter.unusedSimpArgs false
namespace Go.Proofs.YtfjdfnlkobeehaaGreat.Ref
open YtfjdfnlkobeehaaGreat (SWc SW WX WC WV vals vals_len SM lenM Rn vc vc_lt SW_def SM_def cZ get_SM' getD_take getD_mem getD_vals canZ canZ_len)

def denP (qs : List Rat) : Nat → Nat
  | 0 => 1
  | i + 1 => denP qs i * ((qv qs i).den / Nat.gcd (denP qs i) (qv qs i).den)

def clrL (qs : List Rat) : List Int := qs.map fun q => q.num * ((denP qs qs.length / q.den : Nat) : Int)
theorem clrL_len (qs : List Rat) : (clrL qs).length = qs.length := by simp [clrL]
theorem clrL_vc {qs : List Rat} {i : Nat} (h : i < qs.length) : vc (clrL qs) i = (qv qs i).num * ((denP qs qs.length / (qv qs i).den : Nat) : Int) := by
  rw [vc_lt (by rw [clrL_len]; exact h), qv_lt h]; simp [clrL]
section
variable {qs : List Rat} {Pv : List Nat} {k f : Nat}
theorem denP_pos (qs : List Rat) : ∀ i, denP qs i ≠ 0
  | 0 => by show 1 ≠ 0; decide
  | i + 1 => by
    have h1 := denP_pos qs i
    have hd := (qv qs i).den_pos
    have hg : Nat.gcd (denP qs i) (qv qs i).den ∣ (qv qs i).den := Nat.gcd_dvd_right _ _
    have := Nat.div_pos (Nat.le_of_dvd hd hg) (Nat.gcd_pos_of_pos_right _ hd)
    exact Nat.mul_ne_zero h1 (by omega)
theorem nn_int (n : Nat) : sg (decide ((n : Int) < 0)) n = n := by rw [decide_eq_false (by omega)]; rfl
end
end Go.Proofs.YtfjdfnlkobeehaaGreat.Ref
end

section
set_option maxRecDepth 100000
set_option linter.unusedVariables false
set_option linter.unusedSimpArgs false
namespace Go.Proofs.YtfjdfnlkobeehaaGreat
open Ref (denP clrL clrL_len clrL_vc qv_lt denP_pos)
def nulV (T : List (List Int)) (Pv : List Nat) (f cols : Nat) : Nat → List Rat
  | 0 => (List.replicate cols 0).set f 1
  | i + 1 => (nulV T Pv f cols i).set (Pv.getD i 0) (Rat.divInt (-vc (T.getD i []) f) (vc (T.getD i []) (Pv.getD i 0)))
theorem nulV_len {T : List (List Int)} {Pv : List Nat} {f cols : Nat} : ∀ i, (nulV T Pv f cols i).length = cols
  | 0 => by simp [nulV]
  | i + 1 => by rw [nulV, List.length_set]; exact nulV_len i
end Go.Proofs.YtfjdfnlkobeehaaGreat
end

section
set_option maxRecDepth 100000
set_option linter.unusedVariables false
set_option linter.unusedSimpArgs false
namespace Go.Proofs.YtfjdfnlkobeehaaGreat.Ref
open YtfjdfnlkobeehaaGreat (SWc SW WX WC WV vals vals_len SM lenM Rn vc vc_lt SW_def SM_def cZ get_SM' getD_take getD_mem getD_vals canZ canZ_len loopN nulV nulV_len frees frees_succ mem_frees echT echW)
theorem QC_flat : ∀ qs : List Rat, flatL (QC qs) = true
  | [] => rfl
  | q :: qs => by rw [QC_cons]; simp [flatL, flat, QC_flat qs, flatL_I]

section
variable {T R : List (List Int)} {Pv : List Nat} {cols f idO b k : Nat} {o : PV} {cs : List PV} {cx : Cx} {Q : Exit → PS → Prop} {s : PS}
theorem zero_q' : PT Tryz.prog 49 [] (isV (QZ (0 : Rat).num (0 : Rat).den)) := zero_q
end
end Go.Proofs.YtfjdfnlkobeehaaGreat.Ref
end

section
set_option maxRecDepth 100000
set_option linter.unusedVariables false
set_option linter.unusedSimpArgs false
namespace Go.Proofs.YtfjdfnlkobeehaaGreat.Ref
open YtfjdfnlkobeehaaGreat (SWc SW WX WC WV vals vals_len SM lenM Rn vc vc_lt SW_def SM_def cZ get_SM' getD_take getD_mem getD_vals canZ canZ_len loopN solL solL_len echT echW mapM_app')

def augW (W : List (List Int)) (r : List Int) : List (List Int) := List.zipWith (fun z x => z ++ [x]) W r
theorem augW_len {W : List (List Int)} {r : List Int} (h : r.length = W.length) : (augW W r).length = W.length := by simp [augW, h]
theorem augW_get {W : List (List Int)} {r : List Int} (h : r.length = W.length) {i : Nat} (hi : i < W.length) : (augW W r).getD i [] = W.getD i [] ++ [vc r i] := by
  have hl : i < (augW W r).length := by rw [augW_len h]; exact hi
  rw [show (augW W r).getD i [] = (augW W r)[i] by simp [hl], show W.getD i [] = W[i] by simp [hi], vc_lt (by omega)]
  simp only [augW, List.getElem_zipWith]
section
variable {W : List (List Int)} {r : List Int} {n : Nat} {cx : Cx} {Q : Exit → PS → Prop} {s : PS}
set_option maxHeartbeats 8000000 in
theorem sol0 (hc : cx.n = 90) (ht : cx.tb = [(5, [(0, []), (1, []), (2, []), (3, []), (4, []), (6, []), (7, []), (8, []), (9, []), (5, [0, 6, 7, 8, 9]), (10, [0, 1, 2, 3, 4]), (11, [0]), (12, [0]), (13, []), (14, [])]), (1000005, [(0, []), (0, []), (0, []), (6, []), (14, []), (30, []), (0, []), (0, []), (192, []), (448, []), (960, []), (2046, []), (4094, []), (8191, []), (16383, [])]), (17, [(0, []), (1, []), (2, []), (3, []), (4, []), (5, []), (6, []), (7, []), (8, []), (9, []), (10, []), (11, []), (12, []), (13, []), (14, []), (15, []), (16, []), (17, []), (18, []), (19, []), (20, []), (21, []), (22, [0, 1, 2, 3, 4]), (23, []), (24, [])]), (1000017, [(0, []), (0, []), (0, []), (6, []), (14, []), (0, []), (0, []), (96, []), (224, []), (0, []), (992, []), (2016, []), (0, []), (0, []), (12288, []), (28672, []), (0, []), (0, []), (196608, []), (458752, []), (1044480, []), (2093056, []), (4194272, []), (8388607, []), (16777215, [])])]) (hW : ∀ z ∈ W, z.length ≤ 1000000) (hlen : W.length ≤ 1000000) (hr : r.length = W.length)
    (hI : s.sl 0 = .sl W.length (W.map SN) ∧ s.sl 1 = .val (.int .i64 n) ∧ s.sl 2 = .sl W.length (SNc r) ∧ s.sl 9 = .val (.int .i64 (0 : Nat)) ∧ ∃ id, s.sl 8 = .ref id 0 0 0 1 ∧ s.H id = some [] ∧ id < s.nx)
    (hQ : ∀ (t : PS) (id cap : Nat) (rest : List Value), t.sl 1 = .val (.int .i64 n) → t.sl 8 = .ref id 0 W.length cap 1 → t.H id = some ((augW W r).map SN ++ rest.map .val) → W.length + rest.length = cap → Q (.exit 0) t) : LW Tryz.prog cx (loopN Tryz.f37 0) Q s := by
  refine YtfjdfnlkobeehaaGreat.LW.ofLoop rfl ?_
  refine LW.loopG hc ht (by kernel_rfl) (fun t => t.sl 0 = .sl W.length (W.map SN) ∧ t.sl 1 = .val (.int .i64 n) ∧ t.sl 2 = .sl W.length (SNc r) ∧ ∃ i : Nat, i ≤ W.length ∧ t.sl 9 = .val (.int .i64 i) ∧ ∃ (id cap : Nat) (rest : List Value) (D : Nat → Bool) (cs qs : List PV), t.sl 8 = .ref id 0 i cap 1 ∧ t.H id = some (cs ++ rest.map .val) ∧ i + rest.length = cap ∧ id < t.nx ∧ D id = false ∧ cs.mapM (YtfjdfnlkobeehaaGreat.frz D t.H 1) = some qs ∧ qs.map nn1 = ((augW W r).take i).map SN)
    (fun t => match t.sl 9 with | .val (.int _ k) => W.length - k.toNat | _ => 0) ?_ ?_
  · obtain ⟨g0, g1, g2, g9, id, g8, gH, gn⟩ := hI
    exact ⟨g0, g1, g2, 0, Nat.zero_le _, g9, id, 0, [], fun _ => false, [], [], g8, gH, rfl, gn, rfl, rfl, rfl⟩
  · rintro t ⟨h0, h1, h2, i, hi, h9, id, cap, rest, D, cs, qs, h8, hH, hcap, hid, hD, hfz, hqs⟩
    refine ⟨_, Gh.rows D hH hD hfz hqs, ?_⟩
    have hal := augW_len hr
    by_cases hil : i = W.length
    · subst hil
      rw [List.take_of_length_le (by omega)]
      simp -implicitDefEqProofs (disch := omega) only [go_sem, ht, h0, h1, h2, h8, h9]
      exact hQ _ id cap rest (by simp -implicitDefEqProofs (disch := omega) only [go_sem, ht, h1]) (by simp -implicitDefEqProofs (disch := omega) only [go_sem, ht, h8]) (by simp -implicitDefEqProofs (disch := omega) only [go_sem, ht, upd_self]) hcap
    · have hlt : i < W.length := by omega
      have hgi := get_SNM' hlt
      have hzl := hW _ (getD_mem (d := []) hlt)
      have hat := SNc_at (zs := r) (i := i) (by omega)
      have hag := augW_get hr hlt
      have hst : ((augW W r).take (i + 1)).map SN = ((augW W r).take i).map SN ++ [SN (W.getD i [] ++ [vc r i])] := by
        rw [getD_take (d := []) (by omega), List.map_append, hag]; rfl
      have hln : (((augW W r).take i).map SN).length = i := by simp; omega
      have hfw := fun D H => YtfjdfnlkobeehaaGreat.frzL_flat D H 1 (SNM_flat ((augW W r).take i))
      have hnw := nn1_SNM ((augW W r).take i)
      have hzx := SNc_app (W.getD i []) [vc r i]
      have hz1 : SNc [vc r i] = [.val (.bool (decide (vc r i < 0))), .sl (Ref.D (vc r i).natAbs).length ((Ref.D (vc r i).natAbs).map I)] := rfl
      clear hag
      generalize W.getD i [] = z at *
      generalize vc r i = x at *
      generalize ((augW W r).take i).map SN = ws at *
      simp -implicitDefEqProofs (disch := omega) only [go_sem, ht, h0, h1, h2, h8, h9, hgi, hat]
      refine append_nilS (m := z.length) (sz := 2) (ys := SNc z) T77_elem rfl T81_size T81_bytes T81_zero rfl (by simp -implicitDefEqProofs (disch := omega) only [go_sem, ht, srcP_sl]; rw [if_pos (by rw [SNc_len]; omega)]) (SNc_one z) (by omega) (fun h00 => ?_) (fun capr restr hcapr hpos => ?_)
      · have hz0 : z = [] := List.eq_nil_of_length_eq_zero h00
        subst hz0
        simp -implicitDefEqProofs (disch := omega) only [go_sem, ht, h0, h1, h2, h8, h9, hgi, hat]
        refine append_nilS (m := 1) (sz := 2) (ys := [.val (.bool (decide (x < 0))), .sl (Ref.D x.natAbs).length ((Ref.D x.natAbs).map I)]) T77_elem rfl T81_size T81_bytes T81_zero rfl (by simp -implicitDefEqProofs (disch := omega) only [go_sem, ht, srcP_ref] <;> rfl) (by rfl) (by omega) (fun h => by omega) (fun capw restw hcapw _ => ?_)
        simp -implicitDefEqProofs (disch := omega) only [go_sem, ht, h0, h1, h2, h8, h9, hgi, hat]
        have hne : id ≠ t.nx := by omega
        have hne2 : id ≠ t.nx + 1 := by omega
        have hne3 : id ≠ t.nx + 2 := by omega
        (refine append_ownX (by refine ⟨?_, ?_, ?_, ?_, ?_, ?_, ?_, ?_⟩ <;> (simp -implicitDefEqProofs (disch := omega) only [srcP_ref, srcP_sl, srcP_nil, Option.isSome_some, upd_self, hne, hne2, hne3, go_sem, ht] <;> rfl)) (by first | omega | (simp <;> omega)) (by first | assumption | (simp <;> omega)) (by first | rfl | simp) (by first | omega | (simp <;> omega)) ?_; intro id1 cap1 rest1 H1 nx1 hH1 hcap1 hid1 hnx1 hfr1 hfs1; (try simp only [put_nx, withH_nx, put_H, withH_H] at hid1 hnx1 hfr1 hfs1); (try simp only [app_U, ← List.map_append] at hH1))
        simp -implicitDefEqProofs (disch := omega) only [go_sem, ht, h0, h1, h2, h8, h9]
        have hHr : H1 (t.nx + 1) = some (SNc [x] ++ restw.map .val) := by rw [hfr1 _ (by omega) (by omega)]; simp -implicitDefEqProofs (disch := omega) only [go_sem, ht, upd_self, hz1]
        refine ⟨⟨i + 1, by omega, rfl, id1, cap1, rest1, fun y => decide (y = t.nx + 1), _, ws ++ [SN [x]], rfl, hH1, by omega, by omega, by simp; omega, ?_, ?_⟩, by omega⟩
        · refine mapM_app' (hfw _ _) ?_
          rw [mapMo_cons, frz_ref, if_pos (by simp), hHr, Option.bind_some, if_pos (by simp [SNc_len])]
          rw [List.drop_zero, take_SNc [x] _ (n := 1) rfl, frzL_SNc]; rfl
        · rw [List.map_append, hnw, hst]; rfl
      · simp -implicitDefEqProofs (disch := omega) only [go_sem, ht, h0, h1, h2, h8, h9, hgi, hat]
        have hzl2 := SNc_len z
        refine append_ownS (cs := SNc z) (rest := restr) (ys := [.val (.bool (decide (x < 0))), .sl (Ref.D x.natAbs).length ((Ref.D x.natAbs).map I)]) (m := 1) (sz := 2) T77_elem rfl T81_size T81_bytes T81_zero rfl (by simp -implicitDefEqProofs (disch := omega) only [go_sem, ht, srcP_ref] <;> rfl) (by rfl) (by simp -implicitDefEqProofs (disch := omega) only [go_sem, ht, upd_self] <;> rfl) (by omega) (by omega) (by rfl) (by omega) ?_
        intro id2 cap2 rest2 H2 b2 hH2 hcap2 hid2 hnx2 hfr2 hfs2
        (try simp only [put_nx, withH_nx, put_H, withH_H] at hid2)
        (try simp only [put_nx, withH_nx, put_H, withH_H] at hnx2)
        (try simp only [put_nx, withH_nx, put_H, withH_H] at hfr2)
        simp -implicitDefEqProofs (disch := omega) only [go_sem, ht, h0, h1, h2, h8, h9, hgi, hat]
        have hHi : H2 id = some (ws ++ rest.map .val) := by rw [hfr2 id (by omega) (by omega)]; rw [upd_ne _ _ (by omega), upd_ne _ _ (by omega), upd_self]
        rw [← hz1, ← hzx] at hH2
        have hne : id ≠ id2 := by omega
        have hne2 : id ≠ b2 := by omega
        (refine append_ownX (by refine ⟨?_, ?_, ?_, ?_, ?_, ?_, ?_, ?_⟩ <;> (simp -implicitDefEqProofs (disch := omega) only [srcP_ref, srcP_sl, srcP_nil, Option.isSome_some, hHi, hne, hne2, go_sem, ht] <;> rfl)) (by first | omega | (simp <;> omega)) (by first | assumption | (simp <;> omega)) (by first | rfl | simp) (by first | omega | (simp <;> omega)) ?_; intro id1 cap1 rest1 H1 nx1 hH1 hcap1 hid1 hnx1 hfr1 hfs1; (try simp only [put_nx, withH_nx, put_H, withH_H] at hid1 hnx1 hfr1 hfs1); (try simp only [app_U, ← List.map_append] at hH1))
        simp -implicitDefEqProofs (disch := omega) only [go_sem, ht, h0, h1, h2, h8, h9]
        have hHr : H1 id2 = some (SNc (z ++ [x]) ++ rest2.map .val) := by
          rw [hfr1 _ (by omega) (by omega)]
          simp -implicitDefEqProofs (disch := omega) only [go_sem, ht, hH2]
        refine ⟨⟨i + 1, by omega, rfl, id1, cap1, rest1, fun y => decide (y = id2), _, ws ++ [SN (z ++ [x])], rfl, hH1, by omega, by omega, by simp; omega, ?_, ?_⟩, by omega⟩
        · refine mapM_app' (hfw _ _) ?_
          have hl2 : (z ++ [x]).length = z.length + 1 := by simp
          rw [mapMo_cons, frz_ref, if_pos (by simp), hHr, Option.bind_some, if_pos (by simp [SNc_len]; omega)]
          rw [List.drop_zero, take_SNc (z ++ [x]) _ hl2.symm, frzL_SNc, SN_def, hl2]; rfl
        · rw [List.map_append, hnw, hst]; rfl

def SB (T : List (List Int)) (Pv : List Nat) (cols : Nat) (t : PS) : Prop :=
  t.sl 1 = .val (.int .i64 cols) ∧ t.sl 10 = .sl Pv.length (T.map SN) ∧ t.sl 11 = .sl Pv.length (Pv.map I)
end
section
variable {T R : List (List Int)} {Pv : List Nat} {cols b k : Nat} {cx : Cx} {Q : Exit → PS → Prop} {s : PS}
set_option maxHeartbeats 8000000 in
theorem sol1 (hc : cx.n = 90) (ht : cx.tb = [(5, [(0, []), (1, []), (2, []), (3, []), (4, []), (6, []), (7, []), (8, []), (9, []), (5, [0, 6, 7, 8, 9]), (10, [0, 1, 2, 3, 4]), (11, [0]), (12, [0]), (13, []), (14, [])]), (1000005, [(0, []), (0, []), (0, []), (6, []), (14, []), (30, []), (0, []), (0, []), (192, []), (448, []), (960, []), (2046, []), (4094, []), (8191, []), (16383, [])]), (17, [(0, []), (1, []), (2, []), (3, []), (4, []), (5, []), (6, []), (7, []), (8, []), (9, []), (10, []), (11, []), (12, []), (13, []), (14, []), (15, []), (16, []), (17, []), (18, []), (19, []), (20, []), (21, []), (22, [0, 1, 2, 3, 4]), (23, []), (24, [])]), (1000017, [(0, []), (0, []), (0, []), (6, []), (14, []), (0, []), (0, []), (96, []), (224, []), (0, []), (992, []), (2016, []), (0, []), (0, []), (12288, []), (28672, []), (0, []), (0, []), (196608, []), (458752, []), (1044480, []), (2093056, []), (4194272, []), (8388607, []), (16777215, [])])]) (hn : cols ≤ 1000)
    (hI : SB T Pv cols s ∧ s.sl 12 = .ref b 0 cols cols 4 ∧ s.sl 13 = .val (.int .i64 (0 : Nat)) ∧ b < s.nx ∧ (∃ cs : List PV, s.H b = some cs ∧ cs.length = cols * 4))
    (hQ : ∀ t : PS, SB T Pv cols t → t.sl 12 = .ref b 0 cols cols 4 → t.H b = some (QC (List.replicate cols 0)) → b < t.nx → Q (.exit 2) t) : LW Tryz.prog cx (loopN Tryz.f37 1) Q s := by
  refine YtfjdfnlkobeehaaGreat.LW.ofLoop rfl ?_
  refine LW.loopW hc ht (by kernel_rfl) (fun t => SB T Pv cols t ∧ t.sl 12 = .ref b 0 cols cols 4 ∧ b < t.nx ∧ ∃ i : Nat, i ≤ cols ∧ t.sl 13 = .val (.int .i64 i) ∧ ∃ ds : List PV, t.H b = some (QC (List.replicate i 0) ++ ds) ∧ ds.length = (cols - i) * 4)
    (fun t => match t.sl 13 with | .val (.int _ k) => cols - k.toNat | _ => 0) ?_ ?_
  · obtain ⟨g1, g9, g10, gb, ds, gH, gl⟩ := hI
    exact ⟨g1, g9, gb, 0, Nat.zero_le _, g10, ds, gH, gl⟩
  rintro t ⟨⟨h1, h5, h6⟩, h9, hb, i, hi, h10, ds, hH, hl⟩
  by_cases hie : i = cols
  · subst hie
    have : ds = [] := List.eq_nil_of_length_eq_zero (by omega)
    subst this
    rw [List.append_nil] at hH
    simp -implicitDefEqProofs (disch := omega) only [go_sem, ht, h1, h5, h6, h9, h10]
    exact hQ _ ⟨by simp -implicitDefEqProofs (disch := omega) only [go_sem, ht, h1], by simp -implicitDefEqProofs (disch := omega) only [go_sem, ht, h5], by simp -implicitDefEqProofs (disch := omega) only [go_sem, ht, h6]⟩ (by simp -implicitDefEqProofs (disch := omega) only [go_sem, ht, h9]) (by simp -implicitDefEqProofs (disch := omega) only [go_sem, ht, hH]) (by simp -implicitDefEqProofs (disch := omega) only [go_sem, ht]; exact hb)
  · have hlt : i < cols := by omega
    obtain ⟨x0, x1, x2, x3, ds', rfl⟩ : ∃ x0 x1 x2 x3 ds', ds = x0 :: x1 :: x2 :: x3 :: ds' := by
      match ds, hl with
      | [], h => exfalso; simp at h; omega
      | [_], h => exfalso; simp at h; omega
      | [_, _], h => exfalso; simp at h; omega
      | [_, _, _], h => exfalso; simp at h; omega
      | x0 :: x1 :: x2 :: x3 :: ds', _ => exact ⟨x0, x1, x2, x3, ds', rfl⟩
    have hll : (QC (List.replicate i 0)).length = i * 4 := by rw [QC_len, List.length_replicate]
    have hsp : spl (QC (List.replicate i 0) ++ x0 :: x1 :: x2 :: x3 :: ds') (i * 4) [.val (.bool (decide ((0 : Rat).num < 0))), .sl (D (0 : Rat).num.natAbs).length ((D (0 : Rat).num.natAbs).map I), .val (.bool false), .sl (D (0 : Rat).den).length ((D (0 : Rat).den).map I)] = QC (List.replicate (i + 1) 0) ++ ds' := by
      have e1 : List.take (i * 4) (QC (List.replicate i 0) ++ x0 :: x1 :: x2 :: x3 :: ds') = QC (List.replicate i 0) := List.take_left' hll
      have e2 : List.drop (i * 4 + 4) (QC (List.replicate i 0) ++ x0 :: x1 :: x2 :: x3 :: ds') = ds' := by
        rw [← List.drop_drop, List.drop_left' hll]; rfl
      unfold spl
      simp only [List.length_cons, List.length_nil, Nat.zero_add, Nat.reduceAdd]
      rw [e1, e2, List.replicate_succ', QC_app, List.append_assoc]; rfl
    have hln : (QC (List.replicate i 0) ++ x0 :: x1 :: x2 :: x3 :: ds').length = cols * 4 := by simp at hl ⊢; omega
    have hf0 := zero_q'
    simp -implicitDefEqProofs (disch := omega) only [go_sem, ht, h1, h5, h6, h9, h10, hH]
    ((refine pCall_vw (by refine ⟨⟨?_, ?_⟩, ?_, ?_⟩; rotate_left 2; (first | (right; rintro r rfl; rfl) | left); all_goals ((try simp -implicitDefEqProofs (disch := omega) only [h1, h5, h6, h9, h10, hH, hsp, hln, go_sem, ht]) <;> rfl)) (hf0) ?_; rintro _ nx_1 - rfl hnx_1; simp -implicitDefEqProofs (disch := omega) only [h1, h5, h6, h9, h10, hH, hsp, hln, go_sem, ht]))
    exact ⟨⟨⟨by simp -implicitDefEqProofs (disch := omega) only [go_sem, ht, h1], by simp -implicitDefEqProofs (disch := omega) only [go_sem, ht, h5], by simp -implicitDefEqProofs (disch := omega) only [go_sem, ht, h6]⟩, by omega, i + 1, by omega, rfl, ds', rfl, by simp at hl; omega⟩, by omega⟩
set_option maxHeartbeats 8000000 in
theorem sol2 (hc : cx.n = 90) (ht : cx.tb = [(5, [(0, []), (1, []), (2, []), (3, []), (4, []), (6, []), (7, []), (8, []), (9, []), (5, [0, 6, 7, 8, 9]), (10, [0, 1, 2, 3, 4]), (11, [0]), (12, [0]), (13, []), (14, [])]), (1000005, [(0, []), (0, []), (0, []), (6, []), (14, []), (30, []), (0, []), (0, []), (192, []), (448, []), (960, []), (2046, []), (4094, []), (8191, []), (16383, [])]), (17, [(0, []), (1, []), (2, []), (3, []), (4, []), (5, []), (6, []), (7, []), (8, []), (9, []), (10, []), (11, []), (12, []), (13, []), (14, []), (15, []), (16, []), (17, []), (18, []), (19, []), (20, []), (21, []), (22, [0, 1, 2, 3, 4]), (23, []), (24, [])]), (1000017, [(0, []), (0, []), (0, []), (6, []), (14, []), (0, []), (0, []), (96, []), (224, []), (0, []), (992, []), (2016, []), (0, []), (0, []), (12288, []), (28672, []), (0, []), (0, []), (196608, []), (458752, []), (1044480, []), (2093056, []), (4194272, []), (8388607, []), (16777215, [])])]) (hn : cols ≤ 1000) (hPl : Pv.length ≤ 1000) (hTl : T.length = Pv.length) (hTr : ∀ i, i < T.length → (T.getD i []).length = cols + 1 ∧ ∀ x ∈ T.getD i [], Z k x) (hPc : ∀ c ∈ Pv, c < cols + 1)
    (hp : ∀ i, i < Pv.length → vc (T.getD i []) (Pv.getD i 0) ≠ 0) (hk : k ≤ 100000)
    (hI : SB T Pv cols s ∧ s.sl 12 = .ref b 0 cols cols 4 ∧ s.sl 14 = .val (.int .i64 (0 : Nat)) ∧ b < s.nx ∧ s.H b = some (QC (solL T Pv cols 0)))
    (hR : cols ∈ Pv → ∀ t : PS, t.sl 6 = .val (.slice none 0 0) → t.sl 7 = .val (.bool false) → Q .ret t)
    (hQ : cols ∉ Pv → ∀ t : PS, t.sl 12 = .ref b 0 cols cols 4 → t.H b = some (QC (solL T Pv cols Pv.length)) → b < t.nx → Q (.exit 4) t) : LW Tryz.prog cx (loopN Tryz.f37 2) Q s := by
  refine YtfjdfnlkobeehaaGreat.LW.ofLoop rfl ?_
  refine LW.loopW hc ht (by kernel_rfl) (fun t => SB T Pv cols t ∧ t.sl 12 = .ref b 0 cols cols 4 ∧ b < t.nx ∧ ∃ i : Nat, i ≤ Pv.length ∧ t.sl 14 = .val (.int .i64 i) ∧ (∀ j, j < i → Pv.getD j 0 ≠ cols) ∧ t.H b = some (QC (solL T Pv cols i)))
    (fun t => match t.sl 14 with | .val (.int _ k) => Pv.length - k.toNat | _ => 0) ?_ ?_
  · obtain ⟨g1, g9, g11, gb, gH⟩ := hI
    exact ⟨g1, g9, gb, 0, Nat.zero_le _, g11, fun j hj => by omega, gH⟩
  rintro t ⟨⟨h1, h5, h6⟩, h9, hb, i, hi, h11, hno, hH⟩
  have hTm : (T.map SN).length = Pv.length := by rw [List.length_map, hTl]
  by_cases hie : i = Pv.length
  · subst hie
    have hnm : cols ∉ Pv := fun hm => by
      obtain ⟨i, hi, e⟩ := List.mem_iff_getElem.1 hm
      exact hno i hi (by simp [hi, e])
    simp -implicitDefEqProofs (disch := omega) only [go_sem, ht, h1, h5, h6, h9, h11]
    exact hQ hnm _ (by simp -implicitDefEqProofs (disch := omega) only [go_sem, ht, h9]) (by simp -implicitDefEqProofs (disch := omega) only [go_sem, ht, hH]) (by simp -implicitDefEqProofs (disch := omega) only [go_sem, ht]; exact hb)
  · have hlt : i < Pv.length := by omega
    have hgp : (Pv.map I)[i]? = some (.val (.int .i64 (Pv.getD i 0 : Nat))) := by simp [hlt, I]
    have hpc1 : Pv.getD i 0 < cols + 1 := hPc _ (getD_mem hlt)
    by_cases hpe : Pv.getD i 0 = cols
    · have hm : cols ∈ Pv := hpe ▸ getD_mem hlt
      rw [hpe] at hgp
      simp -implicitDefEqProofs (disch := omega) only [go_sem, ht, h1, h5, h6, h9, h11, hgp]
      exact hR hm _ (by simp -implicitDefEqProofs (disch := omega) only [go_sem, ht]) (by simp -implicitDefEqProofs (disch := omega) only [go_sem, ht])
    have hpc : Pv.getD i 0 < cols := by omega
    have hpe' : ¬ ((Pv.getD i 0 : Nat) : Int) = (cols : Nat) := by omega
    have hno2 : ∀ j, j < i + 1 → Pv.getD j 0 ≠ cols := fun j hj => by
      by_cases e : j = i
      · rw [e]; exact hpe
      · exact hno j (by omega)
    have hgt := get_SNM' (W := T) (i := i) (by omega)
    obtain ⟨hTc, hTz⟩ := hTr i (by omega)
    have hpi := hp i hlt
    have hatf := SNc_at (zs := T.getD i []) (i := cols) (by omega)
    have hatp := SNc_at (zs := T.getD i []) (i := Pv.getD i 0) (by omega)
    have zf : Z k (vc (T.getD i []) cols) := YtfjdfnlkobeehaaGreat.vc_z hTz cols
    have zp : Z k (vc (T.getD i []) (Pv.getD i 0)) := YtfjdfnlkobeehaaGreat.vc_z hTz _
    have hmk := make_z (k := k) zf zp hk hpi
    have hst : solL T Pv cols (i + 1) = (solL T Pv cols i).set (Pv.getD i 0) (Rat.divInt (vc (T.getD i []) cols) (vc (T.getD i []) (Pv.getD i 0))) := rfl
    have hvl := solL_len (T := T) (P := Pv) (n := cols) i
    have hsp := QC_set [] (qs := solL T Pv cols i) (c := Pv.getD i 0) (by omega) (Rat.divInt (vc (T.getD i []) cols) (vc (T.getD i []) (Pv.getD i 0)))
    rw [← hst, List.append_nil, List.append_nil] at hsp
    have hln : (QC (solL T Pv cols i)).length = cols * 4 := by rw [QC_len, hvl]
    obtain ⟨v2, ev2⟩ : ∃ v2, solL T Pv cols (i + 1) = v2 := ⟨_, rfl⟩
    rw [ev2] at hsp
    rw [NZ_def, NZ_def] at hmk
    clear hst hpi zf zp hno
    generalize Rat.divInt (vc (T.getD i []) cols) (vc (T.getD i []) (Pv.getD i 0)) = q at *
    generalize vc (T.getD i []) cols = x at *
    generalize vc (T.getD i []) (Pv.getD i 0) = z at *
    generalize solL T Pv cols i = v1 at *
    generalize T.getD i [] = tr at *
    generalize Pv.getD i 0 = p at *
    simp -implicitDefEqProofs (disch := omega) only [go_sem, ht, h1, h5, h6, h9, h11, hgp, hgt, hatf, hatp, hTc, hpe, hpe']
    ((refine pCall_vw (by refine ⟨⟨?_, ?_⟩, ?_, ?_⟩; rotate_left 2; (first | (right; rintro r rfl; rfl) | left); all_goals ((try simp -implicitDefEqProofs (disch := omega) only [h1, h5, h6, h9, h11, hH, hgp, hgt, hatf, hatp, hTc, hsp, hln, hpe, hpe', go_sem, ht]) <;> rfl)) (hmk) ?_; rintro _ nx_2 - rfl hnx_2; simp -implicitDefEqProofs (disch := omega) only [h1, h5, h6, h9, h11, hH, hgp, hgt, hatf, hatp, hTc, hsp, hln, hpe, hpe', go_sem, ht]))
    exact ⟨⟨⟨by simp -implicitDefEqProofs (disch := omega) only [go_sem, ht, h1], by simp -implicitDefEqProofs (disch := omega) only [go_sem, ht, h5], by simp -implicitDefEqProofs (disch := omega) only [go_sem, ht, h6]⟩, by omega, i + 1, by omega, rfl, hno2, by rw [ev2]⟩, by omega⟩
end
end Go.Proofs.YtfjdfnlkobeehaaGreat.Ref
end

section
set_option maxRecDepth 100000
set_option linter.unusedVariables false
set_option linter.unusedSimpArgs false
namespace Go.Proofs.YtfjdfnlkobeehaaGreat.Ref
open YtfjdfnlkobeehaaGreat (SWc SW WX WC WV vals vals_len SM lenM Rn vc vc_lt SW_def SM_def cZ get_SM' getD_take getD_mem getD_vals canZ canZ_len loopN solL solL_len solL_zq echT echW wrongM wrongM_false Mx augL augL_len aug_row mSol SF SF_def FLc FLc_nil FLc_len FLc_flat  fv fv_lt limQ FC FC_def echT_RE)
section
variable {T R : List (List Int)} {r : List Int} {Pv : List Nat} {cols k : Nat} {xv : PV} {bv : Bool}
set_option maxHeartbeats 8000000 in
theorem solved_z (hr1 : PT Tryz.prog 47 [SNM (augW R r), .val (.int .i64 (cols + 1 : Nat))] (isV (.tup [SNM T, .sl Pv.length (Pv.map I)])))
    (hR : ∀ z ∈ R, z.length ≤ 1000000) (hlen : R.length ≤ 1000000) (hr : r.length = R.length) (hn : cols ≤ 1000) (hPl : Pv.length ≤ 1000) (hTl : T.length = Pv.length) (hTr : ∀ i, i < T.length → (T.getD i []).length = cols + 1 ∧ ∀ x ∈ T.getD i [], Z k x) (hPc : ∀ c ∈ Pv, c < cols + 1)
    (hp : ∀ i, i < Pv.length → vc (T.getD i []) (Pv.getD i 0) ≠ 0) (hk : k ≤ 100000) (hA : cols ∈ Pv → xv = .sl 0 [] ∧ bv = false) (hB : cols ∉ Pv → xv = .sl cols (QC (solL T Pv cols Pv.length)) ∧ bv = true) :
    PT Tryz.prog 37 [SNM R, .val (.int .i64 cols), SN r] (isV (.tup [xv, .val (.bool bv)])) := by
  rw [SNM_def T, hTl, SNM_def (augW R r), augW_len hr] at hr1
  refine PCalls.enter (n := 90) (rs := [.tmp 6, .tmp 7]) (tb := [(5, [(0, []), (1, []), (2, []), (3, []), (4, []), (6, []), (7, []), (8, []), (9, []), (5, [0, 6, 7, 8, 9]), (10, [0, 1, 2, 3, 4]), (11, [0]), (12, [0]), (13, []), (14, [])]), (1000005, [(0, []), (0, []), (0, []), (6, []), (14, []), (30, []), (0, []), (0, []), (192, []), (448, []), (960, []), (2046, []), (4094, []), (8191, []), (16383, [])]), (17, [(0, []), (1, []), (2, []), (3, []), (4, []), (5, []), (6, []), (7, []), (8, []), (9, []), (10, []), (11, []), (12, []), (13, []), (14, []), (15, []), (16, []), (17, []), (18, []), (19, []), (20, []), (21, []), (22, [0, 1, 2, 3, 4]), (23, []), (24, [])]), (1000017, [(0, []), (0, []), (0, []), (6, []), (14, []), (0, []), (0, []), (96, []), (224, []), (0, []), (992, []), (2016, []), (0, []), (0, []), (12288, []), (28672, []), (0, []), (0, []), (196608, []), (458752, []), (1044480, []), (2093056, []), (4194272, []), (8388607, []), (16777215, [])])]) Tryz.func37 rfl rfl rfl (by kernel_rfl) (by kernel_rfl) (by simp) fun c hc ht => ?_
  simp -implicitDefEqProofs (disch := omega) only [go_sem, ht, hr]
  refine LW.ghost (Gh.nilW 8 1 (by simp -implicitDefEqProofs (disch := omega) only [go_sem, ht])) ?_
  refine sol0 (W := R) (r := r) (n := cols) hc ht hR hlen hr ⟨by simp -implicitDefEqProofs (disch := omega) only [go_sem, ht], by simp -implicitDefEqProofs (disch := omega) only [go_sem, ht], by simp -implicitDefEqProofs (disch := omega) only [go_sem, ht], by simp -implicitDefEqProofs (disch := omega) only [go_sem, ht] <;> rfl, 0, by simp -implicitDefEqProofs (disch := omega) only [go_sem, ht] <;> rfl, by simp -implicitDefEqProofs (disch := omega) only [go_sem, ht, upd_self] <;> rfl, by first | omega | (simp -implicitDefEqProofs (disch := omega) only [go_sem, ht]; done) | (simp -implicitDefEqProofs (disch := omega) only [go_sem, ht]; omega)⟩ ?_
  intro t id cap rest h1 h8 hH hcap
  have hal := augW_len hr
  have hfl := YtfjdfnlkobeehaaGreat.frzL_flat (fun _ => true) t.H 0 (SNM_flat (augW R r))
  have hfl2 := SNM_flat (augW R r)
  have hml : ((augW R r).map SN).length = R.length := by rw [List.length_map, hal]
  have htk : List.take R.length ((augW R r).map SN ++ rest.map .val) = (augW R r).map SN := by rw [← hml, List.take_left]
  have hle : R.length ≤ (augW R r).length + rest.length := by omega
  generalize (augW R r).map SN = c1 at *
  simp -implicitDefEqProofs (disch := omega) only [go_sem, ht, h1, h8]
  (refine pCall_frz (fun _ => true) 1 (by simp -implicitDefEqProofs (disch := omega) only [h1, h8, hH, htk, hle, hfl, hfl2, if_pos, hml, Nat.le_add_right, go_sem, ht] <;> rfl) (by simp -implicitDefEqProofs (disch := omega) only [h1, h8, hH, htk, hle, hfl, hfl2, if_pos, hml, Nat.le_add_right, go_sem, ht]) (by simp -implicitDefEqProofs (disch := omega) only [h1, h8, hH, htk, hle, hfl, hfl2, if_pos, hml, Nat.le_add_right, go_sem, ht] <;> rfl) (by simp -implicitDefEqProofs (disch := omega) only [h1, h8, hH, htk, hle, hfl, hfl2, if_pos, hml, Nat.le_add_right, go_sem, ht]) (hr1) ?_; rintro _ nx - rfl hnx; (try simp only [put_nx, withH_nx, begP_nx] at hnx); simp -implicitDefEqProofs (disch := omega) only [h1, h8, hH, htk, hle, hfl, hfl2, if_pos, hml, Nat.le_add_right, go_sem, ht])
  have hrl3 : (repl cols [PV.val (.bool false), PV.val (.slice none 0 0), PV.val (.bool false), PV.val (.slice none 0 0)]).length = cols * 4 := by unfold repl; simp
  obtain ⟨b, eb⟩ : ∃ b, nx = b := ⟨_, rfl⟩
  rw [eb] at hnx ⊢
  refine sol1 (T := T) (Pv := Pv) (cols := cols) (b := b) hc ht hn ⟨⟨by simp -implicitDefEqProofs (disch := omega) only [go_sem, ht, h1], by simp -implicitDefEqProofs (disch := omega) only [go_sem, ht], by simp -implicitDefEqProofs (disch := omega) only [go_sem, ht]⟩, by simp -implicitDefEqProofs (disch := omega) only [go_sem, ht] <;> rfl, by simp -implicitDefEqProofs (disch := omega) only [go_sem, ht] <;> rfl, by first | omega | (simp -implicitDefEqProofs (disch := omega) only [go_sem, ht]; done) | (simp -implicitDefEqProofs (disch := omega) only [go_sem, ht]; omega), ⟨_, by simp -implicitDefEqProofs (disch := omega) only [go_sem, ht, upd_self] <;> rfl, hrl3⟩⟩ ?_
  rintro t2 ⟨g1, g10, g11⟩ g12 gH gb
  simp -implicitDefEqProofs (disch := omega) only [go_sem, ht, g1, g10, g11, g12]
  refine sol2 (k := k) (T := T) (Pv := Pv) (cols := cols) (b := b) hc ht hn hPl hTl hTr hPc hp hk ⟨⟨by simp -implicitDefEqProofs (disch := omega) only [go_sem, ht, g1], by simp -implicitDefEqProofs (disch := omega) only [go_sem, ht, g10], by simp -implicitDefEqProofs (disch := omega) only [go_sem, ht, g11]⟩, by simp -implicitDefEqProofs (disch := omega) only [go_sem, ht, g12], by simp -implicitDefEqProofs (disch := omega) only [go_sem, ht] <;> rfl, by first | (simp -implicitDefEqProofs (disch := omega) only [go_sem, ht]; exact gb) | exact gb, by simp -implicitDefEqProofs (disch := omega) only [go_sem, ht, gH] <;> rfl⟩ ?_ ?_
  · intro hm t3 u6 u7
    obtain ⟨rfl, rfl⟩ := hA hm
    (refine end_treeM 2 ?_; simp -implicitDefEqProofs (disch := omega) only [go_sem, ht, u6, u7])
  · intro hm t3 u12 uH ub
    obtain ⟨rfl, rfl⟩ := hB hm
    have hvl := solL_len (T := T) (P := Pv) (n := cols) Pv.length
    have hln2 : (QC (solL T Pv cols Pv.length)).length = cols * 4 := by rw [QC_len, hvl]
    have htk2 : List.take (cols * 4) (QC (solL T Pv cols Pv.length)) = QC (solL T Pv cols Pv.length) := List.take_of_length_le (by omega)
    have hfl2 := QC_flat (solL T Pv cols Pv.length)
    have hfl3 := YtfjdfnlkobeehaaGreat.frzL_flat (fun _ => true) t3.H 0 hfl2
    have hle2 : cols * 4 ≤ (QC (solL T Pv cols Pv.length)).length := by omega
    generalize QC (solL T Pv cols Pv.length) = w2 at *
    simp -implicitDefEqProofs (disch := omega) only [go_sem, ht, u12]
    (refine end_treeM 2 ?_; simp -implicitDefEqProofs (disch := omega) only [go_sem, ht, u12, uH, htk2, hle2, hfl3, hfl2])
end
theorem FLc_next {x : List Rat} {i : Nat} (h : i < x.length) : FLc (x.take i) ++ [.val (.bool (decide ((fv x i).num < 0))), .sl (YtfjdfnlkobeehaaGreat.D (fv x i).num.natAbs).length ((YtfjdfnlkobeehaaGreat.D (fv x i).num.natAbs).map U), .sl (YtfjdfnlkobeehaaGreat.D (fv x i).den).length ((YtfjdfnlkobeehaaGreat.D (fv x i).den).map U)] = FLc (x.take (i + 1)) := by
  rw [List.take_succ_eq_append_getElem h, YtfjdfnlkobeehaaGreat.FLc_app, ← fv_lt h]; rfl
theorem augW_L {m : List (List (Bool × List Nat))} {r : List (Bool × List Nat)} : augW (m.map vals) (vals r) = (augL m r).map vals := by
  unfold augW YtfjdfnlkobeehaaGreat.augL
  rw [List.map_zipWith]
  show List.zipWith _ (m.map vals) (r.map fun p => WV p.1 p.2) = _
  rw [List.zipWith_map]
  congr 1
  funext l p
  simp [vals]
section
variable {m : List (List (Bool × List Nat))} {r : List (Bool × List Nat)} {B k : Nat} {x : List Rat}
set_option maxHeartbeats 8000000 in
theorem rsol_calls (hA : r.length = m.length → Mx (augL m r) B) (hm : Mx m B) (hr : Rn r B) (hrl' : r.length ≤ 1000000) (hB : B ≤ 2000) {cn : Int} :
    PT Tryz.prog 17 [SM m, .val (.int .i64 cn), SW r] (isV (.tup [SF (mSol m cn r).1, .val (.bool (mSol m cn r).2.1), .val (.int .i64 (mSol m cn r).2.2)])) := by
  have hw := rwrong_calls (m := m) (cn := cn) (by have := hm.n; omega)
  unfold YtfjdfnlkobeehaaGreat.mSol
  by_cases hb : wrongM m cn = true
  · rw [hb] at hw
    rw [hb, Bool.true_or, if_pos rfl]
    refine PCalls.enter (n := 54) (rs := [.tmp 6, .tmp 7, .tmp 8]) (tb := []) Tryz.func17 rfl rfl rfl (by kernel_rfl) (by kernel_rfl) (by simp) fun c hc ht => ?_
    simp -implicitDefEqProofs (disch := omega) only [go_sem, ht]
    (refine pCall_vw (by refine ⟨⟨?_, ?_⟩, ?_, ?_⟩; rotate_left 2; (first | (right; rintro r rfl; rfl) | left); all_goals ((try simp -implicitDefEqProofs (disch := omega) only [go_sem, ht]) <;> rfl)) (hw) ?_; rintro _ nx - rfl hnx; simp -implicitDefEqProofs (disch := omega) only [go_sem, ht])
    (refine end_treeM 2 ?_; simp -implicitDefEqProofs (disch := omega) only [go_sem, ht, SF_def, FLc_nil])
  have hb' : wrongM m cn = false := by simpa using hb
  rw [hb'] at hw
  by_cases hrl : r.length = m.length
  · obtain ⟨n, rfl, hn, hml, hlc⟩ := wrongM_false hb'
    have hA := hA hrl
    have hac := aug_row hrl hlc
    have hal := augL_len hrl
    obtain ⟨h1, h2⟩ := hA.ez hac
    obtain ⟨hRE, _, _⟩ := echT_RE hA hac
    have hzz := hA.echZ hac
    have hrd := mread hm hlc hn hml
    have hall := all_z hr hrl'
    have htle := hA.tle hac
    have hred := reduce_z (K := B) (B := B) (R := (augL m r).map vals) (cols := n + 1) (fun z hz => by
      obtain ⟨l, hl, rfl⟩ := List.mem_map.1 hz
      exact ⟨(hA.rn hl).z, by rw [vals_len]; exact hac l hl⟩) (by omega) (by omega) (by simp; omega) (by simpa using h1) (by simpa using h2) (by omega)
    rw [← augW_L] at hred
    rw [hb', Bool.false_or, if_neg (by simp [hrl]), Int.toNat_natCast]
    rw [augW_L] at hred
    have hred2 : PT Tryz.prog 47 [SNM (augW (m.map vals) (vals r)), .val (.int .i64 (n + 1 : Nat))] (isV (.tup [SNM (echT ((augL m r).map vals) (n + 1)), .sl (echW ((augL m r).map vals) (n + 1)).2.length ((echW ((augL m r).map vals) (n + 1)).2.map I)])) := by rw [augW_L]; exact hred
    clear hred h1 h2
    generalize echT ((augL m r).map vals) (n + 1) = T at *
    generalize (echW ((augL m r).map vals) (n + 1)).2 = P at *
    have hTl := hRE.len
    have hTr : ∀ i, i < T.length → (T.getD i []).length = n + 1 ∧ ∀ y ∈ T.getD i [], Z (B + 1) y := fun i hi => ⟨hRE.row i hi, fun y hy => hzz _ (getD_mem hi) y hy⟩
    have hPg : ∀ k (hk : k < P.length), P.getD k 0 = P[k] := fun k hk => by simp [hk]
    have hpc : ∀ k, k < P.length → vc (T.getD k []) (P.getD k 0) ≠ 0 := fun k hk => by
      rw [hPg k hk]
      have := hRE.pos k hk
      omega
    have hxz := fun c => solL_zq (n := n) (K := B + 1) (by omega) (fun k hk => YtfjdfnlkobeehaaGreat.vc_z (hTr k (by omega)).2) hpc c P.length (Nat.le_refl _)
    have hxl := solL_len (T := T) (P := P) (n := n) P.length
    have hsv := fun xv bv hA hB => solved_z (xv := xv) (bv := bv) (k := B + 1) hred2 (fun z hz => by
      obtain ⟨l, hl, rfl⟩ := List.mem_map.1 hz
      rw [vals_len, hlc l hl]; omega) (by simp; omega) (by simp [vals_len, hrl]) (by omega) (by omega) hTl hTr hRE.col hpc (by omega) hA hB
    have hml2 : (m.map vals).length = m.length := by simp
    have hvl2 : (vals r).length = m.length := by rw [vals_len]; exact hrl
    simp only [SNM_def, SN_def, hml2, hvl2] at hsv hrd hall
    clear hred2 hRE hzz hTr hPg hpc
    by_cases hm' : n ∈ P
    · rw [if_pos hm']
      have hs := hsv (.sl 0 []) false (fun _ => ⟨rfl, rfl⟩) (fun h => absurd hm' h)
      clear hsv
      refine PCalls.enter (n := 54) (rs := [.tmp 6, .tmp 7, .tmp 8]) (tb := []) Tryz.func17 rfl rfl rfl (by kernel_rfl) (by kernel_rfl) (by simp) fun c hc ht => ?_
      simp -implicitDefEqProofs (disch := omega) only [go_sem, ht, hrl]
      ((refine pCall_vw (by refine ⟨⟨?_, ?_⟩, ?_, ?_⟩; rotate_left 2; (first | (right; rintro r rfl; rfl) | left); all_goals ((try simp -implicitDefEqProofs (disch := omega) only [hrl, go_sem, ht]) <;> rfl)) (hw) ?_; rintro _ nx_1 - rfl hnx_1; simp -implicitDefEqProofs (disch := omega) only [hrl, go_sem, ht]); (refine pCall_vw (by refine ⟨⟨?_, ?_⟩, ?_, ?_⟩; rotate_left 2; (first | (right; rintro r rfl; rfl) | left); all_goals ((try simp -implicitDefEqProofs (disch := omega) only [hrl, go_sem, ht]) <;> rfl)) (hrd) ?_; rintro _ nx_2 - rfl hnx_2; simp -implicitDefEqProofs (disch := omega) only [hrl, go_sem, ht]); (refine pCall_vw (by refine ⟨⟨?_, ?_⟩, ?_, ?_⟩; rotate_left 2; (first | (right; rintro r rfl; rfl) | left); all_goals ((try simp -implicitDefEqProofs (disch := omega) only [hrl, go_sem, ht]) <;> rfl)) (hall) ?_; rintro _ nx_3 - rfl hnx_3; simp -implicitDefEqProofs (disch := omega) only [hrl, go_sem, ht]); (refine pCall_vw (by refine ⟨⟨?_, ?_⟩, ?_, ?_⟩; rotate_left 2; (first | (right; rintro r rfl; rfl) | left); all_goals ((try simp -implicitDefEqProofs (disch := omega) only [hrl, go_sem, ht]) <;> rfl)) (hs) ?_; rintro _ nx_4 - rfl hnx_4; simp -implicitDefEqProofs (disch := omega) only [hrl, go_sem, ht]))
      refine LW.ghost (Gh.nilW 11 3 (by simp -implicitDefEqProofs (disch := omega) only [go_sem, ht])) ?_
      refine LW.loopW hc ht (by kernel_rfl) (fun t => t.sl 9 = .sl 0 [] ∧ t.sl 10 = .val (.bool false) ∧ t.sl 12 = .val (.int .i64 0) ∧ ∃ id, t.sl 11 = .ref id 0 0 0 3 ∧ t.H id = some []) (fun _ => 0) ?_ ?_
      · simp -implicitDefEqProofs (disch := omega) only [go_sem, ht]
        exact ⟨_, rfl, upd_self _ _ _⟩
      · rintro t ⟨h9, h10, h12, id, h11, hH⟩
        simp -implicitDefEqProofs (disch := omega) only [go_sem, ht, h9, h10, h11, h12]
        (refine end_treeM 2 ?_; simp -implicitDefEqProofs (disch := omega) only [go_sem, ht, h9, h10, h11, h12, hH, SF_def, FLc_nil])
    · rw [if_neg hm']
      have hs := hsv (.sl n (QC (solL T P n P.length))) true (fun h => absurd h hm') (fun _ => ⟨rfl, rfl⟩)
      clear hsv
      generalize solL T P n P.length = x at *
      refine PCalls.enter (n := 54) (rs := [.tmp 6, .tmp 7, .tmp 8]) (tb := []) Tryz.func17 rfl rfl rfl (by kernel_rfl) (by kernel_rfl) (by simp) fun c hc ht => ?_
      simp -implicitDefEqProofs (disch := omega) only [go_sem, ht, hrl]
      ((refine pCall_vw (by refine ⟨⟨?_, ?_⟩, ?_, ?_⟩; rotate_left 2; (first | (right; rintro r rfl; rfl) | left); all_goals ((try simp -implicitDefEqProofs (disch := omega) only [hrl, go_sem, ht]) <;> rfl)) (hw) ?_; rintro _ nx_5 - rfl hnx_5; simp -implicitDefEqProofs (disch := omega) only [hrl, go_sem, ht]); (refine pCall_vw (by refine ⟨⟨?_, ?_⟩, ?_, ?_⟩; rotate_left 2; (first | (right; rintro r rfl; rfl) | left); all_goals ((try simp -implicitDefEqProofs (disch := omega) only [hrl, go_sem, ht]) <;> rfl)) (hrd) ?_; rintro _ nx_6 - rfl hnx_6; simp -implicitDefEqProofs (disch := omega) only [hrl, go_sem, ht]); (refine pCall_vw (by refine ⟨⟨?_, ?_⟩, ?_, ?_⟩; rotate_left 2; (first | (right; rintro r rfl; rfl) | left); all_goals ((try simp -implicitDefEqProofs (disch := omega) only [hrl, go_sem, ht]) <;> rfl)) (hall) ?_; rintro _ nx_7 - rfl hnx_7; simp -implicitDefEqProofs (disch := omega) only [hrl, go_sem, ht]); (refine pCall_vw (by refine ⟨⟨?_, ?_⟩, ?_, ?_⟩; rotate_left 2; (first | (right; rintro r rfl; rfl) | left); all_goals ((try simp -implicitDefEqProofs (disch := omega) only [hrl, go_sem, ht]) <;> rfl)) (hs) ?_; rintro _ nx_8 - rfl hnx_8; simp -implicitDefEqProofs (disch := omega) only [hrl, go_sem, ht]))
      refine LW.ghost (Gh.nilW 11 3 (by simp -implicitDefEqProofs (disch := omega) only [go_sem, ht])) ?_
      refine LW.loopW hc ht (by kernel_rfl) (fun t => t.sl 9 = .sl n (QC x) ∧ t.sl 10 = .val (.bool true) ∧ ∃ i : Nat, i ≤ n ∧ t.sl 12 = .val (.int .i64 i) ∧ (∀ c, c < i → ¬ 32 < limQ (fv x c)) ∧ ∃ (id cap : Nat) (rest : List Value), t.sl 11 = .ref id 0 i cap 3 ∧ t.H id = some (FLc (x.take i) ++ rest.map .val) ∧ i * 3 + rest.length = cap * 3 ∧ id < t.nx)
        (fun t => match t.sl 12 with | .val (.int _ k) => n - k.toNat | _ => 0) ?_ ?_
      · simp -implicitDefEqProofs (disch := omega) only [go_sem, ht]
        exact ⟨0, Nat.zero_le _, rfl, fun c hc => by omega, _, 0, [], rfl, upd_self _ _ _, rfl, by omega⟩
      · rintro t ⟨h9, h10, i, hi, h12, hno, id, cap, rest, h11, hH, hcap, hid⟩
        by_cases hil : i = n
        · subst hil
          rw [if_neg (by rintro ⟨c, h1, h2⟩; exact hno c h1 h2)]
          rw [List.take_of_length_le (by omega)] at hH
          have hln := FLc_len x
          have htk : List.take (i * 3) (FLc x ++ rest.map .val) = FLc x := List.take_left' (by rw [hln, hxl])
          have hfl := YtfjdfnlkobeehaaGreat.frzL_flat (fun _ => true) t.H 0 (FLc_flat x)
          have hfl0 := FLc_flat x
          have hle : i * 3 ≤ (FLc x).length + rest.length := by omega
          simp -implicitDefEqProofs (disch := omega) only [go_sem, ht, h9, h10, h11, h12]
          (refine end_treeM 2 ?_; simp -implicitDefEqProofs (disch := omega) only [go_sem, ht, h9, h10, h11, h12, hH, htk, hfl, hfl0, hle, SF_def, hxl])
        · have hlt : i < n := by omega
          have hat := QC_at [] (qs := x) (c := i) (by omega)
          rw [List.append_nil] at hat
          have hlg := long_q (hxz i) (by omega)
          have htd := told_f (hxz i) (by omega)
          have hlq : max (YtfjdfnlkobeehaaGreat.D (fv x i).num.natAbs).length (YtfjdfnlkobeehaaGreat.D (fv x i).den).length = limQ (fv x i) := rfl
          rw [hlq, QZ_def] at hlg
          rw [QZ_def, FC_def] at htd
          have hqv : qv x i = fv x i := rfl
          rw [hqv] at hat
          have hex : 32 < limQ (fv x i) → ∃ c, c < n ∧ 32 < limQ (fv x c) := fun h => ⟨i, hlt, h⟩
          have hno2 : ¬ 32 < limQ (fv x i) → ∀ c, c < i + 1 → ¬ 32 < limQ (fv x c) := fun h c hc => by
            by_cases e : c = i
            · rw [e]; exact h
            · exact hno c (by omega)
          have hnxt := FLc_next (x := x) (i := i) (by omega)
          have hll : (FLc (x.take i)).length = i * 3 := by rw [FLc_len, List.length_take]; omega
          by_cases h32 : 32 < limQ (fv x i)
          · rw [if_pos (hex h32)]
            have h32i : (32 : Int) < (limQ (fv x i) : Nat) := by omega
            clear hno hno2 hex htd hlq hxz hqv hnxt
            generalize limQ (fv x i) = lq at *
            generalize fv x i = q at *
            simp -implicitDefEqProofs (disch := omega) only [go_sem, ht, h9, h10, h11, h12, hat]
            (refine pCall_vw (by refine ⟨⟨?_, ?_⟩, ?_, ?_⟩; rotate_left 2; (first | (right; rintro r rfl; rfl) | left); all_goals ((try simp -implicitDefEqProofs (disch := omega) only [h9, h10, h11, h12, hat, h32i, go_sem, ht]) <;> rfl)) (hlg) ?_; rintro _ nx - rfl hnx; simp -implicitDefEqProofs (disch := omega) only [h9, h10, h11, h12, hat, h32i, go_sem, ht])
            (refine end_treeM 2 ?_; simp -implicitDefEqProofs (disch := omega) only [go_sem, ht, SF_def, FLc_nil])
          · have hno3 := hno2 h32
            have h32i : ¬ (32 : Int) < (limQ (fv x i) : Nat) := by omega
            clear hno hno2 hex hlq hxz hqv
            generalize limQ (fv x i) = lq at *
            generalize fv x i = q at *
            simp -implicitDefEqProofs (disch := omega) only [go_sem, ht, h9, h10, h11, h12, hat]
            (refine pCall_vw (by refine ⟨⟨?_, ?_⟩, ?_, ?_⟩; rotate_left 2; (first | (right; rintro r rfl; rfl) | left); all_goals ((try simp -implicitDefEqProofs (disch := omega) only [h9, h10, h11, h12, hat, h32i, go_sem, ht]) <;> rfl)) (hlg) ?_; rintro _ nx - rfl hnx; simp -implicitDefEqProofs (disch := omega) only [h9, h10, h11, h12, hat, h32i, go_sem, ht])
            (refine pCall_vw (by refine ⟨⟨?_, ?_⟩, ?_, ?_⟩; rotate_left 2; (first | (right; rintro r rfl; rfl) | left); all_goals ((try simp -implicitDefEqProofs (disch := omega) only [h9, h10, h11, h12, hat, go_sem, ht]) <;> rfl)) (htd) ?_; rintro _ nx - rfl hnx; simp -implicitDefEqProofs (disch := omega) only [h9, h10, h11, h12, hat, go_sem, ht])
            have hne : id ≠ nx := by omega
            (refine append_ownSX (by refine ⟨?_, ?_, ?_, ?_, ?_, ?_, ?_, ?_⟩ <;> (simp -implicitDefEqProofs (disch := omega) only [srcP_ref, srcP_sl, srcP_nil, Option.isSome_some, hH, go_sem, ht] <;> rfl)) (by rfl) (by first | omega | (simp <;> omega)) (by first | assumption | (simp <;> omega)) (by first | rfl | simp) (by first | omega | (simp <;> omega)) ?_; intro id1 cap1 rest1 H1 nx1 hH1 hcap1 hid1 hnx1 hfr1 hfs1; simp only [put_nx, withH_nx, put_H, withH_H] at hid1 hnx1 hfr1 hfs1)
            rw [hnxt] at hH1
            simp -implicitDefEqProofs (disch := omega) only [go_sem, ht, h9, h10, h12]
            exact ⟨⟨i + 1, by omega, rfl, hno3, id1, cap1, rest1, rfl, hH1, by omega, by omega⟩, by omega⟩
  · rw [if_pos (by simp [hrl])]
    have hri : ¬ ((r.length : Nat) : Int) = (m.length : Nat) := by omega
    refine PCalls.enter (n := 54) (rs := [.tmp 6, .tmp 7, .tmp 8]) (tb := []) Tryz.func17 rfl rfl rfl (by kernel_rfl) (by kernel_rfl) (by simp) fun c hc ht => ?_
    simp -implicitDefEqProofs (disch := omega) only [go_sem, ht]
    (refine pCall_vw (by refine ⟨⟨?_, ?_⟩, ?_, ?_⟩; rotate_left 2; (first | (right; rintro r rfl; rfl) | left); all_goals ((try simp -implicitDefEqProofs (disch := omega) only [hrl, hri, go_sem, ht]) <;> rfl)) (hw) ?_; rintro _ nx - rfl hnx; simp -implicitDefEqProofs (disch := omega) only [hrl, hri, go_sem, ht])
    (refine end_treeM 2 ?_; simp -implicitDefEqProofs (disch := omega) only [go_sem, ht, SF_def, FLc_nil])
end
end Go.Proofs.YtfjdfnlkobeehaaGreat.Ref
end

section
set_option maxRecDepth 100000
set_option linter.unusedVariables false
set_option linter.unusedSimpArgs false
namespace Go.Proofs.YtfjdfnlkobeehaaGreat

theorem pCall_of {f : FuncId} {args args' : List PV} {st : PS} {K : PV → PS → Prop} {x : List Rat} (hv : args.map (view st.H) = args') (hfa : flatL args = true) (hf : flatL args' = true) (h : PCalls Tryz.prog f args' (fun _ => none) 0 (ofQ x))
    (hk : ∀ id H' n, OF H' st.nx n id x → (∀ j, j < st.nx → H' j = st.H j) → st.nx ≤ n → K (.tup [.ref id 0 x.length x.length 3, .val (.bool true), .val (.int .i64 0)]) (st.withH H' n)) : pCall Tryz.prog f args st K := by
  refine pCall_new hv hfa hf h ?_
  rintro _ H' nx' ⟨id, rfl, hM⟩
  have hS := hM.shift (H := st.H) (k := st.nx)
  rw [Nat.zero_add, Nat.add_comm nx'] at hS
  have e : YtfjdfnlkobeehaaGreat.shift st.nx (.tup [.ref id 0 x.length x.length 3, .val (.bool true), .val (.int .i64 0)]) = .tup [.ref (id + st.nx) 0 x.length x.length 3, .val (.bool true), .val (.int .i64 0)] := by simp [YtfjdfnlkobeehaaGreat.shift, shiftL]
  rw [e]
  exact hk _ _ _ hS (fun j hj => joinH_lt hj) (Nat.le_add_right _ _)
theorem frz_frac {H : Nat → Option (List PV)} {q : Rat} {a c ca cc : Nat} {r1 r2 : List Value} (h1 : H a = some ((D q.num.natAbs).map U ++ r1.map .val)) (h2 : H c = some ((D q.den).map U ++ r2.map .val)) :
    YtfjdfnlkobeehaaGreat.frz (fun _ => true) H 2 (.agg [.val (.bool (decide (q.num < 0))), .ref a 0 (D q.num.natAbs).length ca 1, .ref c 0 (D q.den).length cc 1]) = some (FC q) := by
  have hf1 := frzL_flat (fun _ => true) H 0 (flatL_U (D q.num.natAbs))
  have hf2 := frzL_flat (fun _ => true) H 0 (flatL_U (D q.den))
  have ht1 : (List.map U (D q.num.natAbs) ++ r1.map PV.val).take ((D q.num.natAbs).length * 1) = List.map U (D q.num.natAbs) := by rw [Nat.mul_one, List.take_left' (by simp)]
  have ht2 : (List.map U (D q.den) ++ r2.map PV.val).take ((D q.den).length * 1) = List.map U (D q.den) := by rw [Nat.mul_one, List.take_left' (by simp)]
  rw [frz_agg, mapMo_cons, mapMo_cons, mapMo_cons, mapMo_nil, frz_flat _ _ _ _ (show YtfjdfnlkobeehaaGreat.flat (.val (.bool (decide (q.num < 0)))) = true from rfl)]
  simp only [frz_ref, if_true, h1, h2, Option.bind_some, List.drop_zero, ht1, ht2, hf1, hf2, Option.map_some]
  rw [if_pos (by simp), if_pos (by simp)]
  simp only [Option.map_some, Option.bind_some]
  rw [FC_def]; rfl
section
variable {m : List (List (Bool × List Nat))} {r : List (Bool × List Nat)}
theorem mSol_cases (m : List (List (Bool × List Nat))) (cn : Int) (r : List (Bool × List Nat)) : (∃ n : Nat, cn = n ∧ n ≤ 32 ∧ m.length ≤ 64 ∧ wrongM m n = false ∧ r.length = m.length ∧ n ∉ (echW ((augL m r).map vals) (n + 1)).2 ∧
      (∀ c, c < n → ¬ 32 < limQ (fv (solL (echT ((augL m r).map vals) (n + 1)) (echW ((augL m r).map vals) (n + 1)).2 n (echW ((augL m r).map vals) (n + 1)).2.length) c)) ∧
      mSol m cn r = (solL (echT ((augL m r).map vals) (n + 1)) (echW ((augL m r).map vals) (n + 1)).2 n (echW ((augL m r).map vals) (n + 1)).2.length, true, 0)) ∨ ∃ e : Int, mSol m cn r = ([], false, e) ∧ 0 ≤ e ∧ e ≤ 2 := by
  unfold mSol
  by_cases hw : wrongM m cn = true
  · rw [hw, Bool.true_or, if_pos rfl]
    exact .inr ⟨1, rfl, by omega, by omega⟩
  have hw' : wrongM m cn = false := by simpa using hw
  by_cases hrl : r.length = m.length
  · obtain ⟨n, rfl, hn, hml, hlc⟩ := wrongM_false hw'
    rw [hw', Bool.false_or, if_neg (by simp [hrl]), Int.toNat_natCast]
    by_cases hP : n ∈ (echW ((augL m r).map vals) (n + 1)).2
    · rw [if_pos hP]
      exact .inr ⟨0, rfl, by omega, by omega⟩
    rw [if_neg hP]
    by_cases hc : ∃ c, c < n ∧ 32 < limQ (fv (solL (echT ((augL m r).map vals) (n + 1)) (echW ((augL m r).map vals) (n + 1)).2 n (echW ((augL m r).map vals) (n + 1)).2.length) c)
    · rw [if_pos hc]
      exact .inr ⟨2, rfl, by omega, by omega⟩
    · rw [if_neg hc]
      exact .inl ⟨n, rfl, hn, hml, hw', hrl, hP, fun c h1 h2 => hc ⟨c, h1, h2⟩, rfl⟩
  · rw [if_pos (by simp [hrl])]
    exact .inr ⟨1, rfl, by omega, by omega⟩
set_option maxHeartbeats 16000000 in
theorem solves_law {cn : Int} (hm : ∀ l ∈ m, ∀ p ∈ l, Lm p.2) (hb : lenM m + 1 ≤ 1048576) (lo : -9223372036854775808 ≤ cn) (hi : cn ≤ 9223372036854775807) (hv : ∀ p ∈ r, Lm p.2) (hvb : lenW r + 1 ≤ 1048576) :
    PT Tryz.prog 4 [SM m, .val (.int .i64 cn), SW r] (isV (.val (.bool true))) := by
  have hlr := len_rows (m := m) (by omega)
  have hlw := len_wholes (l := r) (by omega)
  have hml := lenM_len m
  have hvl := lenW_len r
  by_cases hl : 1500 < lenM m + lenW r
  · refine PCalls.enter (n := 105) (rs := [.tmp 6]) (tb := [(13, [(0, []), (1, []), (2, []), (3, []), (4, []), (5, []), (6, []), (7, []), (8, []), (9, [])])]) Tryz.func4 rfl rfl rfl (by kernel_rfl) (by kernel_rfl) (by simp) fun c hc ht => ?_
    simp -implicitDefEqProofs (disch := omega) only [go_sem, ht]
    ((refine pCall_vw (by refine ⟨⟨?_, ?_⟩, ?_, ?_⟩; rotate_left 2; (first | (right; rintro r rfl; rfl) | left); all_goals ((try simp -implicitDefEqProofs (disch := omega) only [go_sem, ht]) <;> rfl)) (awake_matrix) ?_; rintro _ nx_1 - rfl hnx_1; simp -implicitDefEqProofs (disch := omega) only [go_sem, ht]); (refine pCall_vw (by refine ⟨⟨?_, ?_⟩, ?_, ?_⟩; rotate_left 2; (first | (right; rintro r rfl; rfl) | left); all_goals ((try simp -implicitDefEqProofs (disch := omega) only [go_sem, ht]) <;> rfl)) (hlr) ?_; rintro _ nx_2 - rfl hnx_2; simp -implicitDefEqProofs (disch := omega) only [go_sem, ht]); (refine pCall_vw (by refine ⟨⟨?_, ?_⟩, ?_, ?_⟩; rotate_left 2; (first | (right; rintro r rfl; rfl) | left); all_goals ((try simp -implicitDefEqProofs (disch := omega) only [go_sem, ht]) <;> rfl)) (hlw) ?_; rintro _ nx_3 - rfl hnx_3; simp -implicitDefEqProofs (disch := omega) only [go_sem, ht]))
    (refine end_treeW 0 ?_; simp -implicitDefEqProofs (disch := omega) only [go_sem, ht])
  have hMx : Mx m 1500 := ⟨hm, by omega, by omega⟩
  have hvR : Rn r 1500 := ⟨fun p hp => ⟨hv p hp, by have := lenW_mem hp; omega⟩, by omega⟩
  have hA : r.length = m.length → Mx (augL m r) 1500 := fun h => aug_mx hMx hvR h (by omega)
  have hmo : ∀ l ∈ m, (∀ p ∈ l, Ok p.2) ∧ l.length ≤ 1000000 := fun l hl => ⟨fun p hp => by have := (hMx.rn hl).ok p hp; exact ⟨this.1, by omega⟩, by have := lenM_mem hl; have := lenW_len l; omega⟩
  have hro : ∀ p ∈ r, Ok p.2 := fun p hp => by have := hvR.ok p hp; exact ⟨this.1, by omega⟩
  have hcr := copy_rows hmo (by omega)
  have hcw := copy_wholes hro (by omega)
  have hsm := same_rows hmo (fun l hl => (hmo l hl).1) (by omega)
  rw [decide_eq_true rfl] at hsm
  have hsw := same_wholes hro hro (by omega)
  rw [decide_eq_true rfl] at hsw
  have hre := Ref.rsol_calls (cn := cn) hA hMx hvR (by omega) (by omega)
  rcases mSol_cases m cn r with ⟨n, rfl, hn, hmn, hw, hrl, hnP, h32, he⟩ | ⟨e, he, he0, he2⟩
  · have hme := solve_L hA hm (by omega) hw hrl hnP h32
    rw [he] at hre
    have hlc : ∀ l ∈ m, l.length = n := by
      obtain ⟨n', en, _, _, hlc⟩ := wrongM_false hw
      obtain rfl : n = n' := by omega
      exact hlc
    obtain ⟨hRE, _, _⟩ := echT_RE (hA hrl) (aug_row hrl hlc)
    have hzz := (hA hrl).echZ (aug_row hrl hlc)
    have hxl := solL_len (T := echT ((augL m r).map vals) (n + 1)) (P := (echW ((augL m r).map vals) (n + 1)).2) (n := n) (echW ((augL m r).map vals) (n + 1)).2.length
    have hxz := fun c => solL_zq (n := n) (K := 1501) (by omega) (fun k hk => vc_z (hzz _ (getD_mem (by rw [hRE.len]; exact hk)))) (fun k hk => by have := hRE.pivD hk; omega) c (echW ((augL m r).map vals) (n + 1)).2.length (Nat.le_refl _)
    clear hzz hRE h32 hnP he
    generalize solL (echT ((augL m r).map vals) (n + 1)) (echW ((augL m r).map vals) (n + 1)).2 n (echW ((augL m r).map vals) (n + 1)).2.length = x at *
    have hn0 := Ref.num_calls (s := 0) (by omega) (by omega)
    have hst := fun c => same_rt (hxz c) (by omega) rfl
    simp only [SF_def, hxl] at hre
    refine PCalls.enter (n := 105) (rs := [.tmp 6]) (tb := [(13, [(0, []), (1, []), (2, []), (3, []), (4, []), (5, []), (6, []), (7, []), (8, []), (9, [])])]) Tryz.func4 rfl rfl rfl (by kernel_rfl) (by kernel_rfl) (by simp) fun c hc ht => ?_
    simp -implicitDefEqProofs (disch := omega) only [go_sem, ht]
    ((refine pCall_vw (by refine ⟨⟨?_, ?_⟩, ?_, ?_⟩; rotate_left 2; (first | (right; rintro r rfl; rfl) | left); all_goals ((try simp -implicitDefEqProofs (disch := omega) only [go_sem, ht]) <;> rfl)) (awake_matrix) ?_; rintro _ nx_4 - rfl hnx_4; simp -implicitDefEqProofs (disch := omega) only [go_sem, ht]); (refine pCall_vw (by refine ⟨⟨?_, ?_⟩, ?_, ?_⟩; rotate_left 2; (first | (right; rintro r rfl; rfl) | left); all_goals ((try simp -implicitDefEqProofs (disch := omega) only [go_sem, ht]) <;> rfl)) (hlr) ?_; rintro _ nx_5 - rfl hnx_5; simp -implicitDefEqProofs (disch := omega) only [go_sem, ht]); (refine pCall_vw (by refine ⟨⟨?_, ?_⟩, ?_, ?_⟩; rotate_left 2; (first | (right; rintro r rfl; rfl) | left); all_goals ((try simp -implicitDefEqProofs (disch := omega) only [go_sem, ht]) <;> rfl)) (hlw) ?_; rintro _ nx_6 - rfl hnx_6; simp -implicitDefEqProofs (disch := omega) only [go_sem, ht]); (refine pCall_vw (by refine ⟨⟨?_, ?_⟩, ?_, ?_⟩; rotate_left 2; (first | (right; rintro r rfl; rfl) | left); all_goals ((try simp -implicitDefEqProofs (disch := omega) only [go_sem, ht]) <;> rfl)) (hcr) ?_; rintro _ nx_7 - rfl hnx_7; simp -implicitDefEqProofs (disch := omega) only [go_sem, ht]); (refine pCall_vw (by refine ⟨⟨?_, ?_⟩, ?_, ?_⟩; rotate_left 2; (first | (right; rintro r rfl; rfl) | left); all_goals ((try simp -implicitDefEqProofs (disch := omega) only [go_sem, ht]) <;> rfl)) (hcw) ?_; rintro _ nx_8 - rfl hnx_8; simp -implicitDefEqProofs (disch := omega) only [go_sem, ht]))
    refine pCall_of (by simp -implicitDefEqProofs (disch := omega) only [go_sem, ht] <;> rfl) (by simp -implicitDefEqProofs (disch := omega) only [go_sem, ht]) (by simp -implicitDefEqProofs (disch := omega) only [go_sem, ht]) hme ?_
    rintro id H1 n1 hO hfr hn1
    simp only [put_nx, withH_nx, put_H, withH_H] at hO hfr hn1
    simp -implicitDefEqProofs (disch := omega) only [go_sem, ht, hxl]
    ((refine pCall_vw (by refine ⟨⟨?_, ?_⟩, ?_, ?_⟩; rotate_left 2; (first | (right; rintro r rfl; rfl) | left); all_goals ((try simp -implicitDefEqProofs (disch := omega) only [hxl, go_sem, ht]) <;> rfl)) (hre) ?_; rintro _ nx_9 - rfl hnx_9; simp -implicitDefEqProofs (disch := omega) only [hxl, go_sem, ht]))
    obtain ⟨i1, c1, i2, c2, hOH, hOl, hOb, hF⟩ := hO
    rw [hxl] at hOH hF
    generalize nx_9 = idb at *
    refine LW.loopW hc ht (by kernel_rfl) (fun t => t.sl 0 = .sl m.length (m.map SW) ∧ t.sl 2 = .sl r.length (SWc r) ∧ t.sl 7 = .sl m.length (m.map SW) ∧ t.sl 8 = .sl r.length (SWc r) ∧ t.sl 9 = .ref id 0 n n 3 ∧ t.sl 10 = .val (.bool true) ∧ t.sl 11 = .val (.int .i64 0) ∧ t.sl 12 = .sl n (FLc x) ∧ t.sl 13 = .val (.bool true) ∧ t.sl 14 = .val (.int .i64 0) ∧ t.sl 15 = .ptr idb 0 ∧
        ∃ i : Nat, i ≤ n ∧ t.sl 16 = .val (.int .i64 i) ∧ n1 ≤ t.nx ∧ ∃ es B, BK t.H t.nx idb es B ∧ es.length = 2 * i ∧ (∀ j, B j → j < n1 → ∃ k, k < i ∧ (j = i1 k ∨ j = i2 k)) ∧ ∀ j, j < n1 → (∀ k, k < i → j ≠ i1 k ∧ j ≠ i2 k) → t.H j = H1 j)
      (fun t => match t.sl 16 with | .val (.int _ k) => n - k.toNat | _ => 0) ?_ ?_
    · simp -implicitDefEqProofs (disch := omega) only [go_sem, ht]
      exact ⟨0, Nat.zero_le _, rfl, by omega, [], (fun j => j = idb), BK.start (upd_self _ _ _) (by omega), rfl, fun j hj hjn => by omega, fun j hj _ => upd_ne _ _ (by omega)⟩
    · rintro t ⟨h0, h2, h7, h8, h9, h10, h11, h12, h13, h14, h15, i, hi', h16, hnt, es, B, hB, hes, hBl, hfr2⟩
      by_cases hil : i = n
      · subst hil
        simp -implicitDefEqProofs (disch := omega) only [go_sem, ht, h0, h2, h7, h8, h9, h10, h11, h12, h13, h14, h15, h16]
        ((refine pCall_vw (by refine ⟨⟨?_, ?_⟩, ?_, ?_⟩; rotate_left 2; (first | (right; rintro r rfl; rfl) | left); all_goals ((try simp -implicitDefEqProofs (disch := omega) only [h0, h2, h7, h8, h9, h10, h11, h12, h13, h14, h15, h16, go_sem, ht]) <;> rfl)) (hn0) ?_; rintro _ nx_10 - rfl hnx_10; simp -implicitDefEqProofs (disch := omega) only [h0, h2, h7, h8, h9, h10, h11, h12, h13, h14, h15, h16, go_sem, ht]); (refine pCall_vw (by refine ⟨⟨?_, ?_⟩, ?_, ?_⟩; rotate_left 2; (first | (right; rintro r rfl; rfl) | left); all_goals ((try simp -implicitDefEqProofs (disch := omega) only [h0, h2, h7, h8, h9, h10, h11, h12, h13, h14, h15, h16, go_sem, ht]) <;> rfl)) (hsm) ?_; rintro _ nx_11 - rfl hnx_11; simp -implicitDefEqProofs (disch := omega) only [h0, h2, h7, h8, h9, h10, h11, h12, h13, h14, h15, h16, go_sem, ht]); (refine pCall_vw (by refine ⟨⟨?_, ?_⟩, ?_, ?_⟩; rotate_left 2; (first | (right; rintro r rfl; rfl) | left); all_goals ((try simp -implicitDefEqProofs (disch := omega) only [h0, h2, h7, h8, h9, h10, h11, h12, h13, h14, h15, h16, go_sem, ht]) <;> rfl)) (hsw) ?_; rintro _ nx_12 - rfl hnx_12; simp -implicitDefEqProofs (disch := omega) only [h0, h2, h7, h8, h9, h10, h11, h12, h13, h14, h15, h16, go_sem, ht]))
        apply pCall_mem
        exact done_calls (es := es) (B := B) (hB.mono (by simp -implicitDefEqProofs (disch := omega) only [go_sem, ht]; omega) (fun j hj => rfl)) (by omega)
        rintro _ _ _ ⟨rfl, rfl, rfl⟩ -
        simp -implicitDefEqProofs (disch := omega) only [go_sem, ht, h0, h2, h7, h8, h9, h10, h11, h12, h13, h14, h15, h16]
        (refine end_treeW 0 ?_; simp -implicitDefEqProofs (disch := omega) only [go_sem, ht])
      · have hlt : i < n := by omega
        obtain ⟨a1, a2, a3, a4, a5, a6⟩ := hF.lt i hlt
        have hne := fun k (hk : k < i) => hF.ne i k hlt (by omega)
        have hne' := fun k (hk : k < i) => hF.ne k i (by omega) hlt
        have hid : t.H id = some (FOc (fv x) i1 c1 i2 c2 n) := by
          rw [hfr2 id hOb fun k hk => ⟨fun e => (hF.lt k (by omega)).2.2.1 e.symm, fun e => (hF.lt k (by omega)).2.2.2.2.2 e.symm⟩]; exact hOH
        obtain ⟨r1, hr1, k1⟩ := hF.l1 i hlt
        obtain ⟨r2, hr2, k2⟩ := hF.l2 i hlt
        rw [← hfr2 (i1 i) a2 fun k hk => ⟨fun e => by have := (hne k hk).1 e; omega, fun e => (hne k hk).2.2 e⟩] at hr1
        rw [← hfr2 (i2 i) a5 fun k hk => ⟨fun e => (hne' k hk).2.2 e.symm, fun e => by have := (hne k hk).2.1 e; omega⟩] at hr2
        have nb1 : ¬ B (i1 i) := fun h => by
          obtain ⟨k, hk, e | e⟩ := hBl _ h a2
          · have := (hne k hk).1 e; omega
          · exact (hne k hk).2.2 e
        have nb2 : ¬ B (i2 i) := fun h => by
          obtain ⟨k, hk, e | e⟩ := hBl _ h a5
          · exact (hne' k hk).2.2 e.symm
          · have := (hne k hk).2.1 e; omega
        have hn12 : i2 i ≠ i1 i := fun e => (hF.ne i i hlt hlt).2.2 e.symm
        obtain ⟨r', hat⟩ := FOc_at (z := fv x) (i1 := i1) (c1 := c1) (i2 := i2) (c2 := c2) [] hlt
        rw [List.append_nil] at hat
        have hat2 := FLc_at (qs := x) [] (c := i) (by omega)
        rw [List.append_nil, List.append_nil] at hat2
        have hln : (FOc (fv x) i1 c1 i2 c2 n).length = n * 3 := FOc_len _ _ _ _ _ _
        have hln2 : (FLc x).length = n * 3 := by rw [FLc_len, hxl]
        have hsti := hst i
        clear hst
        generalize fv x i = q at *
        have hbw : ∀ nx, PCalls Tryz.prog 18 [.agg [.val (.bool (decide (q.num < 0))), .ref (i1 i) 0 (D q.num.natAbs).length (c1 i) 1, .ref (i2 i) 0 (D q.den).length (c2 i) 1], .agg [.val (.bool (decide (q.num < 0))), .sl (D q.num.natAbs).length ((D q.num.natAbs).map U), .sl (D q.den).length ((D q.den).map U)]] t.H nx (memQ (.val (.bool true)) t.H nx) := fun nx =>
          PCalls.borrow (d := 2) (args' := [FC q, FC q]) (by rw [mapMo_cons, frz_frac hr1 hr2, mapMo_cons, frz_flat _ _ _ _ (by simp [YtfjdfnlkobeehaaGreat.flat, flatL, flatL_U])]; rfl) (by rw [FC_def]; simp [flatL, YtfjdfnlkobeehaaGreat.flat, SU_def, flatL_U]) hsti
        simp -implicitDefEqProofs (disch := omega) only [go_sem, ht, h0, h2, h7, h8, h9, h10, h11, h12, h13, h14, h15, h16, hid, hat, hat2, hln, hln2]
        apply pCall_mem
        exact hbw _
        rintro _ _ _ ⟨rfl, rfl, rfl⟩ -
        simp -implicitDefEqProofs (disch := omega) only [go_sem, ht, h0, h2, h7, h8, h9, h10, h11, h12, h13, h14, h15, h16, hid, hat, hat2, hln, hln2]
        apply pCall_mem
        exact ownratio_L (es := es) (B := B) (n := (D q.num.natAbs).length) (n2 := (D q.den).length) (hB.mono (by simp -implicitDefEqProofs (disch := omega) only [go_sem, ht]; omega) (fun j hj => rfl)) (by omega) nb1 (by simp -implicitDefEqProofs (disch := omega) only [go_sem, ht]; omega) hr1 nb2 (by simp -implicitDefEqProofs (disch := omega) only [go_sem, ht]; omega) hr2 hn12 (by simp; omega) (by omega) (by simp; omega) (by omega)
        rintro _ H6 n6 ⟨rfl, es6, B6, hB6, hl6, hb6, hF6⟩ hn6
        (try simp only [put_nx, withH_nx, put_H, withH_H] at hn6)
        (try simp only [put_nx, withH_nx, put_H, withH_H] at hF6)
        (try simp only [put_nx, withH_nx, put_H, withH_H] at hb6)
        simp -implicitDefEqProofs (disch := omega) only [go_sem, ht, h0, h2, h7, h8, h9, h10, h11, h12, h13, h14, h15, h16]
        refine ⟨⟨i + 1, by omega, rfl, by omega, es6, B6, hB6, by omega, fun j hj hjn => ?_, fun j hj hk => ?_⟩, by omega⟩
        · rcases hb6 j hj with h | h | h | h
          · obtain ⟨k, hk, e⟩ := hBl j h hjn
            exact ⟨k, by omega, e⟩
          · exact ⟨i, by omega, .inl h⟩
          · exact ⟨i, by omega, .inr h⟩
          · omega
        · rw [hF6 j (fun h => by obtain ⟨k, hk', e⟩ := hBl j h hj; have := hk k (by omega); rcases e with e | e; exact this.1 e; exact this.2 e) (hk i (by omega)).1 (hk i (by omega)).2 (by omega)]
          exact hfr2 j hj fun k hk' => hk k (by omega)
  · have hme := solve_calls (cn := cn) hA hm (by omega)
    have hn0 := Ref.num_calls (s := e) (by omega) (by omega)
    rw [he] at hre hme
    have e0 : SF [] = .sl 0 [] := rfl
    simp only [e0] at hre hme
    refine PCalls.enter (n := 105) (rs := [.tmp 6]) (tb := [(13, [(0, []), (1, []), (2, []), (3, []), (4, []), (5, []), (6, []), (7, []), (8, []), (9, [])])]) Tryz.func4 rfl rfl rfl (by kernel_rfl) (by kernel_rfl) (by simp) fun c hc ht => ?_
    simp -implicitDefEqProofs (disch := omega) only [go_sem, ht]
    ((refine pCall_vw (by refine ⟨⟨?_, ?_⟩, ?_, ?_⟩; rotate_left 2; (first | (right; rintro r rfl; rfl) | left); all_goals ((try simp -implicitDefEqProofs (disch := omega) only [go_sem, ht]) <;> rfl)) (awake_matrix) ?_; rintro _ nx_13 - rfl hnx_13; simp -implicitDefEqProofs (disch := omega) only [go_sem, ht]); (refine pCall_vw (by refine ⟨⟨?_, ?_⟩, ?_, ?_⟩; rotate_left 2; (first | (right; rintro r rfl; rfl) | left); all_goals ((try simp -implicitDefEqProofs (disch := omega) only [go_sem, ht]) <;> rfl)) (hlr) ?_; rintro _ nx_14 - rfl hnx_14; simp -implicitDefEqProofs (disch := omega) only [go_sem, ht]); (refine pCall_vw (by refine ⟨⟨?_, ?_⟩, ?_, ?_⟩; rotate_left 2; (first | (right; rintro r rfl; rfl) | left); all_goals ((try simp -implicitDefEqProofs (disch := omega) only [go_sem, ht]) <;> rfl)) (hlw) ?_; rintro _ nx_15 - rfl hnx_15; simp -implicitDefEqProofs (disch := omega) only [go_sem, ht]); (refine pCall_vw (by refine ⟨⟨?_, ?_⟩, ?_, ?_⟩; rotate_left 2; (first | (right; rintro r rfl; rfl) | left); all_goals ((try simp -implicitDefEqProofs (disch := omega) only [go_sem, ht]) <;> rfl)) (hcr) ?_; rintro _ nx_16 - rfl hnx_16; simp -implicitDefEqProofs (disch := omega) only [go_sem, ht]); (refine pCall_vw (by refine ⟨⟨?_, ?_⟩, ?_, ?_⟩; rotate_left 2; (first | (right; rintro r rfl; rfl) | left); all_goals ((try simp -implicitDefEqProofs (disch := omega) only [go_sem, ht]) <;> rfl)) (hcw) ?_; rintro _ nx_17 - rfl hnx_17; simp -implicitDefEqProofs (disch := omega) only [go_sem, ht]); (refine pCall_vw (by refine ⟨⟨?_, ?_⟩, ?_, ?_⟩; rotate_left 2; (first | (right; rintro r rfl; rfl) | left); all_goals ((try simp -implicitDefEqProofs (disch := omega) only [go_sem, ht]) <;> rfl)) (hme) ?_; rintro _ nx_18 - rfl hnx_18; simp -implicitDefEqProofs (disch := omega) only [go_sem, ht]); (refine pCall_vw (by refine ⟨⟨?_, ?_⟩, ?_, ?_⟩; rotate_left 2; (first | (right; rintro r rfl; rfl) | left); all_goals ((try simp -implicitDefEqProofs (disch := omega) only [go_sem, ht]) <;> rfl)) (hre) ?_; rintro _ nx_19 - rfl hnx_19; simp -implicitDefEqProofs (disch := omega) only [go_sem, ht]))
    generalize nx_19 = idb at *
    refine LW.loopW hc ht (by kernel_rfl) (fun t => t.sl 0 = .sl m.length (m.map SW) ∧ t.sl 2 = .sl r.length (SWc r) ∧ t.sl 7 = .sl m.length (m.map SW) ∧ t.sl 8 = .sl r.length (SWc r) ∧ t.sl 9 = .sl 0 [] ∧ t.sl 10 = .val (.bool false) ∧ t.sl 11 = .val (.int .i64 e) ∧ t.sl 12 = .sl 0 [] ∧ t.sl 13 = .val (.bool false) ∧ t.sl 14 = .val (.int .i64 e) ∧ t.sl 15 = .ptr idb 0 ∧ t.sl 16 = .val (.int .i64 0) ∧ ∃ B, BK t.H t.nx idb [] B)
      (fun _ => 0) ?_ ?_
    · simp -implicitDefEqProofs (disch := omega) only [go_sem, ht]
      exact ⟨(fun j => j = idb), BK.start (by simp -implicitDefEqProofs (disch := omega) only [go_sem, ht]) (by omega)⟩
    · rintro t ⟨h0, h2, h7, h8, h9, h10, h11, h12, h13, h14, h15, h16, B, hB⟩
      simp -implicitDefEqProofs (disch := omega) only [go_sem, ht, h0, h2, h7, h8, h9, h10, h11, h12, h13, h14, h15, h16]
      ((refine pCall_vw (by refine ⟨⟨?_, ?_⟩, ?_, ?_⟩; rotate_left 2; (first | (right; rintro r rfl; rfl) | left); all_goals ((try simp -implicitDefEqProofs (disch := omega) only [h0, h2, h7, h8, h9, h10, h11, h12, h13, h14, h15, h16, go_sem, ht]) <;> rfl)) (hn0) ?_; rintro _ nx_20 - rfl hnx_20; simp -implicitDefEqProofs (disch := omega) only [h0, h2, h7, h8, h9, h10, h11, h12, h13, h14, h15, h16, go_sem, ht]); (refine pCall_vw (by refine ⟨⟨?_, ?_⟩, ?_, ?_⟩; rotate_left 2; (first | (right; rintro r rfl; rfl) | left); all_goals ((try simp -implicitDefEqProofs (disch := omega) only [h0, h2, h7, h8, h9, h10, h11, h12, h13, h14, h15, h16, go_sem, ht]) <;> rfl)) (hsm) ?_; rintro _ nx_21 - rfl hnx_21; simp -implicitDefEqProofs (disch := omega) only [h0, h2, h7, h8, h9, h10, h11, h12, h13, h14, h15, h16, go_sem, ht]); (refine pCall_vw (by refine ⟨⟨?_, ?_⟩, ?_, ?_⟩; rotate_left 2; (first | (right; rintro r rfl; rfl) | left); all_goals ((try simp -implicitDefEqProofs (disch := omega) only [h0, h2, h7, h8, h9, h10, h11, h12, h13, h14, h15, h16, go_sem, ht]) <;> rfl)) (hsw) ?_; rintro _ nx_22 - rfl hnx_22; simp -implicitDefEqProofs (disch := omega) only [h0, h2, h7, h8, h9, h10, h11, h12, h13, h14, h15, h16, go_sem, ht]))
      apply pCall_mem
      exact done_calls (es := []) (B := B) (hB.mono (by simp -implicitDefEqProofs (disch := omega) only [go_sem, ht]; omega) (fun j hj => rfl)) (by simp)
      rintro _ _ _ ⟨rfl, rfl, rfl⟩ -
      simp -implicitDefEqProofs (disch := omega) only [go_sem, ht, h0, h2, h7, h8, h9, h10, h11, h12, h13, h14, h15, h16]
      (refine end_treeW 0 ?_; simp -implicitDefEqProofs (disch := omega) only [go_sem, ht])
end
end Go.Proofs.YtfjdfnlkobeehaaGreat
open Go.ChangeShapes Go.WideShapes Go.ChangeAt Go.RowKit
namespace Go.Proofs.YtfjdfnlkobeehaaGreat
end Go.Proofs.YtfjdfnlkobeehaaGreat
end
