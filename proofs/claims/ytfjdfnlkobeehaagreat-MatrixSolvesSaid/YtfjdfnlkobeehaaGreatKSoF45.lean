/- Part 45 of the way to the statement: the walk and what it needs. -/
import Derived.Test.YtfjdfnlkobeehaaGreatKSoF41
import Derived.Test.YtfjdfnlkobeehaaGreatKSoF42
import Derived.Test.YtfjdfnlkobeehaaGreatKSoF43
import Derived.Test.YtfjdfnlkobeehaaGreatKSoF44
section
set_option maxRecDepth 100000
set_option linter.unusedVariables false
set_option linter.unusedSimpArgs false
namespace Go.Proofs.YtfjdfnlkobeehaaGreat

theorem shiftL_U (k : Nat) (xs : List Nat) : shiftL k (xs.map U) = xs.map U := shiftL_flat _ _ (flatL_U _)
end Go.Proofs.YtfjdfnlkobeehaaGreat
end

section
set_option maxRecDepth 100000
set_option linter.unusedVariables false
set_option linter.unusedSimpArgs false
namespace Go.Proofs.YtfjdfnlkobeehaaGreat
section
variable {b d : Bool} {xs ds ys es : List Nat} {q p : Rat} {k m : Nat} {x y : Int}
theorem rfrom0F : PF 34 [.agg [.val (.bool false), .sl 0 []]] 0 := by
  have h := lowestF (Wn.raw (b := false) (xs := []) (k := 1) (by intro x hx; simp at hx) (by simp) (by omega)) (ds := [1]) (Ok.one (by omega)) (e := 1) (by simp [V])
  rw [show WV false [] = 0 from rfl, show mkRat 0 1 = 0 from rfl] at h
  have hone := PLtree one_calls
  generalize (0 : Rat) = q at *
  rw [PF.def]
  refine PCalls.enter (n := 6) (rs := [.cell 2 52]) (tb := [(1, [(0, []), (1, [0]), (2, []), (3, [])])]) Tryz.func34 rfl rfl rfl (by kernel_rfl) (by kernel_rfl) (by simp) fun c hc ht => ?_
  simp -implicitDefEqProofs (disch := omega) only [go_sem, ht]
  ((refine pCall_vw (by refine ⟨⟨?_, ?_⟩, ?_, ?_⟩; rotate_left 2; (first | (right; rintro r rfl; rfl) | left); all_goals ((try simp -implicitDefEqProofs (disch := omega) only [go_sem, ht]) <;> rfl)) (hone) ?_; rintro _ nx_1 - rfl hnx_1; simp -implicitDefEqProofs (disch := omega) only [go_sem, ht]))
  (refine pCall_own2 (mk := mkF q) (mk_F q) (by simp -implicitDefEqProofs (disch := omega) only [go_sem, ht] <;> rfl) (by simp -implicitDefEqProofs (disch := omega) only [go_sem, ht]) (closedL_U _) (flatL_U _) (closedL_U _) (flatL_U _) (h) ?_; intro id1 cap1 rest1 jd1 dap1 sest1 nx1 hid1 hnx1 hjd1 hmx1 hne1 hcap1 hdap1; simp only [put_nx, withH_nx, begP_nx, List.length_map] at hid1 hjd1 hcap1 hdap1; simp -implicitDefEqProofs (disch := omega) only [go_sem, ht])
  exact end_own2 (mk := mkF q) (by simp -implicitDefEqProofs (disch := omega) only [go_sem, ht] <;> rfl) (by omega) (by simp -implicitDefEqProofs (disch := omega) only [go_sem, ht] <;> rfl) (by simp -implicitDefEqProofs (disch := omega) only [go_sem, ht] <;> rfl) (by simp <;> omega) (by simp <;> omega) (by simp <;> omega) (by simp <;> omega)
theorem rofF (h : Wn b xs x k) (g : Wn d ys y m) (hy : y ≠ 0) : PO2 Tryz.prog 35 [WX b xs, WX d ys] (mkFE (Rat.divInt x y) 0) ((D (Rat.divInt x y).num.natAbs).map U) ((D (Rat.divInt x y).den).map U) := by
  have hs := signW g
  have hs0 : cZ y 0 ≠ 0 := by unfold cZ; split <;> (try split) <;> omega
  have hd := sg_flag g.val hy
  have e := rat_over (x := x) hy
  have hn := negW h
  have l1 := lowestF (Wn.C h.z.neg h.hk) g.ok g.abs
  have l2 := lowestF h g.ok g.abs
  generalize cZ y 0 = c0 at *
  generalize Rat.divInt x y = r at *
  by_cases hneg : y < 0
  · rw [decide_eq_true hneg] at hd
    subst hd
    rw [if_pos hneg] at e
    rw [e] at l1
    clear l2
    refine PCalls.enter (n := 18) (rs := [.cell 4 52, .tmp 5]) (tb := []) Tryz.func35 rfl rfl rfl (by kernel_rfl) (by kernel_rfl) (by simp) fun c hc ht => ?_
    simp -implicitDefEqProofs (disch := omega) only [go_sem, ht]
    ((refine pCall_vw (by refine ⟨⟨?_, ?_⟩, ?_, ?_⟩; rotate_left 2; (first | (right; rintro r rfl; rfl) | left); all_goals ((try simp -implicitDefEqProofs (disch := omega) only [go_sem, ht]) <;> rfl)) (hs) ?_; rintro _ nx_2 - rfl hnx_2; simp -implicitDefEqProofs (disch := omega) only [go_sem, ht]); (refine pCall_vw (by refine ⟨⟨?_, ?_⟩, ?_, ?_⟩; rotate_left 2; (first | (right; rintro r rfl; rfl) | left); all_goals ((try simp -implicitDefEqProofs (disch := omega) only [go_sem, ht]) <;> rfl)) (hn) ?_; rintro _ nx_3 - rfl hnx_3; simp -implicitDefEqProofs (disch := omega) only [go_sem, ht]))
    (refine pCall_own2 (mk := mkF r) (mk_F r) (by simp -implicitDefEqProofs (disch := omega) only [go_sem, ht] <;> rfl) (by simp -implicitDefEqProofs (disch := omega) only [go_sem, ht]) (closedL_U _) (flatL_U _) (closedL_U _) (flatL_U _) (l1) ?_; intro id1 cap1 rest1 jd1 dap1 sest1 nx1 hid1 hnx1 hjd1 hmx1 hne1 hcap1 hdap1; simp only [put_nx, withH_nx, begP_nx, List.length_map] at hid1 hjd1 hcap1 hdap1; simp -implicitDefEqProofs (disch := omega) only [go_sem, ht])
    exact end_own2 (mk := mkFE r 0) (by simp -implicitDefEqProofs (disch := omega) only [go_sem, ht] <;> rfl) (by omega) (by simp -implicitDefEqProofs (disch := omega) only [go_sem, ht] <;> rfl) (by simp -implicitDefEqProofs (disch := omega) only [go_sem, ht] <;> rfl) (by simp <;> omega) (by simp <;> omega) (by simp <;> omega) (by simp <;> omega)
  · rw [decide_eq_false hneg] at hd
    subst hd
    rw [if_neg hneg] at e
    rw [e] at l2
    clear l1
    refine PCalls.enter (n := 18) (rs := [.cell 4 52, .tmp 5]) (tb := []) Tryz.func35 rfl rfl rfl (by kernel_rfl) (by kernel_rfl) (by simp) fun c hc ht => ?_
    simp -implicitDefEqProofs (disch := omega) only [go_sem, ht]
    ((refine pCall_vw (by refine ⟨⟨?_, ?_⟩, ?_, ?_⟩; rotate_left 2; (first | (right; rintro r rfl; rfl) | left); all_goals ((try simp -implicitDefEqProofs (disch := omega) only [go_sem, ht]) <;> rfl)) (hs) ?_; rintro _ nx_4 - rfl hnx_4; simp -implicitDefEqProofs (disch := omega) only [go_sem, ht]))
    (refine pCall_own2 (mk := mkF r) (mk_F r) (by simp -implicitDefEqProofs (disch := omega) only [go_sem, ht] <;> rfl) (by simp -implicitDefEqProofs (disch := omega) only [go_sem, ht]) (closedL_U _) (flatL_U _) (closedL_U _) (flatL_U _) (l2) ?_; intro id1 cap1 rest1 jd1 dap1 sest1 nx1 hid1 hnx1 hjd1 hmx1 hne1 hcap1 hdap1; simp only [put_nx, withH_nx, begP_nx, List.length_map] at hid1 hjd1 hcap1 hdap1; simp -implicitDefEqProofs (disch := omega) only [go_sem, ht])
    exact end_own2 (mk := mkFE r 0) (by simp -implicitDefEqProofs (disch := omega) only [go_sem, ht] <;> rfl) (by omega) (by simp -implicitDefEqProofs (disch := omega) only [go_sem, ht] <;> rfl) (by simp -implicitDefEqProofs (disch := omega) only [go_sem, ht] <;> rfl) (by simp <;> omega) (by simp <;> omega) (by simp <;> omega) (by simp <;> omega)
end

def FOc (z : Nat → Rat) (i1 c1 i2 c2 : Nat → Nat) (n : Nat) : List PV := (List.range n).flatMap fun i => [.val (.bool (decide ((z i).num < 0))), .ref (i1 i) 0 (D (z i).num.natAbs).length (c1 i) 1, .ref (i2 i) 0 (D (z i).den).length (c2 i) 1]
theorem FOc_succ (z : Nat → Rat) (i1 c1 i2 c2 : Nat → Nat) (n : Nat) : FOc z i1 c1 i2 c2 (n + 1) = FOc z i1 c1 i2 c2 n ++ [.val (.bool (decide ((z n).num < 0))), .ref (i1 n) 0 (D (z n).num.natAbs).length (c1 n) 1, .ref (i2 n) 0 (D (z n).den).length (c2 n) 1] := by
  unfold FOc
  rw [List.range_succ, List.flatMap_append]; rfl
theorem FOc_len (z : Nat → Rat) (i1 c1 i2 c2 : Nat → Nat) : ∀ n, (FOc z i1 c1 i2 c2 n).length = n * 3
  | 0 => rfl
  | n + 1 => by rw [FOc_succ, List.length_append, FOc_len z i1 c1 i2 c2 n]; simp; omega
theorem FOc_congr {z z' : Nat → Rat} {i1 c1 i2 c2 i1' c1' i2' c2' : Nat → Nat} : ∀ {n : Nat}, (∀ i, i < n → z i = z' i ∧ i1 i = i1' i ∧ c1 i = c1' i ∧ i2 i = i2' i ∧ c2 i = c2' i) → FOc z i1 c1 i2 c2 n = FOc z' i1' c1' i2' c2' n
  | 0, _ => rfl
  | n + 1, h => by
    obtain ⟨g1, g2, g3, g4, g5⟩ := h n (by omega)
    rw [FOc_succ, FOc_succ, FOc_congr fun i hi => h i (by omega), g1, g2, g3, g4, g5]
section
variable {z : Nat → Rat} {i1 c1 i2 c2 : Nat → Nat} {q : Rat} {x1 e1 x2 e2 p : Nat}
theorem FOc_ne {n : Nat} (hp : n ≤ p) : FOc (upd z p q) (upd i1 p x1) (upd c1 p e1) (upd i2 p x2) (upd c2 p e2) n = FOc z i1 c1 i2 c2 n :=
  FOc_congr fun i hi => by
    have : i ≠ p := by omega
    simp [upd_ne _ _ this]

theorem FOc_app (n : Nat) : FOc (upd z n q) (upd i1 n x1) (upd c1 n e1) (upd i2 n x2) (upd c2 n e2) (n + 1) = FOc z i1 c1 i2 c2 n ++ [.val (.bool (decide (q.num < 0))), .ref x1 0 (D q.num.natAbs).length e1 1, .ref x2 0 (D q.den).length e2 1] := by
  rw [FOc_succ, FOc_ne (Nat.le_refl _)]
  simp only [upd_self]

theorem FOc_set : ∀ {n : Nat}, p < n → spl (FOc z i1 c1 i2 c2 n) (p * 3) [.val (.bool (decide (q.num < 0))), .ref x1 0 (D q.num.natAbs).length e1 1, .ref x2 0 (D q.den).length e2 1] = FOc (upd z p q) (upd i1 p x1) (upd c1 p e1) (upd i2 p x2) (upd c2 p e2) n
  | 0, h => by omega
  | n + 1, h => by
    by_cases hpn : p = n
    · subst hpn
      have hl := FOc_len z i1 c1 i2 c2 p
      rw [FOc_app, FOc_succ]
      unfold spl
      rw [List.take_left' hl]
      simp only [List.length_cons, List.length_nil, Nat.zero_add, Nat.reduceAdd]
      rw [← List.drop_drop, List.drop_left' hl]
      simp
    · have hne : n ≠ p := fun e => hpn e.symm
      rw [FOc_succ, spl_app (by rw [FOc_len]; simp; omega), FOc_set (by omega), FOc_succ]
      simp only [upd_ne _ _ hne]
theorem FOc_at {i : Nat} (r : List PV) : ∀ {n : Nat}, i < n → ∃ r', (FOc z i1 c1 i2 c2 n ++ r).drop (i * 3) = .val (.bool (decide ((z i).num < 0))) :: .ref (i1 i) 0 (D (z i).num.natAbs).length (c1 i) 1 :: .ref (i2 i) 0 (D (z i).den).length (c2 i) 1 :: r'
  | 0, h => by omega
  | n + 1, h => by
    rw [FOc_succ, List.append_assoc]
    by_cases hi : i = n
    · subst hi
      refine ⟨r, ?_⟩
      rw [List.drop_append, FOc_len, List.drop_of_length_le (by rw [FOc_len]; omega), Nat.sub_self]; rfl
    · exact FOc_at _ (by omega)
end

structure FL (H : Nat → Option (List PV)) (lo b id n : Nat) (z : Nat → Rat) (i1 c1 i2 c2 : Nat → Nat) : Prop where
  l1 : ∀ i, i < n → ∃ rest : List Value, H (i1 i) = some ((D (z i).num.natAbs).map U ++ rest.map .val) ∧ (D (z i).num.natAbs).length + rest.length = c1 i
  l2 : ∀ i, i < n → ∃ rest : List Value, H (i2 i) = some ((D (z i).den).map U ++ rest.map .val) ∧ (D (z i).den).length + rest.length = c2 i
  lt : ∀ i, i < n → lo ≤ i1 i ∧ i1 i < b ∧ i1 i ≠ id ∧ lo ≤ i2 i ∧ i2 i < b ∧ i2 i ≠ id
  ne : ∀ i j, i < n → j < n → (i1 i = i1 j → i = j) ∧ (i2 i = i2 j → i = j) ∧ i1 i ≠ i2 j
section
variable {H H' : Nat → Option (List PV)} {lo b b' id n n' : Nat} {z z' : Nat → Rat} {i1 c1 i2 c2 : Nat → Nat} {q : Rat} {x1 e1 x2 e2 p : Nat} {s1 s2 : List Value}
theorem FL.zero : FL H lo b id 0 z i1 c1 i2 c2 := ⟨fun i hi => by omega, fun i hi => by omega, fun i hi => by omega, fun i j hi => by omega⟩
theorem FL.mono (h : FL H lo b id n z i1 c1 i2 c2) (hb : b ≤ b') (hH : ∀ j, lo ≤ j → j < b → j ≠ id → H' j = H j) : FL H' lo b' id n z i1 c1 i2 c2 := by
  refine ⟨fun i hi => ?_, fun i hi => ?_, fun i hi => ?_, h.ne⟩
  · obtain ⟨r, hr, hc⟩ := h.l1 i hi
    have := h.lt i hi
    exact ⟨r, by rw [hH _ this.1 this.2.1 this.2.2.1]; exact hr, hc⟩
  · obtain ⟨r, hr, hc⟩ := h.l2 i hi
    have := h.lt i hi
    exact ⟨r, by rw [hH _ this.2.2.2.1 this.2.2.2.2.1 this.2.2.2.2.2]; exact hr, hc⟩
  · have := h.lt i hi
    exact ⟨this.1, by omega, this.2.2.1, this.2.2.2.1, by omega, this.2.2.2.2.2⟩
theorem FL.put (h : FL H lo b id n z i1 c1 i2 c2) (hn : ∀ i, i < n' → i = p ∨ i < n) (hH : ∀ j, lo ≤ j → j < b → j ≠ id → H' j = H j) (hb : b ≤ x1) (hb2 : b ≤ x2) (hlo : lo ≤ b) (hx : x1 < b') (hx2 : x2 < b') (hne : x1 ≠ x2) (hi1 : x1 ≠ id) (hi2 : x2 ≠ id)
    (h1 : H' x1 = some ((D q.num.natAbs).map U ++ s1.map .val)) (k1 : (D q.num.natAbs).length + s1.length = e1) (h2 : H' x2 = some ((D q.den).map U ++ s2.map .val)) (k2 : (D q.den).length + s2.length = e2) :
    FL H' lo b' id n' (upd z p q) (upd i1 p x1) (upd c1 p e1) (upd i2 p x2) (upd c2 p e2) := by
  refine ⟨fun i hi => ?_, fun i hi => ?_, fun i hi => ?_, fun i j hi hj => ?_⟩
  · by_cases hip : i = p
    · subst hip; simp only [upd_self]; exact ⟨s1, h1, k1⟩
    · have hin := (hn i hi).resolve_left hip
      simp only [upd_ne _ _ hip]
      obtain ⟨r, hr, hc⟩ := h.l1 i hin
      have := h.lt i hin
      exact ⟨r, by rw [hH _ this.1 this.2.1 this.2.2.1]; exact hr, hc⟩
  · by_cases hip : i = p
    · subst hip; simp only [upd_self]; exact ⟨s2, h2, k2⟩
    · have hin := (hn i hi).resolve_left hip
      simp only [upd_ne _ _ hip]
      obtain ⟨r, hr, hc⟩ := h.l2 i hin
      have := h.lt i hin
      exact ⟨r, by rw [hH _ this.2.2.2.1 this.2.2.2.2.1 this.2.2.2.2.2]; exact hr, hc⟩
  · by_cases hip : i = p
    · subst hip; simp only [upd_self]; exact ⟨by omega, hx, hi1, by omega, hx2, hi2⟩
    · have := h.lt i ((hn i hi).resolve_left hip)
      simp only [upd_ne _ _ hip]
      exact ⟨this.1, by omega, this.2.2.1, this.2.2.2.1, by omega, this.2.2.2.2.2⟩
  · by_cases hip : i = p <;> by_cases hjp : j = p
    · subst hip; subst hjp
      simp only [upd_self]
      exact ⟨fun _ => trivial, fun _ => trivial, hne⟩
    · subst hip
      have := h.lt j ((hn j hj).resolve_left hjp)
      simp only [upd_self, upd_ne _ _ hjp]
      exact ⟨fun e => by omega, fun e => by omega, by omega⟩
    · subst hjp
      have := h.lt i ((hn i hi).resolve_left hip)
      simp only [upd_self, upd_ne _ _ hip]
      exact ⟨fun e => by omega, fun e => by omega, by omega⟩
    · simp only [upd_ne _ _ hip, upd_ne _ _ hjp]
      exact h.ne i j ((hn i hi).resolve_left hip) ((hn j hj).resolve_left hjp)
end
theorem upd_eqf {α : Type} (f : Nat → α) (i : Nat) : upd f i (f i) = f := by
  funext j
  by_cases h : j = i
  · subst h; rw [upd_self]
  · rw [upd_ne _ _ h]
theorem fv_set {x : List Rat} {p : Nat} {q : Rat} (h : p < x.length) : fv (x.set p q) = upd (fv x) p q := by
  funext j
  unfold fv
  rw [List.getD_eq_getElem?_getD, List.getElem?_set]
  by_cases hj : p = j
  · subst hj; simp [h, upd_self]
  · rw [upd_ne _ _ (fun e => hj e.symm)]; simp [hj]
end Go.Proofs.YtfjdfnlkobeehaaGreat
end

section
set_option maxRecDepth 100000
set_option linter.unusedVariables false
set_option linter.unusedSimpArgs false
namespace Go.Proofs.YtfjdfnlkobeehaaGreat
section
variable {n b K : Nat} {cx : Cx} {Q : Exit → PS → Prop} {s : PS} {e p : PV} {q0 : Rat} {T : List (List Int)} {P : List Nat} {x : List Rat}
set_option maxHeartbeats 8000000 in
theorem solve1L (hc : cx.n = 118) (ht : cx.tb = [(7, [(0, []), (1, []), (2, []), (3, []), (5, []), (7, []), (8, []), (9, []), (10, []), (4, [0, 1, 5, 7, 8, 9, 10]), (6, [0, 1, 7, 8, 9, 10]), (11, [0, 1, 2, 3, 5]), (12, [0, 1]), (13, []), (14, [])]), (1000007, [(0, []), (0, []), (0, []), (4, []), (12, []), (0, []), (60, []), (0, []), (0, []), (384, []), (896, []), (1920, []), (4092, []), (8191, []), (16383, [])]), (21, [(0, []), (1, []), (2, []), (3, []), (4, []), (5, []), (6, []), (7, []), (8, []), (9, []), (10, []), (11, []), (12, []), (13, []), (14, []), (15, []), (16, [0, 1]), (17, []), (18, []), (19, []), (20, []), (21, [19])]), (1000021, [(0, []), (0, []), (0, []), (0, []), (12, []), (28, []), (0, []), (124, []), (252, []), (0, []), (0, []), (1536, []), (3584, []), (0, []), (15872, []), (32256, []), (65532, []), (131068, []), (262140, []), (262140, []), (524287, []), (1572863, [])])]) (hn : n ≤ 32) (hf0 : PF 34 [.agg [.val (.bool false), .sl 0 []]] q0)
    (hI : s.sl 1 = .val (.int .i64 n) ∧ s.sl 12 = e ∧ s.sl 13 = p ∧ s.sl 14 = .ref b 0 n n 3 ∧ s.sl 65 = .val (.int .i64 n) ∧ s.sl 66 = .val (.int .i64 (0 : Nat)) ∧ b < s.nx ∧ (∃ cs : List PV, s.H b = some cs ∧ cs.length = n * 3))
    (hQ : ∀ (t : PS) (i1 c1 i2 c2 : Nat → Nat), t.sl 1 = .val (.int .i64 n) → t.sl 12 = e → t.sl 13 = p → t.sl 14 = .ref b 0 n n 3 → t.H b = some (FOc (fun _ => q0) i1 c1 i2 c2 n) → b < t.nx → FL t.H 0 t.nx b n (fun _ => q0) i1 c1 i2 c2 → Q (.exit 2) t) : LW Tryz.prog cx (loopN Tryz.f16 1) Q s := by
  refine LW.ofLoop rfl ?_
  refine LW.loopW hc ht (by kernel_rfl) (fun t => t.sl 1 = .val (.int .i64 n) ∧ t.sl 12 = e ∧ t.sl 13 = p ∧ t.sl 14 = .ref b 0 n n 3 ∧ t.sl 65 = .val (.int .i64 n) ∧ b < t.nx ∧ ∃ i : Nat, i ≤ n ∧ t.sl 66 = .val (.int .i64 i) ∧ ∃ (i1 c1 i2 c2 : Nat → Nat) (cs : List PV), t.H b = some (FOc (fun _ => q0) i1 c1 i2 c2 i ++ cs) ∧ cs.length = (n - i) * 3 ∧ FL t.H 0 t.nx b i (fun _ => q0) i1 c1 i2 c2)
    (fun t => match t.sl 66 with | .val (.int _ k) => n - k.toNat | _ => 0) ?_ ?_
  · obtain ⟨g1, g12, g13, g14, g65, g66, gb, cs, gH, gl⟩ := hI
    exact ⟨g1, g12, g13, g14, g65, gb, 0, Nat.zero_le _, g66, fun _ => 0, fun _ => 0, fun _ => 0, fun _ => 0, cs, gH, gl, FL.zero⟩
  rintro t ⟨h1, h12, h13, h14, h65, hb, i, hi, h66, i1, c1, i2, c2, cs, hH, hl, hF⟩
  by_cases hie : i = n
  · subst hie
    have : cs = [] := List.eq_nil_of_length_eq_zero (by omega)
    subst this
    rw [List.append_nil] at hH
    simp -implicitDefEqProofs (disch := omega) only [go_sem, ht, h1, h12, h13, h14, h65, h66]
    refine hQ _ i1 c1 i2 c2 (by simp -implicitDefEqProofs (disch := omega) only [go_sem, ht, h1]) (by simp -implicitDefEqProofs (disch := omega) only [go_sem, ht, h12]) (by simp -implicitDefEqProofs (disch := omega) only [go_sem, ht, h13]) (by simp -implicitDefEqProofs (disch := omega) only [go_sem, ht, h14]) (by simp -implicitDefEqProofs (disch := omega) only [go_sem, ht, hH]) (by simp -implicitDefEqProofs (disch := omega) only [go_sem, ht]; exact hb) ?_
    simp -implicitDefEqProofs (disch := omega) only [go_sem, ht]
    exact hF
  · have hlt : i < n := by omega
    obtain ⟨x0, x1, x2, cs', rfl⟩ : ∃ x0 x1 x2 cs', cs = x0 :: x1 :: x2 :: cs' := by
      match cs, hl with
      | [], h => exfalso; simp at h; omega
      | [_], h => exfalso; simp at h; omega
      | [_, _], h => exfalso; simp at h; omega
      | x0 :: x1 :: x2 :: cs', _ => exact ⟨x0, x1, x2, cs', rfl⟩
    have hll : (FOc (fun _ => q0) i1 c1 i2 c2 i).length = i * 3 := FOc_len _ _ _ _ _ _
    have hsp : ∀ y1 e1 y2 e2, spl (FOc (fun _ => q0) i1 c1 i2 c2 i ++ x0 :: x1 :: x2 :: cs') (i * 3) [.val (.bool (decide (q0.num < 0))), .ref y1 0 (D q0.num.natAbs).length e1 1, .ref y2 0 (D q0.den).length e2 1] = FOc (fun _ => q0) (upd i1 i y1) (upd c1 i e1) (upd i2 i y2) (upd c2 i e2) (i + 1) ++ cs' := fun y1 e1 y2 e2 => by
      have e1' : List.take (i * 3) (FOc (fun _ => q0) i1 c1 i2 c2 i ++ x0 :: x1 :: x2 :: cs') = FOc (fun _ => q0) i1 c1 i2 c2 i := List.take_left' hll
      have e2' : List.drop (i * 3 + 3) (FOc (fun _ => q0) i1 c1 i2 c2 i ++ x0 :: x1 :: x2 :: cs') = cs' := by
        rw [← List.drop_drop, List.drop_left' hll]; rfl
      have e3 := FOc_app (z := fun _ => q0) (i1 := i1) (c1 := c1) (i2 := i2) (c2 := c2) (q := q0) (x1 := y1) (e1 := e1) (x2 := y2) (e2 := e2) i
      rw [upd_eqf (fun _ => q0) i] at e3
      unfold spl
      simp only [List.length_cons, List.length_nil, Nat.zero_add, Nat.reduceAdd]
      rw [e1', e2', e3, List.append_assoc]
    have hln : (FOc (fun _ => q0) i1 c1 i2 c2 i ++ x0 :: x1 :: x2 :: cs').length = n * 3 := by simp at hl ⊢; omega
    simp -implicitDefEqProofs (disch := omega) only [go_sem, ht, h1, h12, h13, h14, h65, h66, hH]
    (refine pCall_own2 (mk := mkF q0) (mk_F q0) (by simp -implicitDefEqProofs (disch := omega) only [h1, h12, h13, h14, h65, h66, hH, hsp, hln, go_sem, ht] <;> rfl) (by simp -implicitDefEqProofs (disch := omega) only [h1, h12, h13, h14, h65, h66, hH, hsp, hln, go_sem, ht]) (closedL_U _) (flatL_U _) (closedL_U _) (flatL_U _) (hf0) ?_; intro id9 cap9 rest9 jd9 dap9 sest9 nx9 hid9 hnx9 hjd9 hmx9 hne9 hcap9 hdap9; simp only [put_nx, withH_nx, begP_nx, List.length_map] at hid9 hjd9 hcap9 hdap9; simp -implicitDefEqProofs (disch := omega) only [h1, h12, h13, h14, h65, h66, hH, hsp, hln, go_sem, ht])
    have hb1 : b ≠ id9 := by omega
    have hb2 : b ≠ jd9 := by omega
    refine ⟨⟨by omega, i + 1, by omega, rfl, upd i1 i id9, upd c1 i cap9, upd i2 i jd9, upd c2 i dap9, cs', rfl, by simp at hl; omega, ?_⟩, by omega⟩
    have hP := FL.put (H' := upd (upd (upd t.H id9 (some ((D q0.num.natAbs).map U ++ rest9.map .val))) jd9 (some ((D q0.den).map U ++ sest9.map .val))) b (some (FOc (fun _ => q0) (upd i1 i id9) (upd c1 i cap9) (upd i2 i jd9) (upd c2 i dap9) (i + 1) ++ cs'))) (n' := i + 1) (p := i) (q := q0) (x1 := id9) (e1 := cap9) (x2 := jd9) (e2 := dap9) (s1 := rest9) (s2 := sest9) (b' := nx9) hF (fun k hk => by omega) (fun j _ hj hjb => by rw [upd_ne _ _ hjb, upd_ne _ _ (by omega), upd_ne _ _ (by omega)])
      (by omega) (by omega) (Nat.zero_le _) (by omega) (by omega) (by omega) (by omega) (by omega) (by rw [upd_ne _ _ (by omega), upd_ne _ _ (by omega), upd_self]) (by omega) (by rw [upd_ne _ _ (by omega), upd_self]) (by omega)
    rw [upd_eqf (fun _ => q0) i] at hP
    exact hP
set_option maxHeartbeats 8000000 in
theorem solve2L (hc : cx.n = 118) (ht : cx.tb = [(7, [(0, []), (1, []), (2, []), (3, []), (5, []), (7, []), (8, []), (9, []), (10, []), (4, [0, 1, 5, 7, 8, 9, 10]), (6, [0, 1, 7, 8, 9, 10]), (11, [0, 1, 2, 3, 5]), (12, [0, 1]), (13, []), (14, [])]), (1000007, [(0, []), (0, []), (0, []), (4, []), (12, []), (0, []), (60, []), (0, []), (0, []), (384, []), (896, []), (1920, []), (4092, []), (8191, []), (16383, [])]), (21, [(0, []), (1, []), (2, []), (3, []), (4, []), (5, []), (6, []), (7, []), (8, []), (9, []), (10, []), (11, []), (12, []), (13, []), (14, []), (15, []), (16, [0, 1]), (17, []), (18, []), (19, []), (20, []), (21, [19])]), (1000021, [(0, []), (0, []), (0, []), (0, []), (12, []), (28, []), (0, []), (124, []), (252, []), (0, []), (0, []), (1536, []), (3584, []), (0, []), (15872, []), (32256, []), (65532, []), (131068, []), (262140, []), (262140, []), (524287, []), (1572863, [])])]) (hn : n ≤ 32) (hP : P.length ≤ 100) (hTl : T.length = P.length) (hT : ∀ k, k < P.length → (T.getD k []).length = n + 1) (hz : ∀ k, k < P.length → ∀ y ∈ T.getD k [], Z K y) (hK : 1 ≤ K) (hK2 : K ≤ 100000)
    (hpc : ∀ k, k < P.length → vc (T.getD k []) (P.getD k 0) ≠ 0) (hpn : ∀ k, k < P.length → P.getD k 0 < n) {j1 d1 j2 d2 : Nat → Nat}
    (hI : s.sl 1 = .val (.int .i64 n) ∧ s.sl 12 = .sl T.length ((T.map CZ).map SW) ∧ s.sl 14 = .ref b 0 n n 3 ∧ s.sl 75 = .sl P.length (P.map Ref.I) ∧ s.sl 76 = .val (.int .i64 P.length) ∧ s.sl 77 = .val (.int .i64 (0 : Nat)) ∧ b < s.nx ∧ s.H b = some (FOc (fv (solL T P n 0)) j1 d1 j2 d2 n) ∧ FL s.H 0 s.nx b n (fv (solL T P n 0)) j1 d1 j2 d2)
    (hQ : ∀ (t : PS) (i1 c1 i2 c2 : Nat → Nat), t.sl 14 = .ref b 0 n n 3 → t.H b = some (FOc (fv (solL T P n P.length)) i1 c1 i2 c2 n) → b < t.nx → FL t.H 0 t.nx b n (fv (solL T P n P.length)) i1 c1 i2 c2 → Q (.exit 4) t) : LW Tryz.prog cx (loopN Tryz.f16 2) Q s := by
  refine LW.ofLoop rfl ?_
  refine LW.loopW hc ht (by kernel_rfl) (fun t => t.sl 1 = .val (.int .i64 n) ∧ t.sl 12 = .sl T.length ((T.map CZ).map SW) ∧ t.sl 14 = .ref b 0 n n 3 ∧ t.sl 75 = .sl P.length (P.map Ref.I) ∧ t.sl 76 = .val (.int .i64 P.length) ∧ b < t.nx ∧ ∃ k : Nat, k ≤ P.length ∧ t.sl 77 = .val (.int .i64 k) ∧ ∃ i1 c1 i2 c2 : Nat → Nat, t.H b = some (FOc (fv (solL T P n k)) i1 c1 i2 c2 n) ∧ FL t.H 0 t.nx b n (fv (solL T P n k)) i1 c1 i2 c2)
    (fun t => match t.sl 77 with | .val (.int _ k) => P.length - k.toNat | _ => 0) ?_ ?_
  · obtain ⟨g1, g12, g14, g75, g76, g77, gb, gH, gF⟩ := hI
    exact ⟨g1, g12, g14, g75, g76, gb, 0, Nat.zero_le _, g77, _, _, _, _, gH, gF⟩
  rintro t ⟨h1, h12, h14, h75, h76, hb, k, hk, h77, i1, c1, i2, c2, hH, hF⟩
  by_cases hke : k = P.length
  · subst hke
    simp -implicitDefEqProofs (disch := omega) only [go_sem, ht, h1, h12, h14, h75, h76, h77]
    refine hQ _ i1 c1 i2 c2 (by simp -implicitDefEqProofs (disch := omega) only [go_sem, ht, h14]) (by simp -implicitDefEqProofs (disch := omega) only [go_sem, ht, hH]) (by simp -implicitDefEqProofs (disch := omega) only [go_sem, ht]; exact hb) ?_
    simp -implicitDefEqProofs (disch := omega) only [go_sem, ht]
    exact hF
  · have hlt : k < P.length := by omega
    have hgp : (P.map Ref.I)[k]? = some (.val (.int .i64 (P.getD k 0 : Nat))) := by simp [hlt, Ref.I]
    have hpl : (P.map Ref.I).length = P.length := by simp
    have hcn := hpn k hlt
    have hTk := hT k hlt
    have hge := get_CZM (T := T) (i := k) (by omega)
    rw [hTk] at hge
    have hat1 := CZ_at (z := T.getD k []) (c := n) (by omega)
    have hat2 := CZ_at (z := T.getD k []) (c := P.getD k 0) (by omega)
    have z1 := vc_z (hz k hlt) n
    have z2 := vc_z (hz k hlt) (P.getD k 0)
    have hof := rofF (Wn.C z1 (by omega)) (Wn.C z2 (by omega)) (hpc k hlt)
    have hst : fv (solL T P n (k + 1)) = upd (fv (solL T P n k)) (P.getD k 0) (Rat.divInt (vc (T.getD k []) n) (vc (T.getD k []) (P.getD k 0))) := fv_set (by rw [solL_len]; exact hcn)
    have hel : ((T.map CZ).map SW).length = T.length := by simp
    have hwl : (SWc (CZ (T.getD k []))).length = (n + 1) * 2 := by rw [SWc_len, CZ_len, hTk]; omega
    clear hT hz hpc hpn
    obtain ⟨s2, es2⟩ : ∃ s, fv (solL T P n (k + 1)) = s := ⟨_, rfl⟩
    rw [es2] at hst
    generalize fv (solL T P n k) = s1 at *
    generalize Rat.divInt (vc (T.getD k []) n) (vc (T.getD k []) (P.getD k 0)) = q at *
    generalize vc (T.getD k []) n = y1 at *
    generalize vc (T.getD k []) (P.getD k 0) = y2 at *
    generalize P.getD k 0 = pk at *
    generalize T.getD k [] = tk at *
    have hsp : ∀ y1 e1 y2 e2, spl (FOc s1 i1 c1 i2 c2 n) (pk * 3) [.val (.bool (decide (q.num < 0))), .ref y1 0 (D q.num.natAbs).length e1 1, .ref y2 0 (D q.den).length e2 1] = FOc s2 (upd i1 pk y1) (upd c1 pk e1) (upd i2 pk y2) (upd c2 pk e2) n := fun y1 e1 y2 e2 => by rw [hst]; exact FOc_set hcn
    have hln : (FOc s1 i1 c1 i2 c2 n).length = n * 3 := FOc_len _ _ _ _ _ _
    have hpe : ¬ pk = n := by omega
    have hpe' : ¬ ((pk : Nat) : Int) = (n : Nat) := by omega
    simp -implicitDefEqProofs (disch := omega) only [go_sem, ht, h1, h12, h14, h75, h76, h77, hgp, hge, hat1, hat2, hH, hpe', hpe]
    (refine pCall_own2 (mk := mkFE q 0) (mk_FE q 0) (by simp -implicitDefEqProofs (disch := omega) only [h1, h12, h14, h75, h76, h77, hgp, hge, hat1, hat2, hH, hsp, hln, hpe, hpe', go_sem, ht] <;> rfl) (by simp -implicitDefEqProofs (disch := omega) only [h1, h12, h14, h75, h76, h77, hgp, hge, hat1, hat2, hH, hsp, hln, hpe, hpe', go_sem, ht]) (closedL_U _) (flatL_U _) (closedL_U _) (flatL_U _) (hof) ?_; intro id9 cap9 rest9 jd9 dap9 sest9 nx9 hid9 hnx9 hjd9 hmx9 hne9 hcap9 hdap9; simp only [put_nx, withH_nx, begP_nx, List.length_map] at hid9 hjd9 hcap9 hdap9; simp -implicitDefEqProofs (disch := omega) only [h1, h12, h14, h75, h76, h77, hgp, hge, hat1, hat2, hH, hsp, hln, hpe, hpe', go_sem, ht])
    have hb1 : b ≠ id9 := by omega
    have hb2 : b ≠ jd9 := by omega
    refine ⟨⟨by omega, k + 1, by omega, rfl, upd i1 pk id9, upd c1 pk cap9, upd i2 pk jd9, upd c2 pk dap9, by rw [es2], ?_⟩, by omega⟩
    have hP := FL.put (H' := upd (upd (upd t.H id9 (some ((D q.num.natAbs).map U ++ rest9.map .val))) jd9 (some ((D q.den).map U ++ sest9.map .val))) b (some (FOc s2 (upd i1 pk id9) (upd c1 pk cap9) (upd i2 pk jd9) (upd c2 pk dap9) n))) (n' := n) (p := pk) (q := q) (x1 := id9) (e1 := cap9) (x2 := jd9) (e2 := dap9) (s1 := rest9) (s2 := sest9) (b' := nx9) hF (fun k hk => .inr hk) (fun j _ hj hjb => by rw [upd_ne _ _ hjb, upd_ne _ _ (by omega), upd_ne _ _ (by omega)])
      (by omega) (by omega) (Nat.zero_le _) (by omega) (by omega) (by omega) (by omega) (by omega) (by rw [upd_ne _ _ (by omega), upd_ne _ _ (by omega), upd_self]) (by omega) (by rw [upd_ne _ _ (by omega), upd_self]) (by omega)
    rw [← hst] at hP
    rw [es2]
    exact hP
theorem FOc_frz {H : Nat → Option (List PV)} {lo b id i : Nat} {z : Nat → Rat} {i1 c1 i2 c2 : Nat → Nat} (h : FL H lo b id n z i1 c1 i2 c2) (hi : i < n) : YtfjdfnlkobeehaaGreat.frz (fun _ => true) H 2 (.agg [.val (.bool (decide ((z i).num < 0))), .ref (i1 i) 0 (D (z i).num.natAbs).length (c1 i) 1, .ref (i2 i) 0 (D (z i).den).length (c2 i) 1]) = some (FC (z i)) := by
  obtain ⟨r1, h1, k1⟩ := h.l1 i hi
  obtain ⟨r2, h2, k2⟩ := h.l2 i hi
  have hf1 := frzL_flat (fun _ => true) H 0 (flatL_U (D (z i).num.natAbs))
  have hf2 := frzL_flat (fun _ => true) H 0 (flatL_U (D (z i).den))
  have ht1 : (List.map U (D (z i).num.natAbs) ++ r1.map PV.val).take ((D (z i).num.natAbs).length * 1) = List.map U (D (z i).num.natAbs) := by rw [Nat.mul_one, List.take_left' (by simp)]
  have ht2 : (List.map U (D (z i).den) ++ r2.map PV.val).take ((D (z i).den).length * 1) = List.map U (D (z i).den) := by rw [Nat.mul_one, List.take_left' (by simp)]
  rw [frz_agg, mapMo_cons, mapMo_cons, mapMo_cons, mapMo_nil, frz_flat _ _ _ _ (show YtfjdfnlkobeehaaGreat.flat (.val (.bool (decide ((z i).num < 0)))) = true from rfl)]
  simp only [frz_ref, if_true, h1, h2, Option.bind_some, List.drop_zero, ht1, ht2, hf1, hf2, Option.map_some]
  rw [if_pos (by simp), if_pos (by simp)]
  simp only [Option.map_some, Option.bind_some]
  rw [FC_def]; rfl
set_option maxHeartbeats 8000000 in
theorem solve3L (hc : cx.n = 118) (ht : cx.tb = [(7, [(0, []), (1, []), (2, []), (3, []), (5, []), (7, []), (8, []), (9, []), (10, []), (4, [0, 1, 5, 7, 8, 9, 10]), (6, [0, 1, 7, 8, 9, 10]), (11, [0, 1, 2, 3, 5]), (12, [0, 1]), (13, []), (14, [])]), (1000007, [(0, []), (0, []), (0, []), (4, []), (12, []), (0, []), (60, []), (0, []), (0, []), (384, []), (896, []), (1920, []), (4092, []), (8191, []), (16383, [])]), (21, [(0, []), (1, []), (2, []), (3, []), (4, []), (5, []), (6, []), (7, []), (8, []), (9, []), (10, []), (11, []), (12, []), (13, []), (14, []), (15, []), (16, [0, 1]), (17, []), (18, []), (19, []), (20, []), (21, [19])]), (1000021, [(0, []), (0, []), (0, []), (0, []), (12, []), (28, []), (0, []), (124, []), (252, []), (0, []), (0, []), (1536, []), (3584, []), (0, []), (15872, []), (32256, []), (65532, []), (131068, []), (262140, []), (262140, []), (524287, []), (1572863, [])])]) (hn : n ≤ 32) (hz : ∀ c, c < n → Zq K (fv x c)) (hK : 1 ≤ K) (hK2 : K ≤ 100000) (h32 : ∀ c, c < n → ¬ 32 < limQ (fv x c)) {i1 c1 i2 c2 : Nat → Nat}
    (hI : s.sl 14 = .ref b 0 n n 3 ∧ s.sl 107 = .ref b 0 n n 3 ∧ s.sl 108 = .val (.int .i64 n) ∧ s.sl 109 = .val (.int .i64 (0 : Nat)) ∧ b < s.nx ∧ s.H b = some (FOc (fv x) i1 c1 i2 c2 n) ∧ FL s.H 0 s.nx b n (fv x) i1 c1 i2 c2)
    (hQ : ∀ t : PS, t.sl 14 = .ref b 0 n n 3 → b < t.nx → t.H b = some (FOc (fv x) i1 c1 i2 c2 n) → FL t.H 0 t.nx b n (fv x) i1 c1 i2 c2 → Q (.exit 6) t) : LW Tryz.prog cx (loopN Tryz.f16 3) Q s := by
  refine LW.ofLoop rfl ?_
  refine LW.loopW hc ht (by kernel_rfl) (fun t => t.sl 14 = .ref b 0 n n 3 ∧ t.sl 107 = .ref b 0 n n 3 ∧ t.sl 108 = .val (.int .i64 n) ∧ b < t.nx ∧ t.H b = some (FOc (fv x) i1 c1 i2 c2 n) ∧ FL t.H 0 t.nx b n (fv x) i1 c1 i2 c2 ∧ ∃ i : Nat, i ≤ n ∧ t.sl 109 = .val (.int .i64 i))
    (fun t => match t.sl 109 with | .val (.int _ k) => n - k.toNat | _ => 0) ?_ ?_
  · obtain ⟨g14, g107, g108, g109, gb, gH, gF⟩ := hI
    exact ⟨g14, g107, g108, gb, gH, gF, 0, Nat.zero_le _, g109⟩
  rintro t ⟨h14, h107, h108, hb, hH, hF, i, hi, h109⟩
  by_cases hie : i = n
  · subst hie
    simp -implicitDefEqProofs (disch := omega) only [go_sem, ht, h14, h107, h108, h109]
    refine hQ _ (by simp -implicitDefEqProofs (disch := omega) only [go_sem, ht, h14]) (by simp -implicitDefEqProofs (disch := omega) only [go_sem, ht]; exact hb) (by simp -implicitDefEqProofs (disch := omega) only [go_sem, ht, hH]) ?_
    simp -implicitDefEqProofs (disch := omega) only [go_sem, ht]
    exact hF
  · have hlt : i < n := by omega
    have hlm := rlimbsM (Fn.C (hz i hlt) (by omega) hK)
    obtain ⟨r', hat⟩ := FOc_at (z := fv x) (i1 := i1) (c1 := c1) (i2 := i2) (c2 := c2) [] hlt
    rw [List.append_nil] at hat
    have hln : (FOc (fv x) i1 c1 i2 c2 n).length = n * 3 := FOc_len _ _ _ _ _ _
    have hl : limQ (fv x i) = max (D (fv x i).num.natAbs).length (D (fv x i).den).length := rfl
    rw [← hl] at hlm
    have h3 := h32 i hlt
    have hbw : ∀ H' n', FL H' 0 n' b n (fv x) i1 c1 i2 c2 → ∀ nx, PCalls Tryz.prog 36 [.agg [.val (.bool (decide ((fv x i).num < 0))), .ref (i1 i) 0 (D (fv x i).num.natAbs).length (c1 i) 1, .ref (i2 i) 0 (D (fv x i).den).length (c2 i) 1]] H' nx (memQ (.val (.int .i64 (limQ (fv x i) : Nat))) H' nx) := fun H' n' hF' nx =>
      PCalls.borrow (d := 2) (args' := [FC (fv x i)]) (by rw [mapMo_cons, FOc_frz hF' hlt]; rfl) (by rw [FC_def]; simp [flatL, YtfjdfnlkobeehaaGreat.flat, SU_def, flatL_U]) hlm
    clear hl hz h32 hlm
    generalize limQ (fv x i) = lq at *
    have h32i : ¬ (32 : Int) < (lq : Nat) := by omega
    have hbn : b ≠ t.nx := by omega
    simp -implicitDefEqProofs (disch := omega) only [go_sem, ht, h14, h107, h108, h109, hH, hat]
    have hF2 : ∀ cs, FL (upd t.H t.nx cs) 0 (t.nx + 1) b n (fv x) i1 c1 i2 c2 := fun cs => hF.mono (by omega) fun j _ hj _ => upd_ne _ _ (by omega)
    apply pCall_mem
    exact hbw _ _ (by simp -implicitDefEqProofs (disch := omega) only [go_sem, ht]; exact hF2 _) _
    rintro _ _ _ ⟨rfl, rfl, rfl⟩ -
    simp -implicitDefEqProofs (disch := omega) only [go_sem, ht, h14, h107, h108, h109, hH, hat, h3, h32i, hbn]
    exact ⟨⟨hF2 _, i + 1, by omega, rfl⟩, by omega⟩
end
end Go.Proofs.YtfjdfnlkobeehaaGreat
end
