/- Part 38 of the way to the statement: the walk and what it needs. -/
import Derived.Test.YtfjdfnlkobeehaaKMkF26
import Derived.Test.YtfjdfnlkobeehaaKMkF31
import Derived.Laws.RangeAny
section
set_option maxRecDepth 100000
set_option linter.unusedVariables false
set_option linter.unusedSimpArgs false
namespace Go.Proofs.Ytfjdfnlkobeehaa



end Go.Proofs.Ytfjdfnlkobeehaa

namespace Go.Proofs.Ytfjdfnlkobeehaa

end Go.Proofs.Ytfjdfnlkobeehaa
end

section
set_option maxRecDepth 100000
set_option linter.unusedVariables false
set_option linter.unusedSimpArgs false
namespace Go.Proofs.Ytfjdfnlkobeehaa


def FX (b : Bool) (xs ds : List Nat) : PV := .agg [.val (.bool b), SU xs, SU ds]
theorem FX_def (b : Bool) (xs ds : List Nat) : FX b xs ds = .agg [.val (.bool b), SU xs, SU ds] := rfl

def FV (b : Bool) (xs ds : List Nat) : Rat := mkRat (WV b xs) (V ds)

def FC (q : Rat) : PV := FX (decide (q.num < 0)) (D q.num.natAbs) (D q.den)
theorem FC_def (q : Rat) : FC q = .agg [.val (.bool (decide (q.num < 0))), SU (D q.num.natAbs), SU (D q.den)] := rfl
section
variable {α : Type} (a b c x y z : α)
theorem spl_333 : spl [a, b, c] 0 [x, y, z] = [x, y, z] := rfl
theorem spl_302 : spl [a, b, c] 0 [x, y] = [x, y, c] := rfl
theorem take_33 : [a, b, c].take 3 = [a, b, c] := rfl
theorem drop_32 : [a, b, c].drop 2 = [c] := rfl
theorem drop_31 : [a, b, c].drop 1 = [b, c] := rfl
theorem take_31 : [a, b, c].take 1 = [a] := rfl
end
attribute [go_sem] FX_def FC_def spl_333 spl_302 take_33 drop_32 drop_31 take_31
theorem FC0 : FC 0 = .agg [.val (.bool false), .sl 0 [], .sl 1 [U 1]] := by
  rw [FC_def, SU_def, SU_def, Rat.zero_num, Rat.zero_den]
  simp [D_zero, D_one]
theorem one_calls : PL 83 [] [1] := by
  refine PCalls.enter (n := 2) (rs := [.tmp 0]) (tb := []) Try.func83 rfl rfl rfl (by kernel_rfl) (by kernel_rfl) (by simp) fun c hc ht => ?_
  simp -implicitDefEqProofs (disch := omega) only [go_sem, ht]
  exact end_own1 (mk := fun p => p) (cs := [PV.val (.int .u32 1)]) (rest := []) (by simp -implicitDefEqProofs (disch := omega) only [go_sem, ht] <;> rfl) (by simp -implicitDefEqProofs (disch := omega) only [go_sem, ht] <;> rfl) (by simp <;> omega) (by simp <;> omega)
theorem size_calls {ds : List Nat} : PT Try.prog 85 [SU ds] (isV (WX false ds)) := by
  refine PCalls.enter (n := 5) (rs := [.cell 2 30]) (tb := []) Try.func85 rfl rfl rfl (by kernel_rfl) (by kernel_rfl) (by simp) fun c hc ht => ?_
  simp -implicitDefEqProofs (disch := omega) only [go_sem, ht]
  (refine end_treeW 0 ?_; simp -implicitDefEqProofs (disch := omega) only [go_sem, ht])
theorem bl_one {g : Nat} (h : g ≠ 0) : bl g = 1 ↔ g = 1 := by
  rw [bl_pos h]
  constructor
  · intro h1
    by_cases h2 : g / 2 = 0
    · omega
    · rw [bl_pos h2] at h1; omega
  · rintro rfl
    rw [show 1 / 2 = 0 from rfl, bl_zero]
theorem rat_step {b : Bool} {m e : Nat} (hm : m ≠ 0) (he : e ≠ 0) : mkRat (sg b (m / Nat.gcd m e)) (e / Nat.gcd m e) = mkRat (sg b m) e := by
  have hg : 0 < Nat.gcd m e := Nat.gcd_pos_of_pos_left _ (Nat.pos_of_ne_zero hm)
  have h1 : m / Nat.gcd m e * Nat.gcd m e = m := Nat.div_mul_cancel (Nat.gcd_dvd_left m e)
  have h2 : e / Nat.gcd m e * Nat.gcd m e = e := Nat.div_mul_cancel (Nat.gcd_dvd_right m e)
  generalize Nat.gcd m e = g at *
  conv => rhs; rw [← h1, ← h2]
  have h3 : sg b (m / g * g) = sg b (m / g) * g := by
    cases b
    · simp [sg]
    · simp only [sg, if_true, Int.natCast_mul, Int.neg_mul]
  rw [h3, Rat.mkRat_mul_right (by omega)]
theorem rat_end {b : Bool} {m e : Nat} (he : e ≠ 0) (hg : Nat.gcd m e = 1) : (mkRat (sg b m) e).num = sg b m ∧ (mkRat (sg b m) e).den = e := by
  rw [Rat.num_mkRat, Rat.den_mkRat, if_neg he, if_neg he, sg_abs, Nat.gcd_comm, hg]
  simp
theorem sg_WV {z : Int} : sg (decide (z < 0)) z.natAbs = z := by
  by_cases h : z < 0
  · simp [sg, h]; omega
  · simp [sg, h]; omega
theorem lowest_calls {b : Bool} {xs ds : List Nat} (hx : Ok xs) (hd : Ok ds) : PT Try.prog 82 [WX b xs, SU ds] (isV (FC (FV b xs ds))) := by
  have ht1 := wtrim_v hx (b := b) rfl
  have ht2 := trim_v hd rfl
  have hone := PLtree one_calls
  unfold FV
  have oz : Ok (D (WV b xs).natAbs) := by rw [WV_abs]; exact hx.short
  have od := hd.short
  have ozl := oz.len
  have odl := od.len
  generalize WV b xs = z at *
  generalize V ds = d at *
  by_cases hd0 : d = 0
  · subst hd0
    rw [Rat.mkRat_zero, FC0]
    rw [D_zero] at ht2
    refine PCalls.enter (n := 49) (rs := [.cell 4 71]) (tb := []) Try.func82 rfl rfl rfl (by kernel_rfl) (by kernel_rfl) (by simp) fun c hc ht => ?_
    simp -implicitDefEqProofs (disch := omega) only [go_sem, ht]
    ((refine pCall_vw (by refine ⟨⟨?_, ?_⟩, ?_, ?_⟩; rotate_left 2; (first | (right; rintro r rfl; rfl) | left); all_goals ((try simp -implicitDefEqProofs (disch := omega) only [go_sem, ht]) <;> rfl)) (ht1) ?_; rintro _ nx_1 - rfl hnx_1; simp -implicitDefEqProofs (disch := omega) only [go_sem, ht]); (refine pCall_vw (by refine ⟨⟨?_, ?_⟩, ?_, ?_⟩; rotate_left 2; (first | (right; rintro r rfl; rfl) | left); all_goals ((try simp -implicitDefEqProofs (disch := omega) only [go_sem, ht]) <;> rfl)) (ht2) ?_; rintro _ nx_2 - rfl hnx_2; simp -implicitDefEqProofs (disch := omega) only [go_sem, ht]); (refine pCall_vw (by refine ⟨⟨?_, ?_⟩, ?_, ?_⟩; rotate_left 2; (first | (right; rintro r rfl; rfl) | left); all_goals ((try simp -implicitDefEqProofs (disch := omega) only [go_sem, ht]) <;> rfl)) (hone) ?_; rintro _ nx_3 - rfl hnx_3; simp -implicitDefEqProofs (disch := omega) only [go_sem, ht]))
    (refine end_treeM 2 ?_; simp -implicitDefEqProofs (disch := omega) only [go_sem, ht])
  by_cases hz0 : z = 0
  · subst hz0
    have hdl : (D d).length ≠ 0 := fun h => hd0 (D_len_zero.1 h)
    rw [Rat.zero_mkRat, FC0]
    rw [WC0] at ht1
    refine PCalls.enter (n := 49) (rs := [.cell 4 71]) (tb := []) Try.func82 rfl rfl rfl (by kernel_rfl) (by kernel_rfl) (by simp) fun c hc ht => ?_
    simp -implicitDefEqProofs (disch := omega) only [go_sem, ht]
    ((refine pCall_vw (by refine ⟨⟨?_, ?_⟩, ?_, ?_⟩; rotate_left 2; (first | (right; rintro r rfl; rfl) | left); all_goals ((try simp -implicitDefEqProofs (disch := omega) only [go_sem, ht]) <;> rfl)) (ht1) ?_; rintro _ nx_4 - rfl hnx_4; simp -implicitDefEqProofs (disch := omega) only [go_sem, ht]); (refine pCall_vw (by refine ⟨⟨?_, ?_⟩, ?_, ?_⟩; rotate_left 2; (first | (right; rintro r rfl; rfl) | left); all_goals ((try simp -implicitDefEqProofs (disch := omega) only [go_sem, ht]) <;> rfl)) (ht2) ?_; rintro _ nx_5 - rfl hnx_5; simp -implicitDefEqProofs (disch := omega) only [go_sem, ht]); (refine pCall_vw (by refine ⟨⟨?_, ?_⟩, ?_, ?_⟩; rotate_left 2; (first | (right; rintro r rfl; rfl) | left); all_goals ((try simp -implicitDefEqProofs (disch := omega) only [go_sem, ht]) <;> rfl)) (hone) ?_; rintro _ nx_6 - rfl hnx_6; simp -implicitDefEqProofs (disch := omega) only [go_sem, ht]))
    (refine end_treeM 2 ?_; simp -implicitDefEqProofs (disch := omega) only [go_sem, ht])
  have hdl : (D d).length ≠ 0 := fun h => hd0 (D_len_zero.1 h)
  have hzl : (D z.natAbs).length ≠ 0 := fun h => hz0 (by have := D_len_zero.1 h; omega)
  have ez : sg (decide (z < 0)) z.natAbs = z := sg_WV
  rw [WC_def] at ht1
  generalize decide (z < 0) = sb at *
  have hm0 : z.natAbs ≠ 0 := by omega
  generalize z.natAbs = m0 at *
  obtain ⟨q, eq⟩ : ∃ q, mkRat z d = q := ⟨_, rfl⟩
  rw [eq]
  rw [← ez] at eq
  clear ez hz0
  refine PCalls.enter (n := 49) (rs := [.cell 4 71]) (tb := []) Try.func82 rfl rfl rfl (by kernel_rfl) (by kernel_rfl) (by simp) fun c hc ht => ?_
  simp -implicitDefEqProofs (disch := omega) only [go_sem, ht]
  ((refine pCall_vw (by refine ⟨⟨?_, ?_⟩, ?_, ?_⟩; rotate_left 2; (first | (right; rintro r rfl; rfl) | left); all_goals ((try simp -implicitDefEqProofs (disch := omega) only [go_sem, ht]) <;> rfl)) (ht1) ?_; rintro _ nx_7 - rfl hnx_7; simp -implicitDefEqProofs (disch := omega) only [go_sem, ht]); (refine pCall_vw (by refine ⟨⟨?_, ?_⟩, ?_, ?_⟩; rotate_left 2; (first | (right; rintro r rfl; rfl) | left); all_goals ((try simp -implicitDefEqProofs (disch := omega) only [go_sem, ht]) <;> rfl)) (ht2) ?_; rintro _ nx_8 - rfl hnx_8; simp -implicitDefEqProofs (disch := omega) only [go_sem, ht]))
  refine LW.loopW hc ht (by kernel_rfl) (fun t => t.sl 4 = .ptr 1 0 ∧ t.H 1 = some [.val (.bool false), .val (.slice none 0 0), .val (.slice none 0 0)] ∧ ∃ r5 m e : Nat, t.sl 5 = .ptr r5 0 ∧ r5 ≠ 1 ∧ 1 < t.nx ∧ r5 < t.nx ∧ t.H r5 = some [.val (.bool sb), .sl (D m).length ((D m).map U)] ∧
      t.sl 6 = .sl (D e).length ((D e).map U) ∧ m ≠ 0 ∧ e ≠ 0 ∧ Ok (D m) ∧ Ok (D e) ∧ mkRat (sg sb m) e = q)
      (fun t => match t.sl 6 with | .sl _ cs => V (cs.map unU) | _ => 0) ?_ ?_
  · simp -implicitDefEqProofs (disch := omega) only [go_sem, ht]
    exact ⟨_, m0, d, rfl, by omega, by omega, upd_self _ _ _, rfl, hm0, hd0, oz, od, eq⟩
  · rintro t ⟨h4, hH1, r5, m, e, h5, hr5, hnx1, hnx5, hH5, h6, hm, he, om, oe, hq⟩
    have hg := gcd_v om oe (V_D m) (V_D e)
    have hg0 : Nat.gcd m e ≠ 0 := Nat.pos_iff_ne_zero.1 (Nat.gcd_pos_of_pos_left _ (Nat.pos_of_ne_zero hm))
    have og : Ok (D (Nat.gcd m e)) := Ok_le om (Nat.le_of_dvd (Nat.pos_of_ne_zero hm) (Nat.gcd_dvd_left m e))
    have hb := bits_v og (V_D _)
    by_cases hg1 : Nat.gcd m e = 1
    · obtain ⟨e1, e2⟩ := rat_end (b := sb) he hg1
      rw [hq] at e1 e2
      have en : decide (q.num < 0) = sb := by
        rw [e1]
        cases sb <;> simp [sg]; omega
      rw [hg1, show bl 1 = 1 from (bl_one (by omega)).2 rfl] at hb
      rw [hg1] at hg
      have ea : q.num.natAbs = m := by rw [e1, sg_abs]
      simp -implicitDefEqProofs (disch := omega) only [go_sem, ht, h4, h5, h6, hH1, hH5]
      ((refine pCall_vw (by refine ⟨⟨?_, ?_⟩, ?_, ?_⟩; rotate_left 2; (first | (right; rintro r rfl; rfl) | left); all_goals ((try simp -implicitDefEqProofs (disch := omega) only [h4, h5, h6, hH1, hH5, go_sem, ht]) <;> rfl)) (hg) ?_; rintro _ nx_9 - rfl hnx_9; simp -implicitDefEqProofs (disch := omega) only [h4, h5, h6, hH1, hH5, go_sem, ht]); (refine pCall_vw (by refine ⟨⟨?_, ?_⟩, ?_, ?_⟩; rotate_left 2; (first | (right; rintro r rfl; rfl) | left); all_goals ((try simp -implicitDefEqProofs (disch := omega) only [h4, h5, h6, hH1, hH5, go_sem, ht]) <;> rfl)) (hb) ?_; rintro _ nx_10 - rfl hnx_10; simp -implicitDefEqProofs (disch := omega) only [h4, h5, h6, hH1, hH5, go_sem, ht]))
      (refine end_treeM 2 ?_; simp -implicitDefEqProofs (disch := omega) only [go_sem, ht, h4, h5, h6, hH1, hH5, en, ea, e2])
    · have hb1 : bl (Nat.gcd m e) ≠ 1 := fun h => hg1 ((bl_one hg0).1 h)
      have hd1 := divmod_v om og (V_D m) (V_D _) hg0
      have hd2 := divmod_v oe og (V_D e) (V_D _) hg0
      have hm1 : m / Nat.gcd m e ≠ 0 := Nat.pos_iff_ne_zero.1 (Nat.div_pos (Nat.le_of_dvd (Nat.pos_of_ne_zero hm) (Nat.gcd_dvd_left m e)) (Nat.pos_of_ne_zero hg0))
      have he1 : e / Nat.gcd m e ≠ 0 := Nat.pos_iff_ne_zero.1 (Nat.div_pos (Nat.le_of_dvd (Nat.pos_of_ne_zero he) (Nat.gcd_dvd_right m e)) (Nat.pos_of_ne_zero hg0))
      have hst := rat_step (b := sb) hm he
      have om1 : Ok (D (m / Nat.gcd m e)) := Ok_le om (Nat.div_le_self _ _)
      have oe1 : Ok (D (e / Nat.gcd m e)) := Ok_le oe (Nat.div_le_self _ _)
      have hlt : e / Nat.gcd m e < e := Nat.div_lt_self (Nat.pos_of_ne_zero he) (by omega)
      rw [hq] at hst
      generalize m / Nat.gcd m e = m1 at *
      generalize e / Nat.gcd m e = e1 at *
      generalize m % Nat.gcd m e = r1 at *
      generalize e % Nat.gcd m e = r2 at *
      generalize bl (Nat.gcd m e) = kb at *
      generalize Nat.gcd m e = g at *
      simp -implicitDefEqProofs (disch := omega) only [go_sem, ht, h4, h5, h6, hH1, hH5]
      ((refine pCall_vw (by refine ⟨⟨?_, ?_⟩, ?_, ?_⟩; rotate_left 2; (first | (right; rintro r rfl; rfl) | left); all_goals ((try simp -implicitDefEqProofs (disch := omega) only [h4, h5, h6, hH1, hH5, go_sem, ht]) <;> rfl)) (hg) ?_; rintro _ nx_11 - rfl hnx_11; simp -implicitDefEqProofs (disch := omega) only [h4, h5, h6, hH1, hH5, go_sem, ht]); (refine pCall_vw (by refine ⟨⟨?_, ?_⟩, ?_, ?_⟩; rotate_left 2; (first | (right; rintro r rfl; rfl) | left); all_goals ((try simp -implicitDefEqProofs (disch := omega) only [h4, h5, h6, hH1, hH5, go_sem, ht]) <;> rfl)) (hb) ?_; rintro _ nx_12 - rfl hnx_12; simp -implicitDefEqProofs (disch := omega) only [h4, h5, h6, hH1, hH5, go_sem, ht]); (refine pCall_vw (by refine ⟨⟨?_, ?_⟩, ?_, ?_⟩; rotate_left 2; (first | (right; rintro r rfl; rfl) | left); all_goals ((try simp -implicitDefEqProofs (disch := omega) only [h4, h5, h6, hH1, hH5, go_sem, ht]) <;> rfl)) (hd1) ?_; rintro _ nx_13 - rfl hnx_13; simp -implicitDefEqProofs (disch := omega) only [h4, h5, h6, hH1, hH5, go_sem, ht]); (refine pCall_vw (by refine ⟨⟨?_, ?_⟩, ?_, ?_⟩; rotate_left 2; (first | (right; rintro r rfl; rfl) | left); all_goals ((try simp -implicitDefEqProofs (disch := omega) only [h4, h5, h6, hH1, hH5, go_sem, ht]) <;> rfl)) (hd2) ?_; rintro _ nx_14 - rfl hnx_14; simp -implicitDefEqProofs (disch := omega) only [h4, h5, h6, hH1, hH5, go_sem, ht]))
      exact ⟨⟨r5, m1, e1, rfl, hr5, by omega, by omega, upd_self _ _ _, rfl, hm1, he1, om1, oe1, hst⟩, by rw [unU_U, unU_U, V_D, V_D]; exact hlt⟩
end Go.Proofs.Ytfjdfnlkobeehaa

namespace Go.Proofs.Ytfjdfnlkobeehaa


structure Zq (k : Nat) (q : Rat) : Prop where
  num : Z k q.num
  den : q.den < 4294967296 ^ k
theorem Zq.mono {k m : Nat} {q : Rat} (h : Zq k q) (hk : k ≤ m) : Zq m q := ⟨h.num.mono hk, lt_mono h.den hk⟩
theorem one_lt_pow {k : Nat} (h : 1 ≤ k) : 1 < 4294967296 ^ k := Nat.one_lt_pow (by omega) (by decide)
theorem Zq.of {k : Nat} {n : Int} {d : Nat} (hk : 1 ≤ k) (hn : Z k n) (hd : d < 4294967296 ^ k) : Zq k (mkRat n d) := by
  have h1 := one_lt_pow hk
  constructor
  · rw [Rat.num_mkRat]
    split
    · unfold Z; exact Nat.lt_trans (by decide) h1
    · exact Z.le hn (Int.natAbs_ediv_le_natAbs _ _)
  · rw [Rat.den_mkRat]
    split
    · exact h1
    · exact Nat.lt_of_le_of_lt (Nat.div_le_self _ _) hd

structure Fn (b : Bool) (xs ds : List Nat) (q : Rat) (k : Nat) : Prop where
  ox : Wn b xs (WV b xs) k
  od : Wn false ds (V ds : Nat) k
  val : FV b xs ds = q
  hk1 : 1 ≤ k
theorem Wn.N {n k : Nat} (h : n < 4294967296 ^ k) (hk : k ≤ 1000000) : Wn false (D n) n k :=
  ⟨.D h (by omega), by simp [WV, sg, V_D], h, D_len_le.2 h, hk⟩
section
variable {b d : Bool} {xs ds ys es : List Nat} {q p : Rat} {k m : Nat}
theorem Fn.zq (h : Fn b xs ds q k) : Zq k q := by
  rw [← h.val]
  exact .of h.hk1 h.ox.z h.od.z
theorem Fn.C (h : Zq k q) (hk : k ≤ 1000000) (hk1 : 1 ≤ k) : Fn (decide (q.num < 0)) (D q.num.natAbs) (D q.den) q k :=
  ⟨by rw [WV_C]; exact .C h.num hk, by rw [V_D]; exact .N h.den hk, by rw [FV, WV_C, V_D, Rat.mkRat_self], hk1⟩
theorem lowestW {z : Int} {e : Nat} (h : Wn b xs z k) (hd : Ok ds) (he : V ds = e) : PT Try.prog 82 [WX b xs, SU ds] (isV (FC (mkRat z e))) := by
  have := lowest_calls (b := b) h.ok hd
  rwa [FV, h.val, he] at this
theorem rtrimW (h : Fn b xs ds q k) : PT Try.prog 84 [FX b xs ds] (isV (FC q)) := by
  have hl := lowest_calls (b := b) h.ox.ok h.od.ok
  rw [h.val] at hl
  refine PCalls.enter (n := 8) (rs := [.cell 2 71]) (tb := []) Try.func84 rfl rfl rfl (by kernel_rfl) (by kernel_rfl) (by simp) fun c hc ht => ?_
  simp -implicitDefEqProofs (disch := omega) only [go_sem, ht]
  ((refine pCall_vw (by refine ⟨⟨?_, ?_⟩, ?_, ?_⟩; rotate_left 2; (first | (right; rintro r rfl; rfl) | left); all_goals ((try simp -implicitDefEqProofs (disch := omega) only [go_sem, ht]) <;> rfl)) (hl) ?_; rintro _ nx_15 - rfl hnx_15; simp -implicitDefEqProofs (disch := omega) only [go_sem, ht]))
  (refine end_treeM 2 ?_; simp -implicitDefEqProofs (disch := omega) only [go_sem, ht])
theorem rfromW {z : Int} (h : Wn b xs z k) : PT Try.prog 41 [WX b xs] (isV (FC (z : Rat))) := by
  have hl := lowestW h (ds := [1]) (Ok.one (by omega)) (e := 1) (by simp [V])
  have e : mkRat z 1 = (z : Rat) := by rw [show (z : Rat) = mkRat z 1 from (Rat.mkRat_one z).symm]
  rw [e] at hl
  have hone := PLtree one_calls
  refine PCalls.enter (n := 6) (rs := [.cell 2 71]) (tb := [(1, [(0, []), (1, [0]), (2, []), (3, [])])]) Try.func41 rfl rfl rfl (by kernel_rfl) (by kernel_rfl) (by simp) fun c hc ht => ?_
  simp -implicitDefEqProofs (disch := omega) only [go_sem, ht]
  ((refine pCall_vw (by refine ⟨⟨?_, ?_⟩, ?_, ?_⟩; rotate_left 2; (first | (right; rintro r rfl; rfl) | left); all_goals ((try simp -implicitDefEqProofs (disch := omega) only [go_sem, ht]) <;> rfl)) (hone) ?_; rintro _ nx_16 - rfl hnx_16; simp -implicitDefEqProofs (disch := omega) only [go_sem, ht]); (refine pCall_vw (by refine ⟨⟨?_, ?_⟩, ?_, ?_⟩; rotate_left 2; (first | (right; rintro r rfl; rfl) | left); all_goals ((try simp -implicitDefEqProofs (disch := omega) only [go_sem, ht]) <;> rfl)) (hl) ?_; rintro _ nx_17 - rfl hnx_17; simp -implicitDefEqProofs (disch := omega) only [go_sem, ht]))
  (refine end_treeM 2 ?_; simp -implicitDefEqProofs (disch := omega) only [go_sem, ht])
theorem mkRat_sign {z : Int} {e : Nat} (he : e ≠ 0) : cZ (mkRat z e).num 0 = cZ z 0 := by
  have hg : 0 < (e.gcd z.natAbs : Int) := by
    have := Nat.gcd_pos_of_pos_left z.natAbs (Nat.pos_of_ne_zero he)
    omega
  have h1 : ((e.gcd z.natAbs : Nat) : Int) ∣ z := Int.ofNat_dvd_left.2 (Nat.gcd_dvd_right _ _)
  have h2 := Int.ediv_mul_cancel h1
  rw [Rat.num_mkRat, if_neg he]
  generalize ((e.gcd z.natAbs : Nat) : Int) = g at *
  generalize z / g = w at *
  subst h2
  rcases Int.lt_trichotomy w 0 with h | h | h
  · rw [cZ_lt h, cZ_lt (Int.mul_neg_of_neg_of_pos h hg)]
  · rw [h, Int.zero_mul]
  · rw [cZ_gt h, cZ_gt (Int.mul_pos h hg)]
theorem rsignW (h : Fn b xs ds q k) : PT Try.prog 45 [FX b xs ds] (isV (.val (.int .i64 (cZ q.num 0)))) := by
  have hb := bits_v h.od.ok rfl
  have hs := wsign_v h.ox.ok (b := b) rfl
  have hv := h.val
  unfold FV at hv
  by_cases h0 : V ds = 0
  · rw [h0, bl_zero] at hb
    rw [h0, Rat.mkRat_zero] at hv
    rw [← hv, Rat.zero_num, cZ_eq rfl]
    refine PCalls.enter (n := 10) (rs := [.tmp 2]) (tb := []) Try.func45 rfl rfl rfl (by kernel_rfl) (by kernel_rfl) (by simp) fun c hc ht => ?_
    simp -implicitDefEqProofs (disch := omega) only [go_sem, ht]
    ((refine pCall_vw (by refine ⟨⟨?_, ?_⟩, ?_, ?_⟩; rotate_left 2; (first | (right; rintro r rfl; rfl) | left); all_goals ((try simp -implicitDefEqProofs (disch := omega) only [go_sem, ht]) <;> rfl)) (hb) ?_; rintro _ nx_18 - rfl hnx_18; simp -implicitDefEqProofs (disch := omega) only [go_sem, ht]))
    (refine end_treeW 0 ?_; simp -implicitDefEqProofs (disch := omega) only [go_sem, ht])
  · have hp := bl_pos' h0
    have e := mkRat_sign (z := WV b xs) h0
    rw [hv] at e
    rw [← e] at hs
    generalize bl (V ds) = kb at *
    generalize cZ q.num 0 = s at *
    refine PCalls.enter (n := 10) (rs := [.tmp 2]) (tb := []) Try.func45 rfl rfl rfl (by kernel_rfl) (by kernel_rfl) (by simp) fun c hc ht => ?_
    simp -implicitDefEqProofs (disch := omega) only [go_sem, ht]
    ((refine pCall_vw (by refine ⟨⟨?_, ?_⟩, ?_, ?_⟩; rotate_left 2; (first | (right; rintro r rfl; rfl) | left); all_goals ((try simp -implicitDefEqProofs (disch := omega) only [go_sem, ht]) <;> rfl)) (hb) ?_; rintro _ nx_19 - rfl hnx_19; simp -implicitDefEqProofs (disch := omega) only [go_sem, ht]); (refine pCall_vw (by refine ⟨⟨?_, ?_⟩, ?_, ?_⟩; rotate_left 2; (first | (right; rintro r rfl; rfl) | left); all_goals ((try simp -implicitDefEqProofs (disch := omega) only [go_sem, ht]) <;> rfl)) (hs) ?_; rintro _ nx_20 - rfl hnx_20; simp -implicitDefEqProofs (disch := omega) only [go_sem, ht]))
    (refine end_treeW 0 ?_; simp -implicitDefEqProofs (disch := omega) only [go_sem, ht])

end
end Go.Proofs.Ytfjdfnlkobeehaa

namespace Go.Proofs.Ytfjdfnlkobeehaa


def cR (q p : Rat) : Int := cZ (q.num * p.den) (p.num * q.den)
section
variable {b d : Bool} {xs ds ys es : List Nat} {q p : Rat} {k m : Nat}
theorem rcmpW (h : Fn b xs ds q k) (g : Fn d ys es p k) (hk : 3 * k ≤ 100000) : PT Try.prog 44 [FX b xs ds, FX d ys es] (isV (.val (.int .i64 (cR q p)))) := by
  have t1 := rtrimW h
  have t2 := rtrimW g
  have hq := h.zq
  have hp := g.zq
  have s1 := size_calls (ds := D p.den)
  have s2 := size_calls (ds := D q.den)
  have m1 := mulW (Wn.C hq.num (by omega)) (Wn.N hp.den (by omega))
  have m2 := mulW (Wn.C hp.num (by omega)) (Wn.N hq.den (by omega))
  have cc := cmpW (Wn.C (hq.num.mul (Wn.N hp.den (by omega)).z) (by omega)) (Wn.C (hp.num.mul (Wn.N hq.den (by omega)).z) (by omega))
  unfold cR
  generalize q.num * (p.den : Int) = z1 at *
  generalize p.num * (q.den : Int) = z2 at *
  generalize cZ z1 z2 = c0 at *
  refine PCalls.enter (n := 22) (rs := [.tmp 4]) (tb := [(1, [(0, []), (2, []), (1, [2]), (3, []), (4, []), (5, [])]), (2, [(0, []), (1, []), (2, []), (3, []), (6, []), (7, []), (8, []), (9, []), (4, [0, 1, 6, 7, 8, 9]), (5, [6, 7, 8, 9]), (10, [6, 7]), (11, []), (12, []), (13, [])]), (1000002, [(0, []), (1, []), (0, []), (4, []), (12, []), (31, []), (0, []), (64, []), (0, []), (256, []), (831, []), (2047, []), (4095, []), (8191, [])])]) Try.func44 rfl rfl rfl (by kernel_rfl) (by kernel_rfl) (by simp) fun c hc ht => ?_
  simp -implicitDefEqProofs (disch := omega) only [go_sem, ht]
  ((refine pCall_vw (by refine ⟨⟨?_, ?_⟩, ?_, ?_⟩; rotate_left 2; (first | (right; rintro r rfl; rfl) | left); all_goals ((try simp -implicitDefEqProofs (disch := omega) only [go_sem, ht]) <;> rfl)) (t1) ?_; rintro _ nx_21 - rfl hnx_21; simp -implicitDefEqProofs (disch := omega) only [go_sem, ht]); (refine pCall_vw (by refine ⟨⟨?_, ?_⟩, ?_, ?_⟩; rotate_left 2; (first | (right; rintro r rfl; rfl) | left); all_goals ((try simp -implicitDefEqProofs (disch := omega) only [go_sem, ht]) <;> rfl)) (t2) ?_; rintro _ nx_22 - rfl hnx_22; simp -implicitDefEqProofs (disch := omega) only [go_sem, ht]); (refine pCall_vw (by refine ⟨⟨?_, ?_⟩, ?_, ?_⟩; rotate_left 2; (first | (right; rintro r rfl; rfl) | left); all_goals ((try simp -implicitDefEqProofs (disch := omega) only [go_sem, ht]) <;> rfl)) (s1) ?_; rintro _ nx_23 - rfl hnx_23; simp -implicitDefEqProofs (disch := omega) only [go_sem, ht]); (refine pCall_vw (by refine ⟨⟨?_, ?_⟩, ?_, ?_⟩; rotate_left 2; (first | (right; rintro r rfl; rfl) | left); all_goals ((try simp -implicitDefEqProofs (disch := omega) only [go_sem, ht]) <;> rfl)) (m1) ?_; rintro _ nx_24 - rfl hnx_24; simp -implicitDefEqProofs (disch := omega) only [go_sem, ht]); (refine pCall_vw (by refine ⟨⟨?_, ?_⟩, ?_, ?_⟩; rotate_left 2; (first | (right; rintro r rfl; rfl) | left); all_goals ((try simp -implicitDefEqProofs (disch := omega) only [go_sem, ht]) <;> rfl)) (s2) ?_; rintro _ nx_25 - rfl hnx_25; simp -implicitDefEqProofs (disch := omega) only [go_sem, ht]); (refine pCall_vw (by refine ⟨⟨?_, ?_⟩, ?_, ?_⟩; rotate_left 2; (first | (right; rintro r rfl; rfl) | left); all_goals ((try simp -implicitDefEqProofs (disch := omega) only [go_sem, ht]) <;> rfl)) (m2) ?_; rintro _ nx_26 - rfl hnx_26; simp -implicitDefEqProofs (disch := omega) only [go_sem, ht]); (refine pCall_vw (by refine ⟨⟨?_, ?_⟩, ?_, ?_⟩; rotate_left 2; (first | (right; rintro r rfl; rfl) | left); all_goals ((try simp -implicitDefEqProofs (disch := omega) only [go_sem, ht]) <;> rfl)) (cc) ?_; rintro _ nx_27 - rfl hnx_27; simp -implicitDefEqProofs (disch := omega) only [go_sem, ht]))
  (refine end_treeW 0 ?_; simp -implicitDefEqProofs (disch := omega) only [go_sem, ht])
theorem raddW (h : Fn b xs ds q k) (g : Fn d ys es p k) (hk : 3 * k ≤ 100000) : PT Try.prog 42 [FX b xs ds, FX d ys es] (isV (FC (q + p))) := by
  have t1 := rtrimW h
  have t2 := rtrimW g
  have hq := h.zq
  have hp := g.zq
  have s1 := size_calls (ds := D p.den)
  have s2 := size_calls (ds := D q.den)
  have m1 := mulW (Wn.C hq.num (by omega)) (Wn.N hp.den (by omega))
  have m2 := mulW (Wn.C hp.num (by omega)) (Wn.N hq.den (by omega))
  have z1 := hq.num.mul (Wn.N hp.den (by omega)).z
  have z2 := hp.num.mul (Wn.N hq.den (by omega)).z
  have a1 := addW (Wn.C z1 (by omega)) (Wn.C z2 (by omega))
  have l1 := mul_v (xs := D q.den) (ys := D p.den) (.D hq.den (by omega)) (.D hp.den (by omega)) (V_D _) (V_D _)
  have o1 : Ok (D (q.den * p.den)) := .D (lt_mul hq.den hp.den) (by omega)
  have lw := lowestW (Wn.C (z1.add z2) (by omega)) o1 (V_D _)
  rw [← Rat.add_def'] at lw
  generalize q.num * (p.den : Int) + p.num * (q.den : Int) = z3 at *
  generalize q.num * (p.den : Int) = z1 at *
  generalize p.num * (q.den : Int) = z2 at *
  generalize q.den * p.den = dd at *
  refine PCalls.enter (n := 30) (rs := [.cell 4 71]) (tb := [(1, [(0, []), (2, []), (1, [2]), (3, []), (4, []), (5, [])]), (2, [(0, []), (1, []), (2, []), (3, []), (6, []), (7, []), (8, []), (9, []), (4, [0, 1, 6, 7, 8, 9]), (5, [6, 7, 8, 9]), (10, [6, 7]), (11, []), (12, []), (13, [0, 1, 2, 3, 6, 7, 8, 9]), (14, [])]), (1000002, [(0, []), (1, []), (0, []), (4, []), (12, []), (31, []), (0, []), (64, []), (0, []), (256, []), (831, []), (2047, []), (4095, []), (0, []), (16383, [])]), (3, [(0, []), (1, []), (2, []), (3, []), (4, []), (5, [0]), (6, []), (7, [])])]) Try.func42 rfl rfl rfl (by kernel_rfl) (by kernel_rfl) (by simp) fun c hc ht => ?_
  simp -implicitDefEqProofs (disch := omega) only [go_sem, ht]
  ((refine pCall_vw (by refine ⟨⟨?_, ?_⟩, ?_, ?_⟩; rotate_left 2; (first | (right; rintro r rfl; rfl) | left); all_goals ((try simp -implicitDefEqProofs (disch := omega) only [go_sem, ht]) <;> rfl)) (t1) ?_; rintro _ nx_28 - rfl hnx_28; simp -implicitDefEqProofs (disch := omega) only [go_sem, ht]); (refine pCall_vw (by refine ⟨⟨?_, ?_⟩, ?_, ?_⟩; rotate_left 2; (first | (right; rintro r rfl; rfl) | left); all_goals ((try simp -implicitDefEqProofs (disch := omega) only [go_sem, ht]) <;> rfl)) (t2) ?_; rintro _ nx_29 - rfl hnx_29; simp -implicitDefEqProofs (disch := omega) only [go_sem, ht]); (refine pCall_vw (by refine ⟨⟨?_, ?_⟩, ?_, ?_⟩; rotate_left 2; (first | (right; rintro r rfl; rfl) | left); all_goals ((try simp -implicitDefEqProofs (disch := omega) only [go_sem, ht]) <;> rfl)) (s1) ?_; rintro _ nx_30 - rfl hnx_30; simp -implicitDefEqProofs (disch := omega) only [go_sem, ht]); (refine pCall_vw (by refine ⟨⟨?_, ?_⟩, ?_, ?_⟩; rotate_left 2; (first | (right; rintro r rfl; rfl) | left); all_goals ((try simp -implicitDefEqProofs (disch := omega) only [go_sem, ht]) <;> rfl)) (m1) ?_; rintro _ nx_31 - rfl hnx_31; simp -implicitDefEqProofs (disch := omega) only [go_sem, ht]); (refine pCall_vw (by refine ⟨⟨?_, ?_⟩, ?_, ?_⟩; rotate_left 2; (first | (right; rintro r rfl; rfl) | left); all_goals ((try simp -implicitDefEqProofs (disch := omega) only [go_sem, ht]) <;> rfl)) (s2) ?_; rintro _ nx_32 - rfl hnx_32; simp -implicitDefEqProofs (disch := omega) only [go_sem, ht]); (refine pCall_vw (by refine ⟨⟨?_, ?_⟩, ?_, ?_⟩; rotate_left 2; (first | (right; rintro r rfl; rfl) | left); all_goals ((try simp -implicitDefEqProofs (disch := omega) only [go_sem, ht]) <;> rfl)) (m2) ?_; rintro _ nx_33 - rfl hnx_33; simp -implicitDefEqProofs (disch := omega) only [go_sem, ht]); (refine pCall_vw (by refine ⟨⟨?_, ?_⟩, ?_, ?_⟩; rotate_left 2; (first | (right; rintro r rfl; rfl) | left); all_goals ((try simp -implicitDefEqProofs (disch := omega) only [go_sem, ht]) <;> rfl)) (a1) ?_; rintro _ nx_34 - rfl hnx_34; simp -implicitDefEqProofs (disch := omega) only [go_sem, ht]); (refine pCall_vw (by refine ⟨⟨?_, ?_⟩, ?_, ?_⟩; rotate_left 2; (first | (right; rintro r rfl; rfl) | left); all_goals ((try simp -implicitDefEqProofs (disch := omega) only [go_sem, ht]) <;> rfl)) (l1) ?_; rintro _ nx_35 - rfl hnx_35; simp -implicitDefEqProofs (disch := omega) only [go_sem, ht]); (refine pCall_vw (by refine ⟨⟨?_, ?_⟩, ?_, ?_⟩; rotate_left 2; (first | (right; rintro r rfl; rfl) | left); all_goals ((try simp -implicitDefEqProofs (disch := omega) only [go_sem, ht]) <;> rfl)) (lw) ?_; rintro _ nx_36 - rfl hnx_36; simp -implicitDefEqProofs (disch := omega) only [go_sem, ht]))
  (refine end_treeM 2 ?_; simp -implicitDefEqProofs (disch := omega) only [go_sem, ht])

theorem rmulW (h : Fn b xs ds q k) (g : Fn d ys es p k) (hk : 3 * k ≤ 100000) : PT Try.prog 43 [FX b xs ds, FX d ys es] (isV (FC (q * p))) := by
  have m1 := mulW h.ox g.ox
  have z1 := h.ox.z.mul g.ox.z
  have l1 := mul_v h.od.ok g.od.ok rfl rfl
  have o1 : Ok (D (V ds * V es)) := .D (lt_mul h.od.z g.od.z) (by omega)
  have lw := lowestW (Wn.C z1 (by omega)) o1 (V_D _)
  have e : mkRat (WV b xs * WV d ys) (V ds * V es) = q * p := by rw [← h.val, ← g.val, FV, FV, Rat.mkRat_mul_mkRat]
  rw [e] at lw
  generalize WV b xs * WV d ys = z at *
  generalize V ds * V es = dd at *
  refine PCalls.enter (n := 16) (rs := [.cell 4 71]) (tb := [(1, [(0, []), (1, []), (2, []), (3, []), (5, []), (6, []), (7, []), (8, []), (4, [5, 6, 7, 8]), (9, []), (10, []), (11, [])]), (1000001, [(0, []), (1, []), (0, []), (4, []), (15, []), (0, []), (32, []), (0, []), (128, []), (511, []), (1023, []), (2047, [])])]) Try.func43 rfl rfl rfl (by kernel_rfl) (by kernel_rfl) (by simp) fun c hc ht => ?_
  simp -implicitDefEqProofs (disch := omega) only [go_sem, ht]
  ((refine pCall_vw (by refine ⟨⟨?_, ?_⟩, ?_, ?_⟩; rotate_left 2; (first | (right; rintro r rfl; rfl) | left); all_goals ((try simp -implicitDefEqProofs (disch := omega) only [go_sem, ht]) <;> rfl)) (m1) ?_; rintro _ nx_37 - rfl hnx_37; simp -implicitDefEqProofs (disch := omega) only [go_sem, ht]); (refine pCall_vw (by refine ⟨⟨?_, ?_⟩, ?_, ?_⟩; rotate_left 2; (first | (right; rintro r rfl; rfl) | left); all_goals ((try simp -implicitDefEqProofs (disch := omega) only [go_sem, ht]) <;> rfl)) (l1) ?_; rintro _ nx_38 - rfl hnx_38; simp -implicitDefEqProofs (disch := omega) only [go_sem, ht]); (refine pCall_vw (by refine ⟨⟨?_, ?_⟩, ?_, ?_⟩; rotate_left 2; (first | (right; rintro r rfl; rfl) | left); all_goals ((try simp -implicitDefEqProofs (disch := omega) only [go_sem, ht]) <;> rfl)) (lw) ?_; rintro _ nx_39 - rfl hnx_39; simp -implicitDefEqProofs (disch := omega) only [go_sem, ht]))
  (refine end_treeM 2 ?_; simp -implicitDefEqProofs (disch := omega) only [go_sem, ht])
theorem Zq.mul (h : Fn b xs ds q k) (g : Fn d ys es p k) : Zq (2 * k) (q * p) := by
  rw [← h.val, ← g.val, FV, FV, Rat.mkRat_mul_mkRat, Nat.two_mul]
  exact .of (by have := h.hk1; omega) (h.ox.z.mul g.ox.z) (lt_mul h.od.z g.od.z)


end
end Go.Proofs.Ytfjdfnlkobeehaa
end

section
set_option maxRecDepth 100000
set_option linter.unusedVariables false
set_option linter.unusedSimpArgs false
namespace Go.Proofs.Ytfjdfnlkobeehaa


def FZ : PV := .agg [.val (.bool false), .sl 0 [], .sl 0 []]
theorem FZ_def : FZ = .agg [.val (.bool false), .sl 0 [], .sl 0 []] := rfl
attribute [go_sem] FZ_def
theorem rat_over {x y : Int} (hy : y ≠ 0) : mkRat (if y < 0 then -x else x) y.natAbs = Rat.divInt x y := by
  by_cases h : y < 0
  · rw [if_pos h]
    have e : y = -(y.natAbs : Int) := by omega
    conv => rhs; rw [e, Rat.divInt_neg', Rat.divInt_ofNat]
  · rw [if_neg h]
    have e : y = (y.natAbs : Int) := by omega
    conv => rhs; rw [e, Rat.divInt_ofNat]
section
variable {b d : Bool} {xs ds ys es : List Nat} {q p : Rat} {k m : Nat} {x y : Int}
theorem sg_flag (hv : WV d ys = y) (hy : y ≠ 0) : d = decide (y < 0) := by
  unfold WV sg at hv
  cases d
  · simp at hv; simp; omega
  · simp at hv; simp; omega
theorem rofW (h : Wn b xs x k) (g : Wn d ys y m) (hy : y ≠ 0) : PT Try.prog 80 [WX b xs, WX d ys] (isV (.tup [FC (Rat.divInt x y), .val (.int .i64 0)])) := by
  have hs := signW g
  have hs0 : cZ y 0 ≠ 0 := by unfold cZ; split <;> (try split) <;> omega
  have hd := sg_flag g.val hy
  rw [← rat_over hy]
  have hn := negW h
  have l1 := lowestW (Wn.C h.z.neg h.hk) g.ok g.abs
  have l2 := lowestW h g.ok g.abs
  generalize cZ y 0 = c0 at *
  by_cases hneg : y < 0
  · rw [decide_eq_true hneg] at hd
    subst hd
    rw [if_pos hneg]
    refine PCalls.enter (n := 18) (rs := [.cell 4 71, .tmp 5]) (tb := []) Try.func80 rfl rfl rfl (by kernel_rfl) (by kernel_rfl) (by simp) fun c hc ht => ?_
    simp -implicitDefEqProofs (disch := omega) only [go_sem, ht]
    ((refine pCall_vw (by refine ⟨⟨?_, ?_⟩, ?_, ?_⟩; rotate_left 2; (first | (right; rintro r rfl; rfl) | left); all_goals ((try simp -implicitDefEqProofs (disch := omega) only [go_sem, ht]) <;> rfl)) (hs) ?_; rintro _ nx_2 - rfl hnx_2; simp -implicitDefEqProofs (disch := omega) only [go_sem, ht]); (refine pCall_vw (by refine ⟨⟨?_, ?_⟩, ?_, ?_⟩; rotate_left 2; (first | (right; rintro r rfl; rfl) | left); all_goals ((try simp -implicitDefEqProofs (disch := omega) only [go_sem, ht]) <;> rfl)) (hn) ?_; rintro _ nx_3 - rfl hnx_3; simp -implicitDefEqProofs (disch := omega) only [go_sem, ht]); (refine pCall_vw (by refine ⟨⟨?_, ?_⟩, ?_, ?_⟩; rotate_left 2; (first | (right; rintro r rfl; rfl) | left); all_goals ((try simp -implicitDefEqProofs (disch := omega) only [go_sem, ht]) <;> rfl)) (l1) ?_; rintro _ nx_4 - rfl hnx_4; simp -implicitDefEqProofs (disch := omega) only [go_sem, ht]))
    (refine end_treeM 2 ?_; simp -implicitDefEqProofs (disch := omega) only [go_sem, ht])
  · rw [decide_eq_false hneg] at hd
    subst hd
    rw [if_neg hneg]
    refine PCalls.enter (n := 18) (rs := [.cell 4 71, .tmp 5]) (tb := []) Try.func80 rfl rfl rfl (by kernel_rfl) (by kernel_rfl) (by simp) fun c hc ht => ?_
    simp -implicitDefEqProofs (disch := omega) only [go_sem, ht]
    ((refine pCall_vw (by refine ⟨⟨?_, ?_⟩, ?_, ?_⟩; rotate_left 2; (first | (right; rintro r rfl; rfl) | left); all_goals ((try simp -implicitDefEqProofs (disch := omega) only [go_sem, ht]) <;> rfl)) (hs) ?_; rintro _ nx_5 - rfl hnx_5; simp -implicitDefEqProofs (disch := omega) only [go_sem, ht]); (refine pCall_vw (by refine ⟨⟨?_, ?_⟩, ?_, ?_⟩; rotate_left 2; (first | (right; rintro r rfl; rfl) | left); all_goals ((try simp -implicitDefEqProofs (disch := omega) only [go_sem, ht]) <;> rfl)) (l2) ?_; rintro _ nx_6 - rfl hnx_6; simp -implicitDefEqProofs (disch := omega) only [go_sem, ht]))
    (refine end_treeM 2 ?_; simp -implicitDefEqProofs (disch := omega) only [go_sem, ht])



end


end Go.Proofs.Ytfjdfnlkobeehaa

namespace Go.Proofs.Ytfjdfnlkobeehaa

section
variable {q p t : Rat}
theorem cR_eq (h : q = p) : cR q p = 0 := cZ_eq (by rw [h])
end
end Go.Proofs.Ytfjdfnlkobeehaa
end
