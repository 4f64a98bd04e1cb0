/- Part 38 of the way to the statement: the walk and what it needs. -/
import Derived.Test.YtfjdfnlkobeehaaKDeF26
import Derived.Test.YtfjdfnlkobeehaaKDeF31
import Derived.Test.YtfjdfnlkobeehaaKDeF37
import Derived.Laws.RangeAny
section
set_option maxRecDepth 100000
set_option linter.unusedVariables false
set_option linter.unusedSimpArgs false
namespace Go.Proofs.Ytfjdfnlkobeehaa



end Go.Proofs.Ytfjdfnlkobeehaa

namespace Go.Proofs.Ytfjdfnlkobeehaa

end Go.Proofs.Ytfjdfnlkobeehaa
end

section
set_option maxRecDepth 100000
set_option linter.unusedVariables false
set_option linter.unusedSimpArgs false
namespace Go.Proofs.Ytfjdfnlkobeehaa


def FX (b : Bool) (xs ds : List Nat) : PV := .agg [.val (.bool b), SU xs, SU ds]
theorem FX_def (b : Bool) (xs ds : List Nat) : FX b xs ds = .agg [.val (.bool b), SU xs, SU ds] := rfl

def FV (b : Bool) (xs ds : List Nat) : Rat := mkRat (WV b xs) (V ds)

def FC (q : Rat) : PV := FX (decide (q.num < 0)) (D q.num.natAbs) (D q.den)
theorem FC_def (q : Rat) : FC q = .agg [.val (.bool (decide (q.num < 0))), SU (D q.num.natAbs), SU (D q.den)] := rfl
section
variable {α : Type} (a b c x y z : α)
theorem spl_333 : spl [a, b, c] 0 [x, y, z] = [x, y, z] := rfl
theorem spl_302 : spl [a, b, c] 0 [x, y] = [x, y, c] := rfl
theorem take_33 : [a, b, c].take 3 = [a, b, c] := rfl
theorem drop_32 : [a, b, c].drop 2 = [c] := rfl
theorem drop_31 : [a, b, c].drop 1 = [b, c] := rfl
theorem take_31 : [a, b, c].take 1 = [a] := rfl
end
attribute [go_sem] FX_def FC_def spl_333 spl_302 take_33 drop_32 drop_31 take_31
theorem size_calls {ds : List Nat} : PT Try.prog 85 [SU ds] (isV (WX false ds)) := by
  refine PCalls.enter (n := 5) (rs := [.cell 2 30]) (tb := []) Try.func85 rfl rfl rfl (by kernel_rfl) (by kernel_rfl) (by simp) fun c hc ht => ?_
  simp -implicitDefEqProofs (disch := omega) only [go_sem, ht]
  (refine end_treeW 0 ?_; simp -implicitDefEqProofs (disch := omega) only [go_sem, ht])
theorem rat_step {b : Bool} {m e : Nat} (hm : m ≠ 0) (he : e ≠ 0) : mkRat (sg b (m / Nat.gcd m e)) (e / Nat.gcd m e) = mkRat (sg b m) e := by
  have hg : 0 < Nat.gcd m e := Nat.gcd_pos_of_pos_left _ (Nat.pos_of_ne_zero hm)
  have h1 : m / Nat.gcd m e * Nat.gcd m e = m := Nat.div_mul_cancel (Nat.gcd_dvd_left m e)
  have h2 : e / Nat.gcd m e * Nat.gcd m e = e := Nat.div_mul_cancel (Nat.gcd_dvd_right m e)
  generalize Nat.gcd m e = g at *
  conv => rhs; rw [← h1, ← h2]
  have h3 : sg b (m / g * g) = sg b (m / g) * g := by
    cases b
    · simp [sg]
    · simp only [sg, if_true, Int.natCast_mul, Int.neg_mul]
  rw [h3, Rat.mkRat_mul_right (by omega)]
theorem rat_end {b : Bool} {m e : Nat} (he : e ≠ 0) (hg : Nat.gcd m e = 1) : (mkRat (sg b m) e).num = sg b m ∧ (mkRat (sg b m) e).den = e := by
  rw [Rat.num_mkRat, Rat.den_mkRat, if_neg he, if_neg he, sg_abs, Nat.gcd_comm, hg]
  simp
theorem sg_WV {z : Int} : sg (decide (z < 0)) z.natAbs = z := by
  by_cases h : z < 0
  · simp [sg, h]; omega
  · simp [sg, h]; omega
end Go.Proofs.Ytfjdfnlkobeehaa

namespace Go.Proofs.Ytfjdfnlkobeehaa


structure Zq (k : Nat) (q : Rat) : Prop where
  num : Z k q.num
  den : q.den < 4294967296 ^ k
theorem Zq.mono {k m : Nat} {q : Rat} (h : Zq k q) (hk : k ≤ m) : Zq m q := ⟨h.num.mono hk, lt_mono h.den hk⟩
theorem one_lt_pow {k : Nat} (h : 1 ≤ k) : 1 < 4294967296 ^ k := Nat.one_lt_pow (by omega) (by decide)
theorem Zq.of {k : Nat} {n : Int} {d : Nat} (hk : 1 ≤ k) (hn : Z k n) (hd : d < 4294967296 ^ k) : Zq k (mkRat n d) := by
  have h1 := one_lt_pow hk
  constructor
  · rw [Rat.num_mkRat]
    split
    · unfold Z; exact Nat.lt_trans (by decide) h1
    · exact Z.le hn (Int.natAbs_ediv_le_natAbs _ _)
  · rw [Rat.den_mkRat]
    split
    · exact h1
    · exact Nat.lt_of_le_of_lt (Nat.div_le_self _ _) hd

structure Fn (b : Bool) (xs ds : List Nat) (q : Rat) (k : Nat) : Prop where
  ox : Wn b xs (WV b xs) k
  od : Wn false ds (V ds : Nat) k
  val : FV b xs ds = q
  hk1 : 1 ≤ k
theorem Wn.N {n k : Nat} (h : n < 4294967296 ^ k) (hk : k ≤ 1000000) : Wn false (D n) n k :=
  ⟨.D h (by omega), by simp [WV, sg, V_D], h, D_len_le.2 h, hk⟩
section
variable {b d : Bool} {xs ds ys es : List Nat} {q p : Rat} {k m : Nat}
theorem Fn.C (h : Zq k q) (hk : k ≤ 1000000) (hk1 : 1 ≤ k) : Fn (decide (q.num < 0)) (D q.num.natAbs) (D q.den) q k :=
  ⟨by rw [WV_C]; exact .C h.num hk, by rw [V_D]; exact .N h.den hk, by rw [FV, WV_C, V_D, Rat.mkRat_self], hk1⟩
end
end Go.Proofs.Ytfjdfnlkobeehaa

namespace Go.Proofs.Ytfjdfnlkobeehaa


section
variable {b d : Bool} {xs ds ys es : List Nat} {q p : Rat} {k m : Nat}
theorem Zq.mul (h : Fn b xs ds q k) (g : Fn d ys es p k) : Zq (2 * k) (q * p) := by
  rw [← h.val, ← g.val, FV, FV, Rat.mkRat_mul_mkRat, Nat.two_mul]
  exact .of (by have := h.hk1; omega) (h.ox.z.mul g.ox.z) (lt_mul h.od.z g.od.z)


end
end Go.Proofs.Ytfjdfnlkobeehaa
end

section
set_option maxRecDepth 100000
set_option linter.unusedVariables false
set_option linter.unusedSimpArgs false
namespace Go.Proofs.Ytfjdfnlkobeehaa


def FZ : PV := .agg [.val (.bool false), .sl 0 [], .sl 0 []]
theorem FZ_def : FZ = .agg [.val (.bool false), .sl 0 [], .sl 0 []] := rfl
attribute [go_sem] FZ_def
theorem rat_over {x y : Int} (hy : y ≠ 0) : mkRat (if y < 0 then -x else x) y.natAbs = Rat.divInt x y := by
  by_cases h : y < 0
  · rw [if_pos h]
    have e : y = -(y.natAbs : Int) := by omega
    conv => rhs; rw [e, Rat.divInt_neg', Rat.divInt_ofNat]
  · rw [if_neg h]
    have e : y = (y.natAbs : Int) := by omega
    conv => rhs; rw [e, Rat.divInt_ofNat]
end Go.Proofs.Ytfjdfnlkobeehaa

namespace Go.Proofs.Ytfjdfnlkobeehaa

end Go.Proofs.Ytfjdfnlkobeehaa
end

section
set_option maxRecDepth 100000
set_option linter.unusedVariables false
set_option linter.unusedSimpArgs false
namespace Go.Proofs.Ytfjdfnlkobeehaa.Ref


def QZ (p : Int) (d : Nat) : PV := .agg [.val (.bool (decide (p < 0))), .sl (D p.natAbs).length ((D p.natAbs).map I), .val (.bool false), .sl (D d).length ((D d).map I)]
theorem QZ_def (p : Int) (d : Nat) : QZ p d = .agg [.val (.bool (decide (p < 0))), .sl (D p.natAbs).length ((D p.natAbs).map I), .val (.bool false), .sl (D d).length ((D d).map I)] := rfl
attribute [go_sem] QZ_def
section
variable {α : Type} (a b c d w x y z : α)
theorem spl_404 : spl [a, b, c, d] 0 [w, x, y, z] = [w, x, y, z] := rfl
theorem spl_402 : spl [a, b, c, d] 0 [x, y] = [x, y, c, d] := rfl
theorem spl_422 : spl [a, b, c, d] 2 [x, y] = [a, b, x, y] := rfl
theorem take_44 : [a, b, c, d].take 4 = [a, b, c, d] := rfl
theorem take_42 : [a, b, c, d].take 2 = [a, b] := rfl
theorem drop_42 : [a, b, c, d].drop 2 = [c, d] := rfl
end
attribute [go_sem] spl_404 spl_402 spl_422 take_44 take_42 drop_42
theorem NZ_nat_def (n : Nat) : NZ (n : Int) = .agg [.val (.bool false), .sl (D n).length ((D n).map I)] := by
  rw [← NZ_nat, NP_def]
section
variable {b d : Bool} {xs ys ds es : List Nat} {x y : Int} {k m g : Nat} {q p : Rat}

theorem over_z (hx : Z k x) (hg : g < 4294967296 ^ k) (hk : k ≤ 100000) (h0 : g ≠ 0) : PT Try.prog 121 [NZ x, NZ g] (isV (NZ (sg (decide (x < 0)) (x.natAbs / g)))) := by
  have zg : Z k (g : Int) := hg
  have hd := divided_z (a := x) (b := (g : Int)) (okZ hx (by omega)) (okZ zg (by omega)) (by omega) (by have := lenZ zg; omega)
  rw [show ((g : Nat) : Int).natAbs = g from rfl] at hd
  have zq : Z k ((x.natAbs / g : Nat) : Int) := Nat.lt_of_le_of_lt (Nat.div_le_self _ _) hx
  have hm := minus_z (okZ zq (by omega))
  by_cases hs : x < 0
  · rw [decide_eq_true hs, sg_t]
    generalize -((x.natAbs / g : Nat) : Int) = q2 at *
    generalize ((x.natAbs / g : Nat) : Int) = q1 at *
    rw [NZ_nat_def] at hd ⊢
    rw [NZ_def x, decide_eq_true hs] at hd ⊢
    refine PCalls.enter (n := 21) (rs := [.cell 4 103]) (tb := []) Try.func121 rfl rfl rfl (by kernel_rfl) (by kernel_rfl) (by simp) fun c hc ht => ?_
    simp -implicitDefEqProofs (disch := omega) only [go_sem, ht]
    ((refine pCall_vw (by refine ⟨⟨?_, ?_⟩, ?_, ?_⟩; rotate_left 2; (first | (right; rintro r rfl; rfl) | left); all_goals ((try simp -implicitDefEqProofs (disch := omega) only [go_sem, ht]) <;> rfl)) (hd) ?_; rintro _ nx_1 - rfl hnx_1; simp -implicitDefEqProofs (disch := omega) only [go_sem, ht]); (refine pCall_vw (by refine ⟨⟨?_, ?_⟩, ?_, ?_⟩; rotate_left 2; (first | (right; rintro r rfl; rfl) | left); all_goals ((try simp -implicitDefEqProofs (disch := omega) only [go_sem, ht]) <;> rfl)) (hm) ?_; rintro _ nx_2 - rfl hnx_2; simp -implicitDefEqProofs (disch := omega) only [go_sem, ht]))
    (refine end_treeM 2 ?_; simp -implicitDefEqProofs (disch := omega) only [go_sem, ht])
  · rw [decide_eq_false hs, sg_f]
    generalize ((x.natAbs / g : Nat) : Int) = q1 at *
    rw [NZ_nat_def] at hd ⊢
    rw [NZ_def x, decide_eq_false hs] at hd ⊢
    refine PCalls.enter (n := 21) (rs := [.cell 4 103]) (tb := []) Try.func121 rfl rfl rfl (by kernel_rfl) (by kernel_rfl) (by simp) fun c hc ht => ?_
    simp -implicitDefEqProofs (disch := omega) only [go_sem, ht]
    ((refine pCall_vw (by refine ⟨⟨?_, ?_⟩, ?_, ?_⟩; rotate_left 2; (first | (right; rintro r rfl; rfl) | left); all_goals ((try simp -implicitDefEqProofs (disch := omega) only [go_sem, ht]) <;> rfl)) (hd) ?_; rintro _ nx_3 - rfl hnx_3; simp -implicitDefEqProofs (disch := omega) only [go_sem, ht]))
    (refine end_treeM 2 ?_; simp -implicitDefEqProofs (disch := omega) only [go_sem, ht])


theorem make_pos (hx : Z k x) (hg : g < 4294967296 ^ k) (hk : k ≤ 100000) (h0 : g ≠ 0) :
    ((mkRat x g).num = sg (decide (x < 0)) (x.natAbs / Nat.gcd x.natAbs g)) ∧ (mkRat x g).den = g / Nat.gcd x.natAbs g := by
  have e0 : sg (decide (x < 0)) x.natAbs = x := sg_WV
  have hgc : Nat.gcd x.natAbs g ≠ 0 := Nat.pos_iff_ne_zero.1 (Nat.gcd_pos_of_pos_right _ (Nat.pos_of_ne_zero h0))
  have hdv : g / Nat.gcd x.natAbs g ≠ 0 := Nat.pos_iff_ne_zero.1 (Nat.div_pos (Nat.le_of_dvd (Nat.pos_of_ne_zero h0) (Nat.gcd_dvd_right _ _)) (Nat.pos_of_ne_zero hgc))
  by_cases hx0 : x = 0
  · subst hx0
    rw [Rat.zero_mkRat]
    simp only [Int.natAbs_zero, Nat.gcd_zero_left, Nat.zero_div]
    exact ⟨rfl, (Nat.div_self (Nat.pos_of_ne_zero h0)).symm⟩
  have hs := rat_step (b := decide (x < 0)) (m := x.natAbs) (by omega) h0
  rw [e0] at hs
  rw [← hs]
  exact rat_end hdv (Nat.gcd_div_gcd_div_gcd_of_pos_left (Nat.pos_of_ne_zero (by omega)))
theorem make_z (hx : Z k x) (hy : Z k y) (hk : k ≤ 100000) (h0 : y ≠ 0) : PT Try.prog 112 [NZ x, NZ y] (isV (QZ (Rat.divInt x y).num (Rat.divInt x y).den)) := by
  obtain ⟨x', ex⟩ : ∃ x', (if y < 0 then -x else x) = x' := ⟨_, rfl⟩
  have hx' : Z k x' := by rw [← ex]; split; exact hx.neg; exact hx
  have hg : y.natAbs < 4294967296 ^ k := hy
  have hd0 : y.natAbs ≠ 0 := by omega
  obtain ⟨e1, e2⟩ := make_pos hx' hg hk hd0
  rw [← rat_over h0, ex, e1, e2]
  have hgc : Nat.gcd x'.natAbs y.natAbs ≠ 0 := Nat.pos_iff_ne_zero.1 (Nat.gcd_pos_of_pos_right _ (Nat.pos_of_ne_zero hd0))
  have hgl : Nat.gcd x'.natAbs y.natAbs < 4294967296 ^ k := Nat.lt_of_le_of_lt (Nat.le_of_dvd (Nat.pos_of_ne_zero hd0) (Nat.gcd_dvd_right _ _)) hg
  have zn : Z k (y.natAbs : Int) := hg
  have hgz := gcd_z hx' zn hk
  rw [show Int.gcd x' (y.natAbs : Int) = Nat.gcd x'.natAbs y.natAbs from rfl] at hgz
  have ho1 := over_z hx' hgl hk hgc
  have ho2 := over_z zn hgl hk hgc
  rw [show decide (((y.natAbs : Nat) : Int) < 0) = false from decide_eq_false (by omega), sg_f, show ((y.natAbs : Nat) : Int).natAbs = y.natAbs from rfl] at ho2
  generalize Nat.gcd x'.natAbs y.natAbs = gg at *
  generalize sg (decide (x' < 0)) (x'.natAbs / gg) = nn at *
  generalize y.natAbs / gg = dd at *
  by_cases hs : y < 0
  · rw [if_pos hs] at ex
    have hm1 := minus_z (okZ hx (by omega))
    have hm2 := minus_z (okZ hy (by omega))
    rw [ex] at hm1
    rw [show -y = (y.natAbs : Int) by omega] at hm2
    generalize y.natAbs = ya at *
    rw [NZ_nat_def] at hm2 hgz ho2
    rw [NZ_nat_def gg] at ho1 ho2
    rw [NZ_nat_def dd] at ho2
    rw [NZ_def y, decide_eq_true hs] at hm2 ⊢
    refine PCalls.enter (n := 22) (rs := [.cell 4 139]) (tb := [(5, [(0, []), (1, []), (3, []), (4, []), (2, [3, 4]), (5, []), (6, []), (7, [])])]) Try.func112 rfl rfl rfl (by kernel_rfl) (by kernel_rfl) (by simp) fun c hc ht => ?_
    simp -implicitDefEqProofs (disch := omega) only [go_sem, ht]
    ((refine pCall_vw (by refine ⟨⟨?_, ?_⟩, ?_, ?_⟩; rotate_left 2; (first | (right; rintro r rfl; rfl) | left); all_goals ((try simp -implicitDefEqProofs (disch := omega) only [go_sem, ht]) <;> rfl)) (hm1) ?_; rintro _ nx_4 - rfl hnx_4; simp -implicitDefEqProofs (disch := omega) only [go_sem, ht]); (refine pCall_vw (by refine ⟨⟨?_, ?_⟩, ?_, ?_⟩; rotate_left 2; (first | (right; rintro r rfl; rfl) | left); all_goals ((try simp -implicitDefEqProofs (disch := omega) only [go_sem, ht]) <;> rfl)) (hm2) ?_; rintro _ nx_5 - rfl hnx_5; simp -implicitDefEqProofs (disch := omega) only [go_sem, ht]); (refine pCall_vw (by refine ⟨⟨?_, ?_⟩, ?_, ?_⟩; rotate_left 2; (first | (right; rintro r rfl; rfl) | left); all_goals ((try simp -implicitDefEqProofs (disch := omega) only [go_sem, ht]) <;> rfl)) (hgz) ?_; rintro _ nx_6 - rfl hnx_6; simp -implicitDefEqProofs (disch := omega) only [go_sem, ht]); (refine pCall_vw (by refine ⟨⟨?_, ?_⟩, ?_, ?_⟩; rotate_left 2; (first | (right; rintro r rfl; rfl) | left); all_goals ((try simp -implicitDefEqProofs (disch := omega) only [go_sem, ht]) <;> rfl)) (ho1) ?_; rintro _ nx_7 - rfl hnx_7; simp -implicitDefEqProofs (disch := omega) only [go_sem, ht]); (refine pCall_vw (by refine ⟨⟨?_, ?_⟩, ?_, ?_⟩; rotate_left 2; (first | (right; rintro r rfl; rfl) | left); all_goals ((try simp -implicitDefEqProofs (disch := omega) only [go_sem, ht]) <;> rfl)) (ho2) ?_; rintro _ nx_8 - rfl hnx_8; simp -implicitDefEqProofs (disch := omega) only [go_sem, ht]))
    (refine end_treeM 2 ?_; simp -implicitDefEqProofs (disch := omega) only [go_sem, ht])
  · rw [if_neg hs] at ex
    subst ex
    rw [NZ_nat_def] at hgz ho2
    rw [NZ_nat_def gg] at ho1 hgz ho2
    rw [NZ_nat_def dd] at ho2
    rw [NZ_def y, decide_eq_false hs]
    refine PCalls.enter (n := 22) (rs := [.cell 4 139]) (tb := [(5, [(0, []), (1, []), (3, []), (4, []), (2, [3, 4]), (5, []), (6, []), (7, [])])]) Try.func112 rfl rfl rfl (by kernel_rfl) (by kernel_rfl) (by simp) fun c hc ht => ?_
    simp -implicitDefEqProofs (disch := omega) only [go_sem, ht]
    ((refine pCall_vw (by refine ⟨⟨?_, ?_⟩, ?_, ?_⟩; rotate_left 2; (first | (right; rintro r rfl; rfl) | left); all_goals ((try simp -implicitDefEqProofs (disch := omega) only [go_sem, ht]) <;> rfl)) (hgz) ?_; rintro _ nx_9 - rfl hnx_9; simp -implicitDefEqProofs (disch := omega) only [go_sem, ht]); (refine pCall_vw (by refine ⟨⟨?_, ?_⟩, ?_, ?_⟩; rotate_left 2; (first | (right; rintro r rfl; rfl) | left); all_goals ((try simp -implicitDefEqProofs (disch := omega) only [go_sem, ht]) <;> rfl)) (ho1) ?_; rintro _ nx_10 - rfl hnx_10; simp -implicitDefEqProofs (disch := omega) only [go_sem, ht]); (refine pCall_vw (by refine ⟨⟨?_, ?_⟩, ?_, ?_⟩; rotate_left 2; (first | (right; rintro r rfl; rfl) | left); all_goals ((try simp -implicitDefEqProofs (disch := omega) only [go_sem, ht]) <;> rfl)) (ho2) ?_; rintro _ nx_11 - rfl hnx_11; simp -implicitDefEqProofs (disch := omega) only [go_sem, ht]))
    (refine end_treeM 2 ?_; simp -implicitDefEqProofs (disch := omega) only [go_sem, ht])
end
end Go.Proofs.Ytfjdfnlkobeehaa.Ref

namespace Go.Proofs.Ytfjdfnlkobeehaa.Ref

section
variable {b d : Bool} {xs ys ds es : List Nat} {x y : Int} {k m g : Nat} {q p : Rat}




theorem minus_q (h : Zq k q) (hk : k ≤ 1000000) : PT Try.prog 110 [QZ q.num q.den] (isV (QZ (-q).num (-q).den)) := by
  have h1 := minus_z (okZ h.num hk)
  rw [Rat.neg_num, Rat.neg_den]
  generalize -q.num = n at *
  refine PCalls.enter (n := 9) (rs := [.cell 2 139]) (tb := [(1, [(0, []), (1, []), (3, []), (4, []), (2, [3, 4]), (5, []), (6, [])])]) Try.func110 rfl rfl rfl (by kernel_rfl) (by kernel_rfl) (by simp) fun c hc ht => ?_
  simp -implicitDefEqProofs (disch := omega) only [go_sem, ht]
  ((refine pCall_vw (by refine ⟨⟨?_, ?_⟩, ?_, ?_⟩; rotate_left 2; (first | (right; rintro r rfl; rfl) | left); all_goals ((try simp -implicitDefEqProofs (disch := omega) only [go_sem, ht]) <;> rfl)) (h1) ?_; rintro _ nx_12 - rfl hnx_12; simp -implicitDefEqProofs (disch := omega) only [go_sem, ht]))
  (refine end_treeM 2 ?_; simp -implicitDefEqProofs (disch := omega) only [go_sem, ht])
theorem mul_zn (hx : Z k x) {n : Nat} (hn : n < 4294967296 ^ k) (hk : k ≤ 100000) : PT Try.prog 106 [NZ x, NZ n] (isV (NZ (x * n))) := by
  have zn : Z k (n : Int) := hn
  exact nmul_z (okZ hx (by omega)) (okZ zn (by omega)) (by have := lenZ hx; have := lenZ zn; omega)
theorem mul_nn {m n : Nat} (hm : m < 4294967296 ^ k) (hn : n < 4294967296 ^ k) (hk : k ≤ 100000) : PT Try.prog 106 [NZ m, NZ n] (isV (NZ (m * n : Nat))) := by
  have := mul_zn (x := (m : Int)) hm hn hk
  rwa [← Int.natCast_mul] at this
theorem Zn (x : Int) {e : Nat} (hx : Z k x) (he : e < 4294967296 ^ k) : Z (2 * k) (x * e) := by rw [Nat.two_mul]; exact hx.mul (show Z k (e : Int) from he)
theorem plus_q (hq : Zq k q) (hp : Zq k p) (hk1 : 1 ≤ k) (hk : 3 * k ≤ 100000) : PT Try.prog 113 [QZ q.num q.den, QZ p.num p.den] (isV (QZ (q + p).num (q + p).den)) := by
  have m1 := mul_zn hq.num hp.den (by omega)
  have m2 := mul_zn hp.num hq.den (by omega)
  have m3 := mul_nn hq.den hp.den (by omega)
  have z1 := Zn q.num hq.num hp.den
  have z2 := Zn p.num hp.num hq.den
  have z3 : Z (2 * k + 1) ((q.den * p.den : Nat) : Int) := lt_mono (lt_mul hq.den hp.den) (by omega)
  have h3 := nadd_z (okZ z1 (by omega)) (okZ z2 (by omega)) (okZ (k := 2 * k + 1) (z := (((q.num * (p.den : Int)).natAbs + (p.num * (q.den : Int)).natAbs : Nat) : Int)) (lt_add z1 z2) (by omega))
  have hm := make_z (z1.add z2) z3 (by omega) (by have := Nat.mul_pos (Nat.pos_of_ne_zero q.den_nz) (Nat.pos_of_ne_zero p.den_nz); omega)
  rw [Rat.divInt_ofNat, ← Rat.add_def'] at hm
  clear z1 z2 z3
  generalize q + p = r at *
  generalize q.num * (p.den : Int) + p.num * (q.den : Int) = z3 at *
  generalize q.num * (p.den : Int) = z1 at *
  generalize p.num * (q.den : Int) = z2 at *
  generalize q.den * p.den = dd at *
  rw [NZ_nat_def] at m1 m2 m3 hm
  rw [NZ_nat_def] at m3
  try rw [NZ_nat_def] at m3
  refine PCalls.enter (n := 22) (rs := [.cell 4 139]) (tb := [(1, [(0, []), (1, []), (2, []), (3, []), (5, []), (6, []), (7, []), (8, []), (11, []), (12, []), (13, []), (14, []), (4, [5, 6, 7, 8, 11, 12, 13, 14]), (9, [11, 12, 13, 14]), (10, [11, 12, 13, 14]), (15, []), (16, []), (17, [])]), (1000001, [(0, []), (1, []), (0, []), (4, []), (15, []), (0, []), (32, []), (0, []), (128, []), (511, []), (1023, []), (0, []), (2048, []), (0, []), (8192, []), (32767, []), (65535, []), (131071, [])])]) Try.func113 rfl rfl rfl (by kernel_rfl) (by kernel_rfl) (by simp) fun c hc ht => ?_
  simp -implicitDefEqProofs (disch := omega) only [go_sem, ht]
  ((refine pCall_vw (by refine ⟨⟨?_, ?_⟩, ?_, ?_⟩; rotate_left 2; (first | (right; rintro r rfl; rfl) | left); all_goals ((try simp -implicitDefEqProofs (disch := omega) only [go_sem, ht]) <;> rfl)) (m1) ?_; rintro _ nx_13 - rfl hnx_13; simp -implicitDefEqProofs (disch := omega) only [go_sem, ht]); (refine pCall_vw (by refine ⟨⟨?_, ?_⟩, ?_, ?_⟩; rotate_left 2; (first | (right; rintro r rfl; rfl) | left); all_goals ((try simp -implicitDefEqProofs (disch := omega) only [go_sem, ht]) <;> rfl)) (m2) ?_; rintro _ nx_14 - rfl hnx_14; simp -implicitDefEqProofs (disch := omega) only [go_sem, ht]); (refine pCall_vw (by refine ⟨⟨?_, ?_⟩, ?_, ?_⟩; rotate_left 2; (first | (right; rintro r rfl; rfl) | left); all_goals ((try simp -implicitDefEqProofs (disch := omega) only [go_sem, ht]) <;> rfl)) (h3) ?_; rintro _ nx_15 - rfl hnx_15; simp -implicitDefEqProofs (disch := omega) only [go_sem, ht]); (refine pCall_vw (by refine ⟨⟨?_, ?_⟩, ?_, ?_⟩; rotate_left 2; (first | (right; rintro r rfl; rfl) | left); all_goals ((try simp -implicitDefEqProofs (disch := omega) only [go_sem, ht]) <;> rfl)) (m3) ?_; rintro _ nx_16 - rfl hnx_16; simp -implicitDefEqProofs (disch := omega) only [go_sem, ht]); (refine pCall_vw (by refine ⟨⟨?_, ?_⟩, ?_, ?_⟩; rotate_left 2; (first | (right; rintro r rfl; rfl) | left); all_goals ((try simp -implicitDefEqProofs (disch := omega) only [go_sem, ht]) <;> rfl)) (hm) ?_; rintro _ nx_17 - rfl hnx_17; simp -implicitDefEqProofs (disch := omega) only [go_sem, ht]))
  (refine end_treeM 2 ?_; simp -implicitDefEqProofs (disch := omega) only [go_sem, ht])
end
end Go.Proofs.Ytfjdfnlkobeehaa.Ref

namespace Go.Proofs.Ytfjdfnlkobeehaa.Ref

section
variable {b d : Bool} {xs ys ds es : List Nat} {x y : Int} {k m g : Nat} {q p : Rat}
theorem times_q (hq : Zq k q) (hp : Zq k p) (hk1 : 1 ≤ k) (hk : 3 * k ≤ 100000) : PT Try.prog 111 [QZ q.num q.den, QZ p.num p.den] (isV (QZ (q * p).num (q * p).den)) := by
  have m1 := nmul_z (okZ hq.num (by omega)) (okZ hp.num (by omega)) (by have := lenZ hq.num; have := lenZ hp.num; omega)
  have m3 := mul_nn hq.den hp.den (by omega)
  have z1 := hq.num.mul hp.num
  have z3 : Z (k + k) ((q.den * p.den : Nat) : Int) := lt_mul hq.den hp.den
  have hm := make_z z1 z3 (by omega) (by have := Nat.mul_pos (Nat.pos_of_ne_zero q.den_nz) (Nat.pos_of_ne_zero p.den_nz); omega)
  rw [Rat.divInt_ofNat, ← Rat.mkRat_mul_mkRat, Rat.mkRat_self, Rat.mkRat_self] at hm
  clear z1 z3
  generalize q * p = r at *
  generalize q.num * p.num = z1 at *
  generalize q.den * p.den = dd at *
  rw [NZ_nat_def] at m3 hm
  rw [NZ_nat_def] at m3
  try rw [NZ_nat_def] at m3
  refine PCalls.enter (n := 16) (rs := [.cell 4 139]) (tb := [(1, [(0, []), (1, []), (2, []), (3, []), (5, []), (6, []), (7, []), (8, []), (4, [5, 6, 7, 8]), (9, []), (10, []), (11, [])]), (1000001, [(0, []), (1, []), (0, []), (4, []), (15, []), (0, []), (32, []), (0, []), (128, []), (511, []), (1023, []), (2047, [])])]) Try.func111 rfl rfl rfl (by kernel_rfl) (by kernel_rfl) (by simp) fun c hc ht => ?_
  simp -implicitDefEqProofs (disch := omega) only [go_sem, ht]
  ((refine pCall_vw (by refine ⟨⟨?_, ?_⟩, ?_, ?_⟩; rotate_left 2; (first | (right; rintro r rfl; rfl) | left); all_goals ((try simp -implicitDefEqProofs (disch := omega) only [go_sem, ht]) <;> rfl)) (m1) ?_; rintro _ nx_18 - rfl hnx_18; simp -implicitDefEqProofs (disch := omega) only [go_sem, ht]); (refine pCall_vw (by refine ⟨⟨?_, ?_⟩, ?_, ?_⟩; rotate_left 2; (first | (right; rintro r rfl; rfl) | left); all_goals ((try simp -implicitDefEqProofs (disch := omega) only [go_sem, ht]) <;> rfl)) (m3) ?_; rintro _ nx_19 - rfl hnx_19; simp -implicitDefEqProofs (disch := omega) only [go_sem, ht]); (refine pCall_vw (by refine ⟨⟨?_, ?_⟩, ?_, ?_⟩; rotate_left 2; (first | (right; rintro r rfl; rfl) | left); all_goals ((try simp -implicitDefEqProofs (disch := omega) only [go_sem, ht]) <;> rfl)) (hm) ?_; rintro _ nx_20 - rfl hnx_20; simp -implicitDefEqProofs (disch := omega) only [go_sem, ht]))
  (refine end_treeM 2 ?_; simp -implicitDefEqProofs (disch := omega) only [go_sem, ht])

















end
end Go.Proofs.Ytfjdfnlkobeehaa.Ref
end
