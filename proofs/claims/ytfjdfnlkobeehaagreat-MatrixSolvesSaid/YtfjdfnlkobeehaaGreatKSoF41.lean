/- Part 41 of the way to the statement: the walk and what it needs. -/
import Derived.Test.YtfjdfnlkobeehaaGreatKSoF35
import Derived.Test.YtfjdfnlkobeehaaGreatKSoF36
import Derived.Test.YtfjdfnlkobeehaaGreatKSoF37
import Derived.Test.YtfjdfnlkobeehaaGreatKSoF38
import Derived.Test.YtfjdfnlkobeehaaGreatKSoF39
import Derived.Test.YtfjdfnlkobeehaaGreatKSoF40
section
set_option maxRecDepth 100000
set_option linter.unusedVariables false
set_option linter.unusedSimpArgs false
namespace Go.Proofs.YtfjdfnlkobeehaaGreat.Ref

section
variable {b d : Bool} {xs ys : List Nat} {x y : Int} {k : Nat}
theorem ofW (p : Wn b xs x k) : PT Tryz.prog 68 [WX b xs] (isV (NZ x)) := by
  have := p.len
  have := p.hk
  have h := of_z (b := b) p.ok.lm (by omega)
  rwa [p.val] at h





end
end Go.Proofs.YtfjdfnlkobeehaaGreat.Ref

namespace Go.Proofs.YtfjdfnlkobeehaaGreat.Ref


end Go.Proofs.YtfjdfnlkobeehaaGreat.Ref
end

section
set_option maxRecDepth 100000
set_option linter.unusedVariables false
set_option linter.unusedSimpArgs false
namespace Go.Proofs.YtfjdfnlkobeehaaGreat.Ref


def QZ (p : Int) (d : Nat) : PV := .agg [.val (.bool (decide (p < 0))), .sl (D p.natAbs).length ((D p.natAbs).map I), .val (.bool false), .sl (D d).length ((D d).map I)]
theorem QZ_def (p : Int) (d : Nat) : QZ p d = .agg [.val (.bool (decide (p < 0))), .sl (D p.natAbs).length ((D p.natAbs).map I), .val (.bool false), .sl (D d).length ((D d).map I)] := rfl
attribute [go_sem] QZ_def
section
variable {α : Type} (a b c d w x y z : α)
theorem spl_404 : spl [a, b, c, d] 0 [w, x, y, z] = [w, x, y, z] := rfl
theorem spl_402 : spl [a, b, c, d] 0 [x, y] = [x, y, c, d] := rfl
theorem spl_422 : spl [a, b, c, d] 2 [x, y] = [a, b, x, y] := rfl
theorem take_44 : [a, b, c, d].take 4 = [a, b, c, d] := rfl
theorem take_42 : [a, b, c, d].take 2 = [a, b] := rfl
theorem drop_42 : [a, b, c, d].drop 2 = [c, d] := rfl
end
attribute [go_sem] spl_404 spl_402 spl_422 take_44 take_42 drop_42
theorem NZ_nat_def (n : Nat) : NZ (n : Int) = .agg [.val (.bool false), .sl (D n).length ((D n).map I)] := by
  rw [← NZ_nat, NP_def]
section
variable {b d : Bool} {xs ys ds es : List Nat} {x y : Int} {k m g : Nat} {q p : Rat}

theorem over_z (hx : Z k x) (hg : g < 4294967296 ^ k) (hk : k ≤ 100000) (h0 : g ≠ 0) : PT Tryz.prog 80 [NZ x, NZ g] (isV (NZ (sg (decide (x < 0)) (x.natAbs / g)))) := by
  have zg : Z k (g : Int) := hg
  have hd := divided_z (a := x) (b := (g : Int)) (okZ hx (by omega)) (okZ zg (by omega)) (by omega) (by have := lenZ zg; omega)
  rw [show ((g : Nat) : Int).natAbs = g from rfl] at hd
  have zq : Z k ((x.natAbs / g : Nat) : Int) := Nat.lt_of_le_of_lt (Nat.div_le_self _ _) hx
  have hm := minus_z (okZ zq (by omega))
  by_cases hs : x < 0
  · rw [decide_eq_true hs, sg_t]
    generalize -((x.natAbs / g : Nat) : Int) = q2 at *
    generalize ((x.natAbs / g : Nat) : Int) = q1 at *
    rw [NZ_nat_def] at hd ⊢
    rw [NZ_def x, decide_eq_true hs] at hd ⊢
    refine PCalls.enter (n := 21) (rs := [.cell 4 81]) (tb := []) Tryz.func80 rfl rfl rfl (by kernel_rfl) (by kernel_rfl) (by simp) fun c hc ht => ?_
    simp -implicitDefEqProofs (disch := omega) only [go_sem, ht]
    ((refine pCall_vw (by refine ⟨⟨?_, ?_⟩, ?_, ?_⟩; rotate_left 2; (first | (right; rintro r rfl; rfl) | left); all_goals ((try simp -implicitDefEqProofs (disch := omega) only [go_sem, ht]) <;> rfl)) (hd) ?_; rintro _ nx_1 - rfl hnx_1; simp -implicitDefEqProofs (disch := omega) only [go_sem, ht]); (refine pCall_vw (by refine ⟨⟨?_, ?_⟩, ?_, ?_⟩; rotate_left 2; (first | (right; rintro r rfl; rfl) | left); all_goals ((try simp -implicitDefEqProofs (disch := omega) only [go_sem, ht]) <;> rfl)) (hm) ?_; rintro _ nx_2 - rfl hnx_2; simp -implicitDefEqProofs (disch := omega) only [go_sem, ht]))
    (refine end_treeM 2 ?_; simp -implicitDefEqProofs (disch := omega) only [go_sem, ht])
  · rw [decide_eq_false hs, sg_f]
    generalize ((x.natAbs / g : Nat) : Int) = q1 at *
    rw [NZ_nat_def] at hd ⊢
    rw [NZ_def x, decide_eq_false hs] at hd ⊢
    refine PCalls.enter (n := 21) (rs := [.cell 4 81]) (tb := []) Tryz.func80 rfl rfl rfl (by kernel_rfl) (by kernel_rfl) (by simp) fun c hc ht => ?_
    simp -implicitDefEqProofs (disch := omega) only [go_sem, ht]
    ((refine pCall_vw (by refine ⟨⟨?_, ?_⟩, ?_, ?_⟩; rotate_left 2; (first | (right; rintro r rfl; rfl) | left); all_goals ((try simp -implicitDefEqProofs (disch := omega) only [go_sem, ht]) <;> rfl)) (hd) ?_; rintro _ nx_3 - rfl hnx_3; simp -implicitDefEqProofs (disch := omega) only [go_sem, ht]))
    (refine end_treeM 2 ?_; simp -implicitDefEqProofs (disch := omega) only [go_sem, ht])


theorem make_pos (hx : Z k x) (hg : g < 4294967296 ^ k) (hk : k ≤ 100000) (h0 : g ≠ 0) :
    ((mkRat x g).num = sg (decide (x < 0)) (x.natAbs / Nat.gcd x.natAbs g)) ∧ (mkRat x g).den = g / Nat.gcd x.natAbs g := by
  have e0 : sg (decide (x < 0)) x.natAbs = x := sg_WV
  have hgc : Nat.gcd x.natAbs g ≠ 0 := Nat.pos_iff_ne_zero.1 (Nat.gcd_pos_of_pos_right _ (Nat.pos_of_ne_zero h0))
  have hdv : g / Nat.gcd x.natAbs g ≠ 0 := Nat.pos_iff_ne_zero.1 (Nat.div_pos (Nat.le_of_dvd (Nat.pos_of_ne_zero h0) (Nat.gcd_dvd_right _ _)) (Nat.pos_of_ne_zero hgc))
  by_cases hx0 : x = 0
  · subst hx0
    rw [Rat.zero_mkRat]
    simp only [Int.natAbs_zero, Nat.gcd_zero_left, Nat.zero_div]
    exact ⟨rfl, (Nat.div_self (Nat.pos_of_ne_zero h0)).symm⟩
  have hs := rat_step (b := decide (x < 0)) (m := x.natAbs) (by omega) h0
  rw [e0] at hs
  rw [← hs]
  exact rat_end hdv (Nat.gcd_div_gcd_div_gcd_of_pos_left (Nat.pos_of_ne_zero (by omega)))
theorem make_z (hx : Z k x) (hy : Z k y) (hk : k ≤ 100000) (h0 : y ≠ 0) : PT Tryz.prog 51 [NZ x, NZ y] (isV (QZ (Rat.divInt x y).num (Rat.divInt x y).den)) := by
  obtain ⟨x', ex⟩ : ∃ x', (if y < 0 then -x else x) = x' := ⟨_, rfl⟩
  have hx' : Z k x' := by rw [← ex]; split; exact hx.neg; exact hx
  have hg : y.natAbs < 4294967296 ^ k := hy
  have hd0 : y.natAbs ≠ 0 := by omega
  obtain ⟨e1, e2⟩ := make_pos hx' hg hk hd0
  rw [← rat_over h0, ex, e1, e2]
  have hgc : Nat.gcd x'.natAbs y.natAbs ≠ 0 := Nat.pos_iff_ne_zero.1 (Nat.gcd_pos_of_pos_right _ (Nat.pos_of_ne_zero hd0))
  have hgl : Nat.gcd x'.natAbs y.natAbs < 4294967296 ^ k := Nat.lt_of_le_of_lt (Nat.le_of_dvd (Nat.pos_of_ne_zero hd0) (Nat.gcd_dvd_right _ _)) hg
  have zn : Z k (y.natAbs : Int) := hg
  have hgz := gcd_z hx' zn hk
  rw [show Int.gcd x' (y.natAbs : Int) = Nat.gcd x'.natAbs y.natAbs from rfl] at hgz
  have ho1 := over_z hx' hgl hk hgc
  have ho2 := over_z zn hgl hk hgc
  rw [show decide (((y.natAbs : Nat) : Int) < 0) = false from decide_eq_false (by omega), sg_f, show ((y.natAbs : Nat) : Int).natAbs = y.natAbs from rfl] at ho2
  generalize Nat.gcd x'.natAbs y.natAbs = gg at *
  generalize sg (decide (x' < 0)) (x'.natAbs / gg) = nn at *
  generalize y.natAbs / gg = dd at *
  by_cases hs : y < 0
  · rw [if_pos hs] at ex
    have hm1 := minus_z (okZ hx (by omega))
    have hm2 := minus_z (okZ hy (by omega))
    rw [ex] at hm1
    rw [show -y = (y.natAbs : Int) by omega] at hm2
    generalize y.natAbs = ya at *
    rw [NZ_nat_def] at hm2 hgz ho2
    rw [NZ_nat_def gg] at ho1 ho2
    rw [NZ_nat_def dd] at ho2
    rw [NZ_def y, decide_eq_true hs] at hm2 ⊢
    refine PCalls.enter (n := 22) (rs := [.cell 4 83]) (tb := [(5, [(0, []), (1, []), (3, []), (4, []), (2, [3, 4]), (5, []), (6, []), (7, [])])]) Tryz.func51 rfl rfl rfl (by kernel_rfl) (by kernel_rfl) (by simp) fun c hc ht => ?_
    simp -implicitDefEqProofs (disch := omega) only [go_sem, ht]
    ((refine pCall_vw (by refine ⟨⟨?_, ?_⟩, ?_, ?_⟩; rotate_left 2; (first | (right; rintro r rfl; rfl) | left); all_goals ((try simp -implicitDefEqProofs (disch := omega) only [go_sem, ht]) <;> rfl)) (hm1) ?_; rintro _ nx_4 - rfl hnx_4; simp -implicitDefEqProofs (disch := omega) only [go_sem, ht]); (refine pCall_vw (by refine ⟨⟨?_, ?_⟩, ?_, ?_⟩; rotate_left 2; (first | (right; rintro r rfl; rfl) | left); all_goals ((try simp -implicitDefEqProofs (disch := omega) only [go_sem, ht]) <;> rfl)) (hm2) ?_; rintro _ nx_5 - rfl hnx_5; simp -implicitDefEqProofs (disch := omega) only [go_sem, ht]); (refine pCall_vw (by refine ⟨⟨?_, ?_⟩, ?_, ?_⟩; rotate_left 2; (first | (right; rintro r rfl; rfl) | left); all_goals ((try simp -implicitDefEqProofs (disch := omega) only [go_sem, ht]) <;> rfl)) (hgz) ?_; rintro _ nx_6 - rfl hnx_6; simp -implicitDefEqProofs (disch := omega) only [go_sem, ht]); (refine pCall_vw (by refine ⟨⟨?_, ?_⟩, ?_, ?_⟩; rotate_left 2; (first | (right; rintro r rfl; rfl) | left); all_goals ((try simp -implicitDefEqProofs (disch := omega) only [go_sem, ht]) <;> rfl)) (ho1) ?_; rintro _ nx_7 - rfl hnx_7; simp -implicitDefEqProofs (disch := omega) only [go_sem, ht]); (refine pCall_vw (by refine ⟨⟨?_, ?_⟩, ?_, ?_⟩; rotate_left 2; (first | (right; rintro r rfl; rfl) | left); all_goals ((try simp -implicitDefEqProofs (disch := omega) only [go_sem, ht]) <;> rfl)) (ho2) ?_; rintro _ nx_8 - rfl hnx_8; simp -implicitDefEqProofs (disch := omega) only [go_sem, ht]))
    (refine end_treeM 2 ?_; simp -implicitDefEqProofs (disch := omega) only [go_sem, ht])
  · rw [if_neg hs] at ex
    subst ex
    rw [NZ_nat_def] at hgz ho2
    rw [NZ_nat_def gg] at ho1 hgz ho2
    rw [NZ_nat_def dd] at ho2
    rw [NZ_def y, decide_eq_false hs]
    refine PCalls.enter (n := 22) (rs := [.cell 4 83]) (tb := [(5, [(0, []), (1, []), (3, []), (4, []), (2, [3, 4]), (5, []), (6, []), (7, [])])]) Tryz.func51 rfl rfl rfl (by kernel_rfl) (by kernel_rfl) (by simp) fun c hc ht => ?_
    simp -implicitDefEqProofs (disch := omega) only [go_sem, ht]
    ((refine pCall_vw (by refine ⟨⟨?_, ?_⟩, ?_, ?_⟩; rotate_left 2; (first | (right; rintro r rfl; rfl) | left); all_goals ((try simp -implicitDefEqProofs (disch := omega) only [go_sem, ht]) <;> rfl)) (hgz) ?_; rintro _ nx_9 - rfl hnx_9; simp -implicitDefEqProofs (disch := omega) only [go_sem, ht]); (refine pCall_vw (by refine ⟨⟨?_, ?_⟩, ?_, ?_⟩; rotate_left 2; (first | (right; rintro r rfl; rfl) | left); all_goals ((try simp -implicitDefEqProofs (disch := omega) only [go_sem, ht]) <;> rfl)) (ho1) ?_; rintro _ nx_10 - rfl hnx_10; simp -implicitDefEqProofs (disch := omega) only [go_sem, ht]); (refine pCall_vw (by refine ⟨⟨?_, ?_⟩, ?_, ?_⟩; rotate_left 2; (first | (right; rintro r rfl; rfl) | left); all_goals ((try simp -implicitDefEqProofs (disch := omega) only [go_sem, ht]) <;> rfl)) (ho2) ?_; rintro _ nx_11 - rfl hnx_11; simp -implicitDefEqProofs (disch := omega) only [go_sem, ht]))
    (refine end_treeM 2 ?_; simp -implicitDefEqProofs (disch := omega) only [go_sem, ht])
end
end Go.Proofs.YtfjdfnlkobeehaaGreat.Ref

namespace Go.Proofs.YtfjdfnlkobeehaaGreat.Ref

section
variable {b d : Bool} {xs ys ds es : List Nat} {x y : Int} {k m g : Nat} {q p : Rat}
theorem told_q {z : Int} {e : Nat} (hz : Z k z) (he : e < 4294967296 ^ k) (hk : k ≤ 1000000) : PT Tryz.prog 40 [QZ z e] (isV (FX (decide (z < 0)) (YtfjdfnlkobeehaaGreat.D z.natAbs) (YtfjdfnlkobeehaaGreat.D e))) := by
  have h1 := told_z hz hk
  have ze : Z k (e : Int) := he
  have h2 := limbs_calls (n := e) (neg := false) (okZ ze hk) (by have := Z.len ze; rw [show ((e : Nat) : Int).natAbs = e from rfl] at this; omega)
  rw [NP_def] at h2
  rw [FX_def]
  refine PCalls.enter (n := 10) (rs := [.cell 2 52]) (tb := [(1, [(0, []), (1, []), (3, []), (4, []), (2, [3, 4]), (5, []), (6, []), (7, [])])]) Tryz.func40 rfl rfl rfl (by kernel_rfl) (by kernel_rfl) (by simp) fun c hc ht => ?_
  simp -implicitDefEqProofs (disch := omega) only [go_sem, ht]
  ((refine pCall_vw (by refine ⟨⟨?_, ?_⟩, ?_, ?_⟩; rotate_left 2; (first | (right; rintro r rfl; rfl) | left); all_goals ((try simp -implicitDefEqProofs (disch := omega) only [go_sem, ht]) <;> rfl)) (h1) ?_; rintro _ nx_12 - rfl hnx_12; simp -implicitDefEqProofs (disch := omega) only [go_sem, ht]); (refine pCall_vw (by refine ⟨⟨?_, ?_⟩, ?_, ?_⟩; rotate_left 2; (first | (right; rintro r rfl; rfl) | left); all_goals ((try simp -implicitDefEqProofs (disch := omega) only [go_sem, ht]) <;> rfl)) (h2) ?_; rintro _ nx_13 - rfl hnx_13; simp -implicitDefEqProofs (disch := omega) only [go_sem, ht]))
  (refine end_treeM 2 ?_; simp -implicitDefEqProofs (disch := omega) only [go_sem, ht])
theorem told_f (h : Zq k q) (hk : k ≤ 1000000) : PT Tryz.prog 40 [QZ q.num q.den] (isV (FC q)) := told_q h.num h.den hk
theorem zero_q : PT Tryz.prog 49 [] (isV (QZ 0 1)) := by
  have h1 := int_z (v := 1) (by omega) (by omega)
  rw [show ((1 : Int)) = ((1 : Nat) : Int) from rfl, NZ_nat_def] at h1
  rw [QZ_def, show (0 : Int).natAbs = 0 from rfl, D_zero]
  refine PCalls.enter (n := 4) (rs := [.cell 0 83]) (tb := []) Tryz.func49 rfl rfl rfl (by kernel_rfl) (by kernel_rfl) (by simp) fun c hc ht => ?_
  simp -implicitDefEqProofs (disch := omega) only [go_sem, ht]
  ((refine pCall_vw (by refine ⟨⟨?_, ?_⟩, ?_, ?_⟩; rotate_left 2; (first | (right; rintro r rfl; rfl) | left); all_goals ((try simp -implicitDefEqProofs (disch := omega) only [go_sem, ht]) <;> rfl)) (h1) ?_; rintro _ nx_14 - rfl hnx_14; simp -implicitDefEqProofs (disch := omega) only [go_sem, ht]))
  (refine end_treeM 2 ?_; simp -implicitDefEqProofs (disch := omega) only [go_sem, ht])


end
end Go.Proofs.YtfjdfnlkobeehaaGreat.Ref

namespace Go.Proofs.YtfjdfnlkobeehaaGreat.Ref

section
variable {b d : Bool} {xs ys ds es : List Nat} {x y : Int} {k m g : Nat} {q p : Rat}


theorem long_q (hq : Zq k q) (hk : k ≤ 1000000) : PT Tryz.prog 39 [QZ q.num q.den] (isV (.val (.int .i64 (max (YtfjdfnlkobeehaaGreat.D q.num.natAbs).length (YtfjdfnlkobeehaaGreat.D q.den).length : Nat)))) := by
  have h1 := long_z hq.num hk
  have zd : Z k (q.den : Int) := hq.den
  have h2 := long_z zd hk
  rw [NZ_nat_def] at h2
  rw [show ((q.den : Nat) : Int).natAbs = q.den from rfl] at h2
  generalize (YtfjdfnlkobeehaaGreat.D q.num.natAbs).length = a at *
  generalize (YtfjdfnlkobeehaaGreat.D q.den).length = c at *
  by_cases hl : a < c
  · rw [Nat.max_eq_right (by omega)]
    refine PCalls.enter (n := 16) (rs := [.tmp 2]) (tb := []) Tryz.func39 rfl rfl rfl (by kernel_rfl) (by kernel_rfl) (by simp) fun c hc ht => ?_
    simp -implicitDefEqProofs (disch := omega) only [go_sem, ht]
    ((refine pCall_vw (by refine ⟨⟨?_, ?_⟩, ?_, ?_⟩; rotate_left 2; (first | (right; rintro r rfl; rfl) | left); all_goals ((try simp -implicitDefEqProofs (disch := omega) only [go_sem, ht]) <;> rfl)) (h1) ?_; rintro _ nx_15 - rfl hnx_15; simp -implicitDefEqProofs (disch := omega) only [go_sem, ht]); (refine pCall_vw (by refine ⟨⟨?_, ?_⟩, ?_, ?_⟩; rotate_left 2; (first | (right; rintro r rfl; rfl) | left); all_goals ((try simp -implicitDefEqProofs (disch := omega) only [go_sem, ht]) <;> rfl)) (h2) ?_; rintro _ nx_16 - rfl hnx_16; simp -implicitDefEqProofs (disch := omega) only [go_sem, ht]))
    (refine end_treeW 0 ?_; simp -implicitDefEqProofs (disch := omega) only [go_sem, ht])
  · rw [Nat.max_eq_left (by omega)]
    refine PCalls.enter (n := 16) (rs := [.tmp 2]) (tb := []) Tryz.func39 rfl rfl rfl (by kernel_rfl) (by kernel_rfl) (by simp) fun c hc ht => ?_
    simp -implicitDefEqProofs (disch := omega) only [go_sem, ht]
    ((refine pCall_vw (by refine ⟨⟨?_, ?_⟩, ?_, ?_⟩; rotate_left 2; (first | (right; rintro r rfl; rfl) | left); all_goals ((try simp -implicitDefEqProofs (disch := omega) only [go_sem, ht]) <;> rfl)) (h1) ?_; rintro _ nx_17 - rfl hnx_17; simp -implicitDefEqProofs (disch := omega) only [go_sem, ht]); (refine pCall_vw (by refine ⟨⟨?_, ?_⟩, ?_, ?_⟩; rotate_left 2; (first | (right; rintro r rfl; rfl) | left); all_goals ((try simp -implicitDefEqProofs (disch := omega) only [go_sem, ht]) <;> rfl)) (h2) ?_; rintro _ nx_18 - rfl hnx_18; simp -implicitDefEqProofs (disch := omega) only [go_sem, ht]))
    (refine end_treeW 0 ?_; simp -implicitDefEqProofs (disch := omega) only [go_sem, ht])















end
end Go.Proofs.YtfjdfnlkobeehaaGreat.Ref
end

section
set_option maxRecDepth 100000
set_option linter.unusedVariables false
set_option linter.unusedSimpArgs false
namespace Go.Proofs.YtfjdfnlkobeehaaGreat


theorem Gh.weak {st : PS} {id : Nat} {cs qs : List PV} (h0 : st.H id = some cs) (hl : qs = [] → cs = []) (hl' : cs = [] → qs = []) (hw : ∀ (E : En) (vs : List Value), RepL E cs vs → RepL E qs vs) : Gh st (st.withH (upd st.H id (some qs)) st.nx) := by
  rintro c a w ⟨ρ, h⟩
  by_cases hne : cs = []
  · obtain rfl := hl' hne
    subst hne
    have e : upd st.H id (some []) = st.H := by
      funext j
      by_cases hj : j = id
      · subst hj; rw [upd_self]; exact h0.symm
      · rw [upd_ne _ _ hj]
    rw [e]
    exact ⟨ρ, h⟩
  · obtain ⟨vs, e, hh, hr⟩ := h.own.blk id cs h0 hne
    exact ⟨ρ, Rr.cells h h0 hne (fun e => hne (hl e)) ⟨vs, e, hh, hw _ _ hr⟩⟩
theorem Gh.nncW {st : PS} {id : Nat} {cs : List PV} (h0 : st.H id = some cs) : Gh st (st.withH (upd st.H id (some (cs.map nn1))) st.nx) :=
  Gh.weak h0 (fun e => by simpa using e) (fun e => by rw [e]; rfl) fun _ _ h => nnL_rep h
namespace Ref
open YtfjdfnlkobeehaaGreat (SWc SW WX WC WV vals SM Rn vc canZ combZ primZ upZ gcdL gcdF sgF SW_def cZ)


def SNc (zs : List Int) : List PV := zs.flatMap fun z => [.val (.bool (decide (z < 0))), SI (D z.natAbs)]
def SN (zs : List Int) : PV := .sl zs.length (SNc zs)
theorem SN_def (zs : List Int) : SN zs = .sl zs.length (SNc zs) := rfl
theorem SNc_cons (z : Int) (zs : List Int) : SNc (z :: zs) = .val (.bool (decide (z < 0))) :: SI (D z.natAbs) :: SNc zs := rfl
theorem SNc_len (zs : List Int) : (SNc zs).length = 2 * zs.length := by
  induction zs with
  | nil => rfl
  | cons z zs ih => rw [SNc_cons]; simp only [List.length_cons, ih]; omega
theorem SNc_app (zs ws : List Int) : SNc (zs ++ ws) = SNc zs ++ SNc ws := by simp [SNc]
theorem SNc_flat (zs : List Int) : flatL (SNc zs) = true := by
  induction zs with
  | nil => rfl
  | cons z zs ih => rw [SNc_cons]; simp only [flatL, flat_SI, ih, YtfjdfnlkobeehaaGreat.flat_val, Bool.and_self]
theorem SNc_one (zs : List Int) : (SNc zs).all oneP = true := by
  induction zs with
  | nil => rfl
  | cons z zs ih => rw [SNc_cons]; simp only [List.all_cons, ih, Bool.and_true]; rfl
theorem SNc_drop : ∀ (zs : List Int) (i : Nat), (SNc zs).drop (i * 2) = SNc (zs.drop i)
  | _, 0 => by simp
  | [], i + 1 => by simp [SNc]
  | z :: zs, i + 1 => by
    rw [SNc_cons, show (i + 1) * 2 = i * 2 + 1 + 1 by omega, List.drop_succ_cons, List.drop_succ_cons, SNc_drop zs i, List.drop_succ_cons]
theorem SNc_at {zs : List Int} {i : Nat} (h : i < zs.length) : (SNc zs).drop (i * 2) = .val (.bool (decide (vc zs i < 0))) :: .sl (D (vc zs i).natAbs).length ((D (vc zs i).natAbs).map I) :: SNc (zs.drop (i + 1)) := by
  rw [SNc_drop, List.drop_eq_getElem_cons h, SNc_cons, YtfjdfnlkobeehaaGreat.vc_lt h]; rfl
theorem SNc_take {zs : List Int} {i : Nat} (h : i < zs.length) : SNc (zs.take i) ++ [.val (.bool (decide (vc zs i < 0))), .sl (D (vc zs i).natAbs).length ((D (vc zs i).natAbs).map I)] = SNc (zs.take (i + 1)) := by
  rw [List.take_succ_eq_append_getElem h, SNc_app, YtfjdfnlkobeehaaGreat.vc_lt h]; rfl
theorem take_SNc (zs : List Int) (r : List PV) {n : Nat} (h : n = zs.length) : List.take (n * 2) (SNc zs ++ r) = SNc zs := by
  subst h
  rw [show zs.length * 2 = (SNc zs).length by rw [SNc_len]; omega, List.take_left]
theorem frzL_SNc (D : Nat → Bool) (H : Nat → Option (List PV)) (d : Nat) (zs : List Int) : (SNc zs).mapM (YtfjdfnlkobeehaaGreat.frz D H d) = some (SNc zs) := YtfjdfnlkobeehaaGreat.frzL_flat D H d (SNc_flat zs)
theorem spl_SN {zs : List Int} {p : Nat} (h : p < zs.length) (x : Int) : spl (SNc zs) (p * 2) [.val (.bool (decide (x < 0))), .sl (D x.natAbs).length ((D x.natAbs).map I)] = SNc (zs.set p x) := by
  have e2 : zs.set p x = zs.take p ++ x :: zs.drop (p + 1) := by rw [List.set_eq_take_append_cons_drop, if_pos h]
  have e3 : SNc zs = SNc (zs.take p) ++ SNc (zs.drop p) := by rw [← SNc_app, List.take_append_drop]
  have e4 : zs.drop p = zs[p] :: zs.drop (p + 1) := List.drop_eq_getElem_cons h
  have hln : p * 2 = (SNc (zs.take p)).length := by rw [SNc_len, List.length_take]; omega
  rw [e2, e3, SNc_app, SNc_cons, e4, SNc_cons]
  unfold spl
  rw [hln, List.take_left, List.drop_append]
  simp
  rfl
attribute [go_sem] SN_def SNc_flat frzL_SNc
theorem replN (n : Nat) : (repl n [PV.val (.bool false), PV.val (.slice none 0 0)]).map nn1 = SNc (List.replicate n 0) := by
  unfold repl
  induction n with
  | zero => rfl
  | succ n ih =>
    simp only [List.replicate_succ, List.flatten_cons, List.map_append, ih]
    rw [SNc_cons]
    simp [nn1, SI_def, D_zero]
section
variable {l : List (Bool × List Nat)} {z a b : List Int} {k : Nat} {p q : Int}
theorem all_z (h : Rn l k) (hlen : l.length ≤ 1000000) : PT Tryz.prog 38 [SW l] (isV (SN (vals l))) := by
  have hvl := YtfjdfnlkobeehaaGreat.vals_len l
  refine PCalls.enter (n := 20) (rs := [.tmp 2]) (tb := []) Tryz.func38 rfl rfl rfl (by kernel_rfl) (by kernel_rfl) (by simp) fun c hc ht => ?_
  simp -implicitDefEqProofs (disch := omega) only [go_sem, ht]
  refine LW.ghost (Gh.nilW 3 2 (by simp -implicitDefEqProofs (disch := omega) only [go_sem, ht])) ?_
  refine LW.loopW hc ht (by kernel_rfl) (fun t => t.sl 0 = .sl l.length (SWc l) ∧ ∃ i : Nat, i ≤ l.length ∧ t.sl 4 = .val (.int .i64 i) ∧ ∃ (id cap : Nat) (rest : List Value), t.sl 3 = .ref id 0 i cap 2 ∧ t.H id = some (SNc ((vals l).take i) ++ rest.map .val) ∧ i * 2 + rest.length = cap * 2 ∧ id < t.nx)
    (fun t => match t.sl 4 with | .val (.int _ k) => l.length - k.toNat | _ => 0) ?_ ?_
  · simp -implicitDefEqProofs (disch := omega) only [go_sem, ht]
    exact ⟨0, Nat.zero_le _, rfl, _, 0, [], rfl, upd_self _ _ _, rfl, by omega⟩
  · rintro t ⟨h0, i, hi, h4, id, cap, rest, h3, hH, hcap, hid⟩
    by_cases hil : i = l.length
    · subst hil
      rw [List.take_of_length_le (by omega)] at hH
      have htk := take_SNc (vals l) (rest.map .val) (n := l.length) (by omega)
      have hl2 := SNc_len (vals l)
      rw [hvl]
      simp -implicitDefEqProofs (disch := omega) only [go_sem, ht, h0, h3, h4]
      (refine end_treeW 2 ?_; simp -implicitDefEqProofs (disch := omega) only [go_sem, ht, hH, htk]; omega)
    · have hlt : i < l.length := by omega
      have hat := YtfjdfnlkobeehaaGreat.SWc_at hlt
      have hof := ofW (h.wn hlt)
      have htk := SNc_take (zs := vals l) (i := i) (by omega)
      have hln : (SNc ((vals l).take i)).length = 2 * i := by rw [SNc_len, List.length_take]; omega
      generalize vc (vals l) i = x at *
      simp -implicitDefEqProofs (disch := omega) only [go_sem, ht, h0, h3, h4, hat]
      (refine pCall_vw (by refine ⟨⟨?_, ?_⟩, ?_, ?_⟩; rotate_left 2; (first | (right; rintro r rfl; rfl) | left); all_goals ((try simp -implicitDefEqProofs (disch := omega) only [h0, h3, h4, hat, go_sem, ht]) <;> rfl)) (hof) ?_; rintro _ nx - rfl hnx; simp -implicitDefEqProofs (disch := omega) only [h0, h3, h4, hat, go_sem, ht])
      have hne : id ≠ nx := by omega
      (refine append_ownSX (by refine ⟨?_, ?_, ?_, ?_, ?_, ?_, ?_, ?_⟩ <;> (simp -implicitDefEqProofs (disch := omega) only [srcP_ref, srcP_sl, srcP_nil, Option.isSome_some, hH, go_sem, ht] <;> rfl)) (by rfl) (by first | omega | (simp <;> omega)) (by first | assumption | (simp <;> omega)) (by first | rfl | simp) (by first | omega | (simp <;> omega)) ?_; intro id1 cap1 rest1 H1 nx1 hH1 hcap1 hid1 hnx1 hfr1 hfs1; simp only [put_nx, withH_nx, put_H, withH_H] at hid1 hnx1 hfr1 hfs1)
      rw [htk] at hH1
      simp -implicitDefEqProofs (disch := omega) only [go_sem, ht, h0, h3, h4]
      exact ⟨⟨i + 1, by omega, rfl, id1, cap1, rest1, rfl, hH1, by omega, by omega⟩, by omega⟩
theorem over_ex {x : Int} {g : Nat} (h : g ∣ x.natAbs) : YtfjdfnlkobeehaaGreat.sg (decide (x < 0)) (x.natAbs / g) = x / (g : Int) := by
  obtain ⟨m, hm⟩ := h
  by_cases hg : g = 0
  · subst hg; simp [YtfjdfnlkobeehaaGreat.sg]
  rw [hm, Nat.mul_div_cancel_left m (by omega)]
  by_cases hx : x < 0
  · have e : x = (g : Int) * -(m : Int) := by
      have : (x.natAbs : Int) = (g : Int) * m := by rw [hm]; simp
      rw [Int.mul_neg]; omega
    rw [decide_eq_true hx, e, Int.mul_ediv_cancel_left _ (by omega)]; rfl
  · have e : x = (g : Int) * (m : Int) := by
      have : (x.natAbs : Int) = (g : Int) * m := by rw [hm]; simp
      omega
    rw [decide_eq_false hx, e, Int.mul_ediv_cancel_left _ (by omega)]; rfl
theorem canZ_get {i : Nat} (h : i < z.length) : vc (canZ z) i = if sgF 0 z < 0 then -(z[i] / (gcdL z : Nat)) else z[i] / (gcdL z : Nat) := by
  have e : sgF 0 (primZ z) < 0 ↔ sgF 0 z < 0 := by
    by_cases hg : gcdL z = 0
    · have h0 := YtfjdfnlkobeehaaGreat.gcdL_zero.1 hg
      have hp : primZ z = z := by
        unfold primZ
        conv => rhs; rw [← List.map_id z]
        exact List.map_congr_left fun x hx => by rw [h0 x hx]; simp
      rw [hp]
    · have e1 : z = YtfjdfnlkobeehaaGreat.mulL (gcdL z) (primZ z) := by
        refine List.ext_getElem (by rw [YtfjdfnlkobeehaaGreat.mulL_len, YtfjdfnlkobeehaaGreat.primZ_len]) fun j h1 h2 => ?_
        have := YtfjdfnlkobeehaaGreat.primZ_vc z j
        rw [YtfjdfnlkobeehaaGreat.vc_lt h1, YtfjdfnlkobeehaaGreat.vc_lt (by rw [YtfjdfnlkobeehaaGreat.primZ_len]; exact h1)] at this
        simp only [YtfjdfnlkobeehaaGreat.mulL, List.getElem_map]
        exact this.symm
      have e2 := YtfjdfnlkobeehaaGreat.sgF_mul0 (t := (gcdL z : Int)) (by omega) (primZ z)
      rw [← e1, cZ_gt (show (0 : Int) < (gcdL z : Int) by omega), Int.one_mul] at e2
      rw [e2]
  unfold canZ upZ
  by_cases hs : sgF 0 z < 0
  · rw [if_pos hs, if_pos (e.2 hs), YtfjdfnlkobeehaaGreat.neg_vc, YtfjdfnlkobeehaaGreat.vc_lt (by rw [YtfjdfnlkobeehaaGreat.primZ_len]; exact h)]
    simp [primZ]
  · rw [if_neg hs, if_neg (fun h => hs (e.1 h)), YtfjdfnlkobeehaaGreat.vc_lt (by rw [YtfjdfnlkobeehaaGreat.primZ_len]; exact h)]
    simp [primZ]
theorem cur_set {r : List Int} {n i : Nat} (hr : r.length = n) (h : i < n) (x : Int) : (r.take i ++ List.replicate (n - i) 0).set i x = r.take i ++ x :: List.replicate (n - (i + 1)) 0 := by
  have hl : (r.take i).length = i := by rw [List.length_take]; omega
  obtain ⟨m, hm⟩ : ∃ m, n - i = m + 1 := ⟨n - (i + 1), by omega⟩
  rw [hm, show n - (i + 1) = m by omega, List.set_append_right _ _ (by omega), hl, Nat.sub_self, List.replicate_succ, List.set_cons_zero]
theorem cur_next {r : List Int} {n i : Nat} (hr : r.length = n) (h : i < n) : r.take i ++ vc r i :: List.replicate (n - (i + 1)) 0 = r.take (i + 1) ++ List.replicate (n - (i + 1)) 0 := by
  rw [List.take_succ_eq_append_getElem (by omega), YtfjdfnlkobeehaaGreat.vc_lt (by omega), List.append_assoc]; rfl
set_option maxHeartbeats 4000000 in
theorem canon_z (hz : ∀ x ∈ z, Z k x) (hk : k ≤ 100000) (hlen : z.length ≤ 1000000) : PT Tryz.prog 75 [SN z] (isV (SN (canZ z))) := by
  have hgz : ∀ i, Z k (gcdF 0 (z.take i) : Nat) := fun i => YtfjdfnlkobeehaaGreat.gcdF_le (YtfjdfnlkobeehaaGreat.Z.zero k) fun x hx => hz x (List.mem_of_mem_take hx)
  have hcl := YtfjdfnlkobeehaaGreat.canZ_len z
  refine PCalls.enter (n := 60) (rs := [.tmp 2]) (tb := [(6, [(0, []), (1, []), (2, []), (3, []), (4, []), (5, []), (6, [])]), (14, [(0, []), (1, []), (2, []), (3, []), (4, []), (5, []), (6, []), (7, [0, 1]), (8, []), (9, [])])]) Tryz.func75 rfl rfl rfl (by kernel_rfl) (by kernel_rfl) (by simp) fun c hc ht => ?_
  simp -implicitDefEqProofs (disch := omega) only [go_sem, ht]
  refine LW.loopW hc ht (by kernel_rfl) (fun t => t.sl 0 = .sl z.length (SNc z) ∧ t.sl 3 = .ptr 0 0 ∧ 0 < t.nx ∧ ∃ i : Nat, i ≤ z.length ∧ t.sl 5 = .val (.int .i64 i) ∧ t.sl 4 = .val (.int .i64 (sgF 0 (z.take i))) ∧ ∃ c, t.H 0 = some [.val (.bool false), c] ∧ flat c = true ∧ oneP c = true ∧ isAny c = false ∧ (∀ H, view1 H c = .sl (D (gcdF 0 (z.take i))).length ((D (gcdF 0 (z.take i))).map I)))
    (fun t => match t.sl 5 with | .val (.int _ k) => z.length - k.toNat | _ => 0) ?_ ?_
  · simp -implicitDefEqProofs (disch := omega) only [go_sem, ht]
    refine ⟨0, Nat.zero_le _, rfl, rfl, .val (.slice none 0 0), rfl, rfl, rfl, rfl, fun H => ?_⟩
    rw [List.take_zero, YtfjdfnlkobeehaaGreat.gcdF_nil, D_zero]; rfl
  · rintro t ⟨h0, h3, hnx, i, hi, h5, h4, cc, hH, hf, ho, ha, hv⟩
    by_cases hil : i = z.length
    · subst hil
      rw [List.take_length] at h4 hv
      have hg0 := hgz z.length
      rw [List.take_length] at hg0
      change Z k (gcdL z : Nat) at hg0
      change ∀ H, view1 H cc = .sl (D (gcdL z)).length ((D (gcdL z)).map I) at hv
      have hsg := sign_z (okZ hg0 (by omega))
      rw [NZ_nat_def] at hsg
      have hrn := replN z.length
      have hrl := YtfjdfnlkobeehaaGreat.repl_len z.length [PV.val (.bool false), PV.val (.slice none 0 0)]
      have hs0 : gcdL z = 0 → sgF 0 z = 0 := fun e => by
        have h00 := YtfjdfnlkobeehaaGreat.gcdL_zero.1 e
        have hm := YtfjdfnlkobeehaaGreat.mulL_zeros h00 0
        have e2 : ∀ l : List Int, (∀ x ∈ l, x = 0) → sgF 0 l = 0 := by
          intro l
          induction l with
          | nil => intro _; rfl
          | cons x l ih =>
            intro hx
            show sgF (if (0 : Int) = 0 then cZ x 0 else 0) l = 0
            rw [if_pos rfl, hx x (List.mem_cons_self ..), cZ_eq rfl]
            exact ih fun y hy => hx y (List.mem_cons_of_mem _ hy)
        exact e2 z h00
      have hget : ∀ i (h : i < z.length), vc (canZ z) i = if sgF 0 z < 0 then -(vc z i / (gcdL z : Nat)) else vc z i / (gcdL z : Nat) := fun i h => by rw [canZ_get h, YtfjdfnlkobeehaaGreat.vc_lt h]
      have hdv : ∀ i (h : i < z.length), gcdL z ∣ (vc z i).natAbs := fun i h => by rw [YtfjdfnlkobeehaaGreat.vc_lt h]; exact YtfjdfnlkobeehaaGreat.gcdL_dvd (List.getElem_mem h)
      have hvz : ∀ i (h : i < z.length), Z k (vc z i) := fun i h => by rw [YtfjdfnlkobeehaaGreat.vc_lt h]; exact hz _ (List.getElem_mem h)
      generalize canZ z = r at *
      generalize sgF 0 z = s at *
      generalize gcdL z = g at *
      simp -implicitDefEqProofs (disch := omega) only [go_sem, ht, h0, h3, h5, h4]
      refine LW.ghost (Gh.nncW (id := t.nx) (cs := repl z.length [PV.val (.bool false), PV.val (.slice none 0 0)]) (by simp -implicitDefEqProofs (disch := omega) only [go_sem, ht, upd_self])) ?_
      refine LW.loopW hc ht (by kernel_rfl) (fun u => u.sl 0 = .sl z.length (SNc z) ∧ u.sl 3 = .ptr 0 0 ∧ u.sl 4 = .val (.int .i64 s) ∧ u.sl 6 = .ref t.nx 0 z.length z.length 2 ∧ t.nx < u.nx ∧ u.H 0 = some [.val (.bool false), cc] ∧ ∃ i : Nat, i ≤ z.length ∧ u.sl 7 = .val (.int .i64 i) ∧ u.H t.nx = some (SNc (r.take i ++ List.replicate (z.length - i) 0)))
        (fun u => match u.sl 7 with | .val (.int _ k) => z.length - k.toNat | _ => 0) ?_ ?_
      · simp -implicitDefEqProofs (disch := omega) only [go_sem, ht, h0, h3, h5, h4, hrn]
        exact ⟨by omega, hH, 0, Nat.zero_le _, rfl, rfl⟩
      · clear hH h0 h3 h5 h4
        rintro u ⟨h0, h3, h4, h6, hnu, hH0, i, hi, h7, hH⟩
        by_cases hil : i = z.length
        · subst hil
          rw [Nat.sub_self, List.replicate_zero, List.append_nil, List.take_of_length_le (by omega)] at hH
          have htk := take_SNc r [] (n := z.length) (by omega)
          rw [List.append_nil] at htk
          have hl2 := SNc_len r
          rw [hcl]
          simp -implicitDefEqProofs (disch := omega) only [go_sem, ht, h0, h3, h4, h6, h7]
          (refine end_treeW 2 ?_; simp -implicitDefEqProofs (disch := omega) only [go_sem, ht, hH, htk]; omega)
        · have hlt : i < z.length := by omega
          have hat := SNc_at hlt
          have hx := hvz i hlt
          have hd := hdv i hlt
          have hg := hget i hlt
          have hset := cur_set (r := r) (n := z.length) (i := i) (by omega) hlt
          have hnext := cur_next (r := r) (n := z.length) (i := i) (by omega) hlt
          have hrl2 : (r.take i).length = i := by rw [List.length_take]; omega
          by_cases hg0' : g = 0
          · have hs00 := hs0 hg0'
            subst hg0'
            subst hs00
            have hr0 : vc r i = 0 := by rw [hg]; simp
            rw [hr0] at hnext
            have hst : r.take i ++ List.replicate (z.length - i) 0 = r.take (i + 1) ++ List.replicate (z.length - (i + 1)) 0 := by
              rw [← hnext, show z.length - i = (z.length - (i + 1)) + 1 by omega, List.replicate_succ]
            rw [hst] at hH
            rw [show ((0 : Nat) : Int) = 0 from rfl, cZ_eq rfl] at hsg
            simp -implicitDefEqProofs (disch := omega) only [go_sem, ht, h0, h3, h4, h6, h7, hH0, ho, ha]
            (refine pCall_vw (by refine ⟨⟨?_, ?_⟩, ?_, ?_⟩; rotate_left 2; (first | (right; rintro r rfl; rfl) | left); all_goals ((try simp -implicitDefEqProofs (disch := omega) only [h0, h3, h4, h6, h7, hH0, hf, ho, ha, hv, go_sem, ht]) <;> rfl)) (hsg) ?_; rintro _ nx - rfl hnx; simp -implicitDefEqProofs (disch := omega) only [h0, h3, h4, h6, h7, hH0, hf, ho, ha, hv, go_sem, ht])
            exact ⟨⟨by omega, i + 1, by omega, rfl, hH⟩, by omega⟩
          · have hov := over_z (k := k) (g := g) hx hg0 hk hg0'
            rw [over_ex hd, NZ_nat_def] at hov
            have hxd : Z k (vc z i / (g : Int)) := hx.div
            have hmi := minus_z (z := vc z i / (g : Int)) (okZ hxd (by omega))
            rw [cZ_gt (show (0 : Int) < (g : Int) by omega)] at hsg
            have hsp1 := spl_SN (zs := r.take i ++ List.replicate (z.length - i) 0) (p := i) (by simp; omega) (vc z i / (g : Int))
            rw [hset] at hsp1
            have hsp2 := spl_SN (zs := r.take i ++ (vc z i / (g : Int)) :: List.replicate (z.length - (i + 1)) 0) (p := i) (by simp; omega) (-(vc z i / (g : Int)))
            have hset2 : (r.take i ++ (vc z i / (g : Int)) :: List.replicate (z.length - (i + 1)) 0).set i (-(vc z i / (g : Int))) = r.take i ++ (-(vc z i / (g : Int))) :: List.replicate (z.length - (i + 1)) 0 := by
              rw [List.set_append_right _ _ (by omega), hrl2, Nat.sub_self, List.set_cons_zero]
            rw [hset2] at hsp2
            have hat2 := SNc_at (zs := r.take i ++ (vc z i / (g : Int)) :: List.replicate (z.length - (i + 1)) 0) (i := i) (by simp; omega)
            have hvc : vc (r.take i ++ (vc z i / (g : Int)) :: List.replicate (z.length - (i + 1)) 0) i = vc z i / (g : Int) := by
              rw [YtfjdfnlkobeehaaGreat.vc_lt (by simp; omega), List.getElem_append_right (by omega)]
              simp [hrl2]
            rw [hvc] at hat2
            have hln : (SNc (r.take i ++ List.replicate (z.length - i) 0)).length = z.length * 2 := by rw [SNc_len]; simp; omega
            have hln2 : (SNc (r.take i ++ (vc z i / (g : Int)) :: List.replicate (z.length - (i + 1)) 0)).length = z.length * 2 := by rw [SNc_len]; simp; omega
            clear hset hset2 hvc hd
            generalize vc z i / (g : Int) = q at *
            generalize vc z i = x at *
            by_cases hs : s < 0
            · rw [if_pos hs] at hg
              rw [hg] at hnext
              simp -implicitDefEqProofs (disch := omega) only [go_sem, ht, h0, h3, h4, h6, h7, hH0, ho, ha]
              ((refine pCall_vw (by refine ⟨⟨?_, ?_⟩, ?_, ?_⟩; rotate_left 2; (first | (right; rintro r rfl; rfl) | left); all_goals ((try simp -implicitDefEqProofs (disch := omega) only [h0, h3, h4, h6, h7, hH0, hf, ho, ha, hv, hH, hat, hln, hsp1, hs, hat2, hln2, go_sem, ht]) <;> rfl)) (hsg) ?_; rintro _ nx_1 - rfl hnx_1; simp -implicitDefEqProofs (disch := omega) only [h0, h3, h4, h6, h7, hH0, hf, ho, ha, hv, hH, hat, hln, hsp1, hs, hat2, hln2, go_sem, ht]); (refine pCall_vw (by refine ⟨⟨?_, ?_⟩, ?_, ?_⟩; rotate_left 2; (first | (right; rintro r rfl; rfl) | left); all_goals ((try simp -implicitDefEqProofs (disch := omega) only [h0, h3, h4, h6, h7, hH0, hf, ho, ha, hv, hH, hat, hln, hsp1, hs, hat2, hln2, go_sem, ht]) <;> rfl)) (hov) ?_; rintro _ nx_2 - rfl hnx_2; simp -implicitDefEqProofs (disch := omega) only [h0, h3, h4, h6, h7, hH0, hf, ho, ha, hv, hH, hat, hln, hsp1, hs, hat2, hln2, go_sem, ht]))
              ((refine pCall_vw (by refine ⟨⟨?_, ?_⟩, ?_, ?_⟩; rotate_left 2; (first | (right; rintro r rfl; rfl) | left); all_goals ((try simp -implicitDefEqProofs (disch := omega) only [h0, h3, h4, h6, h7, hH0, hf, ho, ha, hv, hH, hat, hln, hsp1, hs, hat2, hln2, hsp2, go_sem, ht]) <;> rfl)) (hmi) ?_; rintro _ nx_3 - rfl hnx_3; simp -implicitDefEqProofs (disch := omega) only [h0, h3, h4, h6, h7, hH0, hf, ho, ha, hv, hH, hat, hln, hsp1, hs, hat2, hln2, hsp2, go_sem, ht]))
              exact ⟨⟨by omega, i + 1, by omega, rfl, by rw [← hnext]⟩, by omega⟩
            · rw [if_neg hs] at hg
              rw [hg] at hnext
              simp -implicitDefEqProofs (disch := omega) only [go_sem, ht, h0, h3, h4, h6, h7, hH0, ho, ha]
              ((refine pCall_vw (by refine ⟨⟨?_, ?_⟩, ?_, ?_⟩; rotate_left 2; (first | (right; rintro r rfl; rfl) | left); all_goals ((try simp -implicitDefEqProofs (disch := omega) only [h0, h3, h4, h6, h7, hH0, hf, ho, ha, hv, hH, hat, hln, hsp1, hs, go_sem, ht]) <;> rfl)) (hsg) ?_; rintro _ nx_4 - rfl hnx_4; simp -implicitDefEqProofs (disch := omega) only [h0, h3, h4, h6, h7, hH0, hf, ho, ha, hv, hH, hat, hln, hsp1, hs, go_sem, ht]); (refine pCall_vw (by refine ⟨⟨?_, ?_⟩, ?_, ?_⟩; rotate_left 2; (first | (right; rintro r rfl; rfl) | left); all_goals ((try simp -implicitDefEqProofs (disch := omega) only [h0, h3, h4, h6, h7, hH0, hf, ho, ha, hv, hH, hat, hln, hsp1, hs, go_sem, ht]) <;> rfl)) (hov) ?_; rintro _ nx_5 - rfl hnx_5; simp -implicitDefEqProofs (disch := omega) only [h0, h3, h4, h6, h7, hH0, hf, ho, ha, hv, hH, hat, hln, hsp1, hs, go_sem, ht]))
              exact ⟨⟨by omega, i + 1, by omega, rfl, by rw [← hnext]⟩, by omega⟩
    · have hlt : i < z.length := by omega
      have hat := SNc_at hlt
      have hzx : Z k (vc z i) := by rw [YtfjdfnlkobeehaaGreat.vc_lt hlt]; exact hz _ (List.getElem_mem hlt)
      have hg := gcd_z (hgz i) hzx hk
      have hst := YtfjdfnlkobeehaaGreat.gcdF_take (zs := z) (i := i) hlt
      rw [YtfjdfnlkobeehaaGreat.gcd_natAbs, YtfjdfnlkobeehaaGreat.vc_lt hlt, ← hst] at hg
      have hss := YtfjdfnlkobeehaaGreat.sgF_take (t := 0) (zs := z) (i := i) hlt
      rw [← YtfjdfnlkobeehaaGreat.vc_lt hlt] at hss hg
      have hsi := sign_z (okZ hzx (by omega))
      obtain ⟨g2, e2⟩ : ∃ g2, gcdF 0 (z.take (i + 1)) = g2 := ⟨_, rfl⟩
      obtain ⟨s2, es2⟩ : ∃ s2, sgF 0 (z.take (i + 1)) = s2 := ⟨_, rfl⟩
      rw [e2] at hg
      rw [es2] at hss
      clear hst
      generalize gcdF 0 (z.take i) = g1 at *
      generalize sgF 0 (z.take i) = s1 at *
      generalize cZ (vc z i) 0 = sx at *
      generalize vc z i = x at *
      rw [NZ_nat_def, NZ_nat_def] at hg
      by_cases h10 : s1 = 0
      · rw [if_pos h10] at hss
        simp -implicitDefEqProofs (disch := omega) only [go_sem, ht, h0, h3, h5, h4, hat, hH, ho, ha]
        ((refine pCall_vw (by refine ⟨⟨?_, ?_⟩, ?_, ?_⟩; rotate_left 2; (first | (right; rintro r rfl; rfl) | left); all_goals ((try simp -implicitDefEqProofs (disch := omega) only [h0, h3, h5, h4, hat, hH, hf, ho, ha, hv, h10, go_sem, ht]) <;> rfl)) (hg) ?_; rintro _ nx_6 - rfl hnx_6; simp -implicitDefEqProofs (disch := omega) only [h0, h3, h5, h4, hat, hH, hf, ho, ha, hv, h10, go_sem, ht]); (refine pCall_vw (by refine ⟨⟨?_, ?_⟩, ?_, ?_⟩; rotate_left 2; (first | (right; rintro r rfl; rfl) | left); all_goals ((try simp -implicitDefEqProofs (disch := omega) only [h0, h3, h5, h4, hat, hH, hf, ho, ha, hv, h10, go_sem, ht]) <;> rfl)) (hsi) ?_; rintro _ nx_7 - rfl hnx_7; simp -implicitDefEqProofs (disch := omega) only [h0, h3, h5, h4, hat, hH, hf, ho, ha, hv, h10, go_sem, ht]))
        refine ⟨⟨by omega, i + 1, by omega, rfl, by rw [es2, hss], .sl (D g2).length ((D g2).map I), rfl, flat_SI _, rfl, rfl, fun H => ?_⟩, by omega⟩
        rw [e2]; rfl
      · rw [if_neg h10] at hss
        simp -implicitDefEqProofs (disch := omega) only [go_sem, ht, h0, h3, h5, h4, hat, hH, ho, ha]
        ((refine pCall_vw (by refine ⟨⟨?_, ?_⟩, ?_, ?_⟩; rotate_left 2; (first | (right; rintro r rfl; rfl) | left); all_goals ((try simp -implicitDefEqProofs (disch := omega) only [h0, h3, h5, h4, hat, hH, hf, ho, ha, hv, h10, go_sem, ht]) <;> rfl)) (hg) ?_; rintro _ nx_8 - rfl hnx_8; simp -implicitDefEqProofs (disch := omega) only [h0, h3, h5, h4, hat, hH, hf, ho, ha, hv, h10, go_sem, ht]))
        refine ⟨⟨by omega, i + 1, by omega, rfl, by rw [es2, hss], .sl (D g2).length ((D g2).map I), rfl, flat_SI _, rfl, rfl, fun H => ?_⟩, by omega⟩
        rw [e2]; rfl
end
end Ref
end Go.Proofs.YtfjdfnlkobeehaaGreat
end

section
set_option maxRecDepth 100000
set_option linter.unusedVariables false
set_option linter.unusedSimpArgs false
namespace Go.Proofs.YtfjdfnlkobeehaaGreat.Ref
open YtfjdfnlkobeehaaGreat (SWc SW WX WC WV vals vals_len SM lenM Rn vc vc_lt canZ canZ_len combZ combZ_len combZ_take primZ upZ upZ_len SW_def SM_def cZ get_SM' getD_take getD_mem insR insB zeroB getD_vals wrongM)

section
variable {l : List (Bool × List Nat)} {z a b : List Int} {k : Nat} {p q : Int}
set_option maxHeartbeats 4000000 in
theorem joined_z (hp : Z k p) (hq : Z k q) (ha : ∀ x ∈ a, Z k x) (hb : ∀ x ∈ b, Z k x) (hl : a.length = b.length) (hk : 2 * k + 1 ≤ 100000) (hlen : a.length ≤ 1000000) :
    PT Tryz.prog 77 [NZ p, SN a, NZ q, SN b] (isV (SN (canZ (combZ p q a b)))) := by
  have hcl := combZ_len (a := p) (b := q) hl
  have hcz : ∀ x ∈ combZ p q a b, Z (2 * k + 1) x := fun x hx => by
    have := YtfjdfnlkobeehaaGreat.combZ_z hp hq ha hb x hx
    rwa [show k + k + 1 = 2 * k + 1 by omega] at this
  have hcn := canon_z hcz (by omega) (by omega)
  rw [SN_def, hcl] at hcn
  have hcc := canZ_len (combZ p q a b)
  generalize hr : canZ (combZ p q a b) = r at *
  refine PCalls.enter (n := 35) (rs := [.tmp 8]) (tb := [(5, [(0, []), (1, []), (2, []), (3, []), (4, []), (5, []), (7, []), (8, []), (9, []), (10, []), (11, []), (6, [0, 7, 8, 9, 10, 11]), (12, [0]), (13, [0]), (14, [0]), (15, []), (16, [])]), (1000005, [(0, []), (0, []), (0, []), (0, []), (12, []), (28, []), (62, []), (0, []), (0, []), (0, []), (768, []), (1792, []), (4094, []), (8190, []), (16382, []), (32767, []), (65535, [])])]) Tryz.func77 rfl rfl rfl (by kernel_rfl) (by kernel_rfl) (by simp) fun c hc ht => ?_
  simp -implicitDefEqProofs (disch := omega) only [go_sem, ht]
  refine LW.ghost (Gh.nilW 9 2 (by simp -implicitDefEqProofs (disch := omega) only [go_sem, ht])) ?_
  refine LW.loopW hc ht (by kernel_rfl) (fun t => t.sl 1 = .sl a.length (SNc a) ∧ t.sl 3 = .sl b.length (SNc b) ∧ t.sl 4 = .ptr 0 0 ∧ t.sl 6 = .ptr 1 0 ∧ t.H 0 = some [.val (.bool (decide (p < 0))), .sl (D p.natAbs).length ((D p.natAbs).map I)] ∧ t.H 1 = some [.val (.bool (decide (q < 0))), .sl (D q.natAbs).length ((D q.natAbs).map I)] ∧ ∃ i : Nat, i ≤ a.length ∧ t.sl 10 = .val (.int .i64 i) ∧
      ∃ (id cap : Nat) (rest : List Value), t.sl 9 = .ref id 0 i cap 2 ∧ t.H id = some (SNc ((combZ p q a b).take i) ++ rest.map .val) ∧ i * 2 + rest.length = cap * 2 ∧ id < t.nx ∧ 1 < id)
    (fun t => match t.sl 10 with | .val (.int _ k) => a.length - k.toNat | _ => 0) ?_ ?_
  · simp -implicitDefEqProofs (disch := omega) only [go_sem, ht, NZ_def]
    exact ⟨0, Nat.zero_le _, rfl, _, 0, [], rfl, rfl, rfl, by omega, by omega⟩
  · rintro t ⟨h1, h3, h4, h6, hH0, hH1', i, hi, h10, id, cap, rest, h9, hH, hcap, hid, hid1⟩
    by_cases hil : i = a.length
    · subst hil
      rw [List.take_of_length_le (by omega)] at hH
      have htk := take_SNc (combZ p q a b) (rest.map .val) (n := a.length) (by omega)
      have hl2 := SNc_len (combZ p q a b)
      have hle : a.length * 2 ≤ (SNc (combZ p q a b)).length + rest.length := by omega
      simp -implicitDefEqProofs (disch := omega) only [go_sem, ht, h1, h3, h4, h6, h9, h10]
      (refine pCall_frz (fun _ => true) 1 (by simp -implicitDefEqProofs (disch := omega) only [hH, htk, hle, go_sem, ht] <;> rfl) (by simp -implicitDefEqProofs (disch := omega) only [hH, htk, hle, go_sem, ht]) (by simp -implicitDefEqProofs (disch := omega) only [hH, htk, hle, go_sem, ht] <;> rfl) (by simp -implicitDefEqProofs (disch := omega) only [hH, htk, hle, go_sem, ht]) (hcn) ?_; rintro _ nx - rfl hnx; (try simp only [put_nx, withH_nx, begP_nx] at hnx); simp -implicitDefEqProofs (disch := omega) only [hH, htk, hle, go_sem, ht])
      (refine end_treeW 2 ?_; simp -implicitDefEqProofs (disch := omega) only [go_sem, ht])
    · have hlt : i < a.length := by omega
      have hat := SNc_at hlt
      have hat' := SNc_at (show i < b.length by omega)
      have za : Z k (vc a i) := YtfjdfnlkobeehaaGreat.vc_z ha i
      have zb : Z k (vc b i) := YtfjdfnlkobeehaaGreat.vc_z hb i
      have m1 := nmul_z (okZ hp (by omega)) (okZ za (by omega)) (by have := lenZ hp; have := lenZ za; omega)
      have m2 := nmul_z (okZ hq (by omega)) (okZ zb (by omega)) (by have := lenZ hq; have := lenZ zb; omega)
      have z1 := hp.mul za
      have z2 := hq.mul zb
      have zs : Z (k + k + 1) (((p * vc a i).natAbs + (q * vc b i).natAbs : Nat) : Int) := YtfjdfnlkobeehaaGreat.Z.add (x := ((p * vc a i).natAbs : Int)) (y := ((q * vc b i).natAbs : Int)) z1 z2
      have s1 := nsub_z (okZ z1 (by omega)) (okZ z2 (by omega)) (okZ zs (by omega))
      have hst := combZ_take (a := p) (b := q) (z := a) (p := b) (i := i) hlt (by omega)
      rw [← vc_lt (z := a), ← vc_lt (z := b)] at hst
      have hln : (SNc ((combZ p q a b).take i)).length = i * 2 := by rw [SNc_len, List.length_take]; omega
      clear z1 z2 zs
      generalize p * vc a i = x1 at *
      generalize q * vc b i = x2 at *
      have htk : SNc ((combZ p q a b).take i) ++ [.val (.bool (decide (x1 - x2 < 0))), .sl (D (x1 - x2).natAbs).length ((D (x1 - x2).natAbs).map I)] = SNc ((combZ p q a b).take (i + 1)) := by
        rw [hst, SNc_app]; rfl
      generalize x1 - x2 = x3 at *
      simp -implicitDefEqProofs (disch := omega) only [go_sem, ht, h1, h3, h4, h6, h9, h10, hH0, hH1', hat, hat']
      ((refine pCall_vw (by refine ⟨⟨?_, ?_⟩, ?_, ?_⟩; rotate_left 2; (first | (right; rintro r rfl; rfl) | left); all_goals ((try simp -implicitDefEqProofs (disch := omega) only [h1, h3, h4, h6, h9, h10, hat, hat', hH0, hH1', go_sem, ht]) <;> rfl)) (m1) ?_; rintro _ nx_1 - rfl hnx_1; simp -implicitDefEqProofs (disch := omega) only [h1, h3, h4, h6, h9, h10, hat, hat', hH0, hH1', go_sem, ht]); (refine pCall_vw (by refine ⟨⟨?_, ?_⟩, ?_, ?_⟩; rotate_left 2; (first | (right; rintro r rfl; rfl) | left); all_goals ((try simp -implicitDefEqProofs (disch := omega) only [h1, h3, h4, h6, h9, h10, hat, hat', hH0, hH1', go_sem, ht]) <;> rfl)) (m2) ?_; rintro _ nx_2 - rfl hnx_2; simp -implicitDefEqProofs (disch := omega) only [h1, h3, h4, h6, h9, h10, hat, hat', hH0, hH1', go_sem, ht]); (refine pCall_vw (by refine ⟨⟨?_, ?_⟩, ?_, ?_⟩; rotate_left 2; (first | (right; rintro r rfl; rfl) | left); all_goals ((try simp -implicitDefEqProofs (disch := omega) only [h1, h3, h4, h6, h9, h10, hat, hat', hH0, hH1', go_sem, ht]) <;> rfl)) (s1) ?_; rintro _ nx_3 - rfl hnx_3; simp -implicitDefEqProofs (disch := omega) only [h1, h3, h4, h6, h9, h10, hat, hat', hH0, hH1', go_sem, ht]))
      have hne : id ≠ nx_3 := by omega
      (refine append_ownSX (by refine ⟨?_, ?_, ?_, ?_, ?_, ?_, ?_, ?_⟩ <;> (simp -implicitDefEqProofs (disch := omega) only [srcP_ref, srcP_sl, srcP_nil, Option.isSome_some, hH, go_sem, ht] <;> rfl)) (by rfl) (by first | omega | (simp <;> omega)) (by first | assumption | (simp <;> omega)) (by first | rfl | simp) (by first | omega | (simp <;> omega)) ?_; intro id1 cap1 rest1 H1 nx1 hH1 hcap1 hid1 hnx1 hfr1 hfs1; simp only [put_nx, withH_nx, put_H, withH_H] at hid1 hnx1 hfr1 hfs1)
      rw [htk] at hH1
      have hA : H1 0 = some [.val (.bool (decide (p < 0))), .sl (D p.natAbs).length ((D p.natAbs).map I)] := by rw [hfr1 0 (by omega) (by omega)]; simp -implicitDefEqProofs (disch := omega) only [go_sem, ht, hH0]
      have hB : H1 1 = some [.val (.bool (decide (q < 0))), .sl (D q.natAbs).length ((D q.natAbs).map I)] := by rw [hfr1 1 (by omega) (by omega)]; simp -implicitDefEqProofs (disch := omega) only [go_sem, ht, hH1']
      simp -implicitDefEqProofs (disch := omega) only [go_sem, ht, h1, h3, h4, h6, h9, h10]
      exact ⟨⟨hA, hB, i + 1, by omega, rfl, id1, cap1, rest1, rfl, hH1, by omega, by omega, by omega⟩, by omega⟩
end
end Go.Proofs.YtfjdfnlkobeehaaGreat.Ref
namespace Go.Proofs.YtfjdfnlkobeehaaGreat
theorem nnA_rep {E : En} {ds : List PV} : ∀ {qs : List PV} {vs : List Value}, RepL E (qs ++ ds) vs → RepL E (qs.map nn1 ++ ds) vs
  | [], _, h => h
  | q :: qs, v :: vs, h => by
    simp only [List.cons_append, List.map_cons, RepL] at h ⊢
    exact ⟨nn1_rep h.1, nnA_rep h.2⟩
  | _ :: _, [], h => by simp [RepL] at h
theorem mapM_app' {α β : Type} {f : α → Option β} : ∀ {l m : List α} {a b : List β}, l.mapM f = some a → m.mapM f = some b → (l ++ m).mapM f = some (a ++ b)
  | [], m, a, b, h, h' => by
    obtain rfl : a = [] := by simpa using h.symm
    exact h'
  | x :: l, m, a, b, h, h' => by
    rw [mapMo_cons] at h
    cases hf : f x with
    | none => rw [hf] at h; simp at h
    | some y =>
      cases hg : l.mapM f with
      | none => rw [hf, hg] at h; simp at h
      | some ys =>
        rw [hf, hg] at h
        have e : y :: ys = a := by simpa using h
        subst e
        rw [List.cons_append, mapMo_cons, hf, mapM_app' hg h']; rfl

theorem Gh.rows {st : PS} {id : Nat} {cs qs ws : List PV} {rest : List Value} (D : Nat → Bool) (h0 : st.H id = some (cs ++ rest.map .val)) (hD : D id = false) (hq : cs.mapM (YtfjdfnlkobeehaaGreat.frz D st.H 1) = some qs) (hw : qs.map nn1 = ws) :
    Gh st (st.withH (upd (dropH D st.H) id (some (ws ++ rest.map .val))) st.nx) := by
  subst hw
  have h1 := Gh.frzH D 1 h0 hD (mapM_app' hq (frzL_flat D st.H 1 (flatL_val rest)))
  refine Gh.trans h1 ?_
  have h2 := Gh.weak (st := st.withH (upd (dropH D st.H) id (some (qs ++ rest.map .val))) st.nx) (id := id) (cs := qs ++ rest.map .val) (qs := qs.map nn1 ++ rest.map .val) (by show upd _ id _ id = _; rw [upd_self]) (fun e => by simpa using e) (fun e => by simpa using e) fun _ _ h => nnA_rep h
  have e : upd (upd (dropH D st.H) id (some (qs ++ rest.map PV.val))) id (some (qs.map nn1 ++ rest.map PV.val)) = upd (dropH D st.H) id (some (qs.map nn1 ++ rest.map PV.val)) := by
    funext j
    by_cases hj : j = id
    · subst hj; rw [upd_self, upd_self]
    · rw [upd_ne _ _ hj, upd_ne _ _ hj, upd_ne _ _ hj]
  rw [← e]
  exact h2
end Go.Proofs.YtfjdfnlkobeehaaGreat
namespace Go.Proofs.YtfjdfnlkobeehaaGreat.Ref
open YtfjdfnlkobeehaaGreat (SWc SW WX WC WV vals vals_len SM lenM Rn vc vc_lt canZ canZ_len combZ combZ_len combZ_take primZ upZ upZ_len SW_def SM_def cZ get_SM' getD_take getD_mem insR insB zeroB getD_vals wrongM)

def SNM (W : List (List Int)) : PV := .sl W.length (W.map SN)
theorem SNM_def (W : List (List Int)) : SNM W = .sl W.length (W.map SN) := rfl
theorem SNM_flat (W : List (List Int)) : flatL (W.map SN) = true := by
  induction W with
  | nil => rfl
  | cons l m ih => simp only [List.map_cons, flatL, SN_def, flat, SNc_flat, ih, Bool.and_self]
theorem get_SNM {W : List (List Int)} {i : Nat} (r : List PV) (h : i < W.length) : (W.map SN ++ r)[i]? = some (SN (W.getD i [])) := by
  rw [List.getElem?_append_left (by simpa using h)]
  simp [h]
theorem get_SNM' {W : List (List Int)} {i : Nat} (h : i < W.length) : (W.map SN)[i]? = some (SN (W.getD i [])) := by simp [h]
theorem set_SNM {W : List (List Int)} {i : Nat} {z : List Int} {n : Nat} (r : List PV) (h : i < W.length) (hn : n = z.length) : spl (W.map SN ++ r) i [.sl n (SNc z)] = (W.set i z).map SN ++ r := by
  subst hn
  unfold spl
  simp only [List.length_singleton]
  rw [List.take_append_of_le_length (by simpa using Nat.le_of_lt h), List.drop_append_of_le_length (by simp; omega), List.set_eq_take_append_cons_drop, if_pos h]
  simp [SN_def]
theorem nn1_SNM (W : List (List Int)) : (W.map SN).map nn1 = W.map SN := by
  rw [List.map_map]; rfl
attribute [go_sem] SNM_def SNM_flat get_SNM
section
variable {W : List (List Int)} {cols : Nat}
set_option maxHeartbeats 4000000 in
theorem copied_z (hW : ∀ z ∈ W, z.length ≤ 1000000) (hlen : W.length ≤ 1000000) : PO1 Tryz.prog 74 [SNM W] (fun p => p) (W.map SN) := by
  refine PCalls.enter (n := 20) (rs := [.tmp 2]) (tb := []) Tryz.func74 rfl rfl rfl (by kernel_rfl) (by kernel_rfl) (by simp) fun c hc ht => ?_
  simp -implicitDefEqProofs (disch := omega) only [go_sem, ht]
  refine LW.ghost (Gh.nilW 3 1 (by simp -implicitDefEqProofs (disch := omega) only [go_sem, ht])) ?_
  refine LW.loopG hc ht (by kernel_rfl) (fun t => t.sl 0 = .sl W.length (W.map SN) ∧ ∃ i : Nat, i ≤ W.length ∧ t.sl 4 = .val (.int .i64 i) ∧ ∃ (id cap : Nat) (rest : List Value) (D : Nat → Bool) (cs qs : List PV), t.sl 3 = .ref id 0 i cap 1 ∧ t.H id = some (cs ++ rest.map .val) ∧ i + rest.length = cap ∧ id < t.nx ∧ D id = false ∧ cs.mapM (YtfjdfnlkobeehaaGreat.frz D t.H 1) = some qs ∧ qs.map nn1 = (W.take i).map SN)
    (fun t => match t.sl 4 with | .val (.int _ k) => W.length - k.toNat | _ => 0) ?_ ?_
  · simp -implicitDefEqProofs (disch := omega) only [go_sem, ht]
    exact ⟨0, Nat.zero_le _, rfl, _, 0, [], fun _ => false, [], [], rfl, upd_self _ _ _, rfl, by omega, rfl, rfl, rfl⟩
  · rintro t ⟨h0, i, hi, h4, id, cap, rest, D, cs, qs, h3, hH, hcap, hid, hD, hfz, hqs⟩
    refine ⟨_, Gh.rows D hH hD hfz hqs, ?_⟩
    by_cases hil : i = W.length
    · subst hil
      rw [List.take_length]
      simp -implicitDefEqProofs (disch := omega) only [go_sem, ht, h0, h3, h4]
      exact end_own1 (mk := fun p => p) (by simp -implicitDefEqProofs (disch := omega) only [go_sem, ht, List.length_map] <;> rfl) (by simp -implicitDefEqProofs (disch := omega) only [go_sem, ht, upd_self] <;> rfl) (by simp) (by simp; omega)
    · have hlt : i < W.length := by omega
      have hgi := get_SNM' hlt
      have hzl := hW _ (getD_mem (d := []) hlt)
      have hst : (W.take (i + 1)).map SN = (W.take i).map SN ++ [SN (W.getD i [])] := by
        rw [getD_take (d := []) hlt, List.map_append]; rfl
      have hln : ((W.take i).map SN).length = i := by simp; omega
      have hfw := fun D H => YtfjdfnlkobeehaaGreat.frzL_flat D H 1 (SNM_flat (W.take i))
      have hnw := nn1_SNM (W.take i)
      generalize W.getD i [] = z at *
      generalize (W.take i).map SN = ws at *
      simp -implicitDefEqProofs (disch := omega) only [go_sem, ht, h0, h3, h4, hgi]
      refine append_nilS (m := z.length) (sz := 2) (ys := SNc z) T77_elem rfl T81_size T81_bytes T81_zero rfl (by simp -implicitDefEqProofs (disch := omega) only [go_sem, ht, srcP_sl]; rw [if_pos (by rw [SNc_len]; omega)]) (SNc_one z) (by omega) (fun h00 => ?_) (fun capr restr hcapr hpos => ?_)
      · have hz0 : z = [] := List.eq_nil_of_length_eq_zero h00
        subst hz0
        simp -implicitDefEqProofs (disch := omega) only [go_sem, ht, h0, h3, h4]
        have hne : id ≠ t.nx := by omega
        (refine append_ownX (by refine ⟨?_, ?_, ?_, ?_, ?_, ?_, ?_, ?_⟩ <;> (simp -implicitDefEqProofs (disch := omega) only [srcP_ref, srcP_sl, srcP_nil, Option.isSome_some, upd_self, hne, go_sem, ht] <;> rfl)) (by first | omega | (simp <;> omega)) (by first | assumption | (simp <;> omega)) (by first | rfl | simp) (by first | omega | (simp <;> omega)) ?_; intro id1 cap1 rest1 H1 nx1 hH1 hcap1 hid1 hnx1 hfr1 hfs1; (try simp only [put_nx, withH_nx, put_H, withH_H] at hid1 hnx1 hfr1 hfs1); (try simp only [app_U, ← List.map_append] at hH1))
        simp -implicitDefEqProofs (disch := omega) only [go_sem, ht, h0, h3, h4]
        refine ⟨⟨i + 1, by omega, rfl, id1, cap1, rest1, fun _ => false, _, ws ++ [.val (.slice none 0 0)], rfl, hH1, by omega, by omega, rfl, ?_, ?_⟩, by omega⟩
        · exact mapM_app' (hfw _ _) rfl
        · rw [List.map_append, hnw, hst]; rfl
      · simp -implicitDefEqProofs (disch := omega) only [go_sem, ht, h0, h3, h4]
        have hne : id ≠ t.nx := by omega
        have hne2 : id ≠ t.nx + 1 := by omega
        (refine append_ownX (by refine ⟨?_, ?_, ?_, ?_, ?_, ?_, ?_, ?_⟩ <;> (simp -implicitDefEqProofs (disch := omega) only [srcP_ref, srcP_sl, srcP_nil, Option.isSome_some, upd_self, hne, hne2, go_sem, ht] <;> rfl)) (by first | omega | (simp <;> omega)) (by first | assumption | (simp <;> omega)) (by first | rfl | simp) (by first | omega | (simp <;> omega)) ?_; intro id1 cap1 rest1 H1 nx1 hH1 hcap1 hid1 hnx1 hfr1 hfs1; (try simp only [put_nx, withH_nx, put_H, withH_H] at hid1 hnx1 hfr1 hfs1); (try simp only [app_U, ← List.map_append] at hH1))
        simp -implicitDefEqProofs (disch := omega) only [go_sem, ht, h0, h3, h4]
        have hHr : H1 t.nx = some (SNc z ++ restr.map .val) := by rw [hfr1 _ (by omega) (by omega)]; simp -implicitDefEqProofs (disch := omega) only [go_sem, ht, upd_self]
        refine ⟨⟨i + 1, by omega, rfl, id1, cap1, rest1, fun x => decide (x = t.nx), _, ws ++ [SN z], rfl, hH1, by omega, by omega, by simp; omega, ?_, ?_⟩, by omega⟩
        · refine mapM_app' (hfw _ _) ?_
          rw [mapMo_cons, frz_ref, if_pos (by simp), hHr, Option.bind_some, if_pos (by simp [SNc_len]; omega)]
          rw [List.drop_zero, take_SNc z _ rfl, frzL_SNc]; rfl
        · rw [List.map_append, hnw, hst]; rfl
end
end Go.Proofs.YtfjdfnlkobeehaaGreat.Ref
end

section
set_option maxRecDepth 100000
set_option linter.unusedVariables false
set_option linter.unusedSimpArgs false
namespace Go.Proofs.YtfjdfnlkobeehaaGreat

theorem dropH_at (D : Nat → Bool) (H : Nat → Option (List PV)) (i : Nat) : dropH D H i = if D i = true then none else H i := rfl
end Go.Proofs.YtfjdfnlkobeehaaGreat
end

section
set_option maxRecDepth 100000
set_option linter.unusedVariables false
set_option linter.unusedSimpArgs false
namespace Go.Proofs.YtfjdfnlkobeehaaGreat

def loopsC : Code → List Code
  | .seq x y => loopsC x ++ loopsC y
  | .cond _ x y => loopsC x ++ loopsC y
  | .block _ x => loopsC x
  | .scope x => loopsC x
  | .loop x => .loop x :: loopsC x
  | _ => []
def loopN (fn : Func) (k : Nat) : Code := ((fn.body.map loopsC).getD []).getD k .skip
theorem LW.ofLoop {P : Program} {fn : Func} {k : Nat} {x : Code} {c : Cx} {Q : Exit → PS → Prop} {s : PS} (h : loopN fn k = Code.loop x) (hw : LW P c (.loop x) Q s) : LW P c (loopN fn k) Q s := h ▸ hw
end Go.Proofs.YtfjdfnlkobeehaaGreat
end

section
set_option maxRecDepth 100000
set_option linter.unusedVariables false
set_option linter.unusedSimpArgs false
namespace Go.Proofs.YtfjdfnlkobeehaaGreat


def augL (m : List (List (Bool × List Nat))) (r : List (Bool × List Nat)) : List (List (Bool × List Nat)) := List.zipWith (fun l p => l ++ [p]) m r
theorem augL_len {m : List (List (Bool × List Nat))} {r : List (Bool × List Nat)} (h : r.length = m.length) : (augL m r).length = m.length := by simp [augL, h]
theorem augL_get {m : List (List (Bool × List Nat))} {r : List (Bool × List Nat)} (h : r.length = m.length) {i : Nat} (hi : i < m.length) : (augL m r).getD i [] = m.getD i [] ++ [r[i]'(by omega)] := by
  have h2 : i < r.length := by omega
  have hl : i < (augL m r).length := by rw [augL_len h]; exact hi
  rw [show (augL m r).getD i [] = (augL m r)[i] by simp [hl], show m.getD i [] = m[i] by simp [hi]]
  simp only [augL, List.getElem_zipWith]
theorem lenM_aug : ∀ {m : List (List (Bool × List Nat))} {r : List (Bool × List Nat)}, lenM (augL m r) ≤ lenM m + lenW r
  | [], _ => by simp [augL, lenM]
  | _ :: _, [] => by simp [augL, lenM]
  | l :: m, p :: r => by
    have ih := lenM_aug (m := m) (r := r)
    have e : lenM (augL (l :: m) (p :: r)) = (1 + lenW (l ++ [p])) + lenM (augL m r) := by simp [augL, lenM]
    have e2 : lenM (l :: m) = (1 + lenW l) + lenM m := by simp [lenM]
    rw [e, e2, lenW_app]
    simp only [lenW]
    omega
section
variable {m : List (List (Bool × List Nat))} {r : List (Bool × List Nat)} {n : Nat}
theorem one_SWc (l : List (Bool × List Nat)) : (SWc l).all oneP = true := by
  induction l with
  | nil => rfl
  | cons p l ih => rw [SWc_cons]; simp only [List.all_cons, ih, Bool.and_true]; rfl
theorem mapM_app {α β : Type} {f : α → Option β} : ∀ {l m : List α} {a b : List β}, l.mapM f = some a → m.mapM f = some b → (l ++ m).mapM f = some (a ++ b)
  | [], m, a, b, h, h' => by
    obtain rfl : a = [] := by simpa using h.symm
    exact h'
  | x :: l, m, a, b, h, h' => by
    rw [List.mapM_cons] at h
    cases hf : f x with
    | none => rw [hf] at h; simp at h
    | some y =>
      cases hg : l.mapM f with
      | none => rw [hf, hg] at h; simp at h
      | some ys =>
        rw [hf, hg] at h
        have e : y :: ys = a := by simpa using h
        subst e
        rw [List.cons_append, List.mapM_cons, hf, mapM_app hg h']; rfl
theorem frz_nils (D : Nat → Bool) (H : Nat → Option (List PV)) (d : Nat) (k : Nat) : (List.replicate k (PV.val (.slice none 0 0))).mapM (YtfjdfnlkobeehaaGreat.frz D H d) = some (List.replicate k (PV.val (.slice none 0 0))) := frzL_flat D H d (by
  induction k with
  | zero => rfl
  | succ k ih => rw [List.replicate_succ]; simp [flatL, flat, ih])
section
variable {b : Nat} {cx : Cx} {Q : Exit → PS → Prop} {s : PS}
set_option maxHeartbeats 8000000 in
theorem solve0 (hc : cx.n = 118) (ht : cx.tb = [(7, [(0, []), (1, []), (2, []), (3, []), (5, []), (7, []), (8, []), (9, []), (10, []), (4, [0, 1, 5, 7, 8, 9, 10]), (6, [0, 1, 7, 8, 9, 10]), (11, [0, 1, 2, 3, 5]), (12, [0, 1]), (13, []), (14, [])]), (1000007, [(0, []), (0, []), (0, []), (4, []), (12, []), (0, []), (60, []), (0, []), (0, []), (384, []), (896, []), (1920, []), (4092, []), (8191, []), (16383, [])]), (21, [(0, []), (1, []), (2, []), (3, []), (4, []), (5, []), (6, []), (7, []), (8, []), (9, []), (10, []), (11, []), (12, []), (13, []), (14, []), (15, []), (16, [0, 1]), (17, []), (18, []), (19, []), (20, []), (21, [19])]), (1000021, [(0, []), (0, []), (0, []), (0, []), (12, []), (28, []), (0, []), (124, []), (252, []), (0, []), (0, []), (1536, []), (3584, []), (0, []), (15872, []), (32256, []), (65532, []), (131068, []), (262140, []), (262140, []), (524287, []), (1572863, [])])]) (hm : ∀ l ∈ m, (∀ p ∈ l, Lm p.2) ∧ l.length = n) (hr : r.length = m.length) (hml : m.length ≤ 64) (hn : n ≤ 32)
    (hI : s.sl 0 = .sl m.length (m.map SW) ∧ s.sl 1 = .val (.int .i64 n) ∧ s.sl 2 = .sl m.length (SWc r) ∧ s.sl 9 = .ref b 0 m.length m.length 1 ∧ s.sl 33 = .sl m.length (m.map SW) ∧ s.sl 34 = .val (.int .i64 m.length) ∧ b < s.nx ∧ s.sl 35 = .val (.int .i64 (0 : Nat)) ∧ s.H b = some (List.replicate m.length (.val (.slice none 0 0))))
    (hQ : ∀ t : PS, t.sl 1 = .val (.int .i64 n) → t.sl 9 = .ref b 0 m.length m.length 1 → t.H b = some ((augL m r).map SW) → b < t.nx → Q (.exit 0) t) : LW Tryz.prog cx (loopN Tryz.f16 0) Q s := by
  refine LW.ofLoop rfl ?_
  refine LW.loopG hc ht (by kernel_rfl) (fun t => t.sl 0 = .sl m.length (m.map SW) ∧ t.sl 1 = .val (.int .i64 n) ∧ t.sl 2 = .sl m.length (SWc r) ∧ t.sl 9 = .ref b 0 m.length m.length 1 ∧ t.sl 33 = .sl m.length (m.map SW) ∧ t.sl 34 = .val (.int .i64 m.length) ∧ b < t.nx ∧ ∃ i : Nat, i ≤ m.length ∧ t.sl 35 = .val (.int .i64 i) ∧
      ∃ (D : Nat → Bool) (cs : List PV), t.H b = some cs ∧ D b = false ∧ cs.mapM (YtfjdfnlkobeehaaGreat.frz D t.H 1) = some (((augL m r).take i).map SW ++ List.replicate (m.length - i) (.val (.slice none 0 0))))
    (fun t => match t.sl 35 with | .val (.int _ k) => m.length - k.toNat | _ => 0) ?_ ?_
  · obtain ⟨g0, g1, g2, g9, g33, g34, gb, g35, gH⟩ := hI
    exact ⟨g0, g1, g2, g9, g33, g34, gb, 0, Nat.zero_le _, g35, fun _ => false, _, gH, rfl, frz_nils _ _ _ _⟩
  · rintro t ⟨h0, h1, h2, h9, h33, h34, hnx', i, hi, h35, D, cs, hH, hD, hfz⟩
    refine ⟨_, Gh.frzH D 1 hH hD hfz, ?_⟩
    by_cases hil : i = m.length
    · subst hil
      have htA : (augL m r).take m.length = augL m r := List.take_of_length_le (by rw [augL_len hr]; omega)
      rw [htA, Nat.sub_self]
      simp -implicitDefEqProofs (disch := omega) only [go_sem, ht, h0, h1, h2, h9, h33, h34, h35]
      exact hQ _ (by simp -implicitDefEqProofs (disch := omega) only [go_sem, ht, h1]) (by simp -implicitDefEqProofs (disch := omega) only [go_sem, ht, h9]) (by simp -implicitDefEqProofs (disch := omega) only [go_sem, ht, upd_self]; simp) (by simp -implicitDefEqProofs (disch := omega) only [go_sem, ht]; exact hnx')
    · have hlt : i < m.length := by omega
      have hgi := get_SM' hlt
      obtain ⟨g1, g2⟩ := hm _ (getD_mem (d := []) hlt)
      have hat := SWc_at (l := r) (i := i) (by omega)
      have hag := augL_get hr hlt
      rw [SW_def, g2] at hgi
      generalize m.getD i [] = l at *
      simp -implicitDefEqProofs (disch := omega) only [go_sem, ht, h0, h1, h2, h9, h33, h34, h35, hgi, hat]
      have g3 : 2 * l.length = n * 2 := by omega
      have hrp := replW (n + 1)
      have hrl := repl_len (n + 1) [Value.bool false, Value.slice none 0 0]
      have hrn : ((repl (n + 1) [Value.bool false, Value.slice none 0 0]).map PV.val) = [] ++ (repl (n + 1) [Value.bool false, Value.slice none 0 0]).map PV.val := rfl
      rw [hrn] at hrp
      clear hrn
      generalize repl (n + 1) [Value.bool false, Value.slice none 0 0] = rz at *
      rw [List.nil_append] at hrp
      refine append_ownS (cs := []) (rest := rz) (ys := SWc l) (m := n) (sz := 2) T40_elem rfl T50_size T50_bytes T50_zero rfl (by simp -implicitDefEqProofs (disch := omega) only [go_sem, ht, srcP_sl, if_pos g3]) (one_SWc l) (by simp -implicitDefEqProofs (disch := omega) only [go_sem, ht, upd_self, hrp] <;> rfl) rfl (by simp at hrl ⊢; omega) (by rw [SWc_len]; omega) ⟨by omega, by omega⟩ ?_
      intro id1 cap1 rest1 H1 nx1 hH1 hcap1 hid1 hnx1 hfr1 hfs1
      simp only [put_nx, withH_nx, put_H, withH_H] at hid1 hnx1 hfr1 hfs1
      simp -implicitDefEqProofs (disch := omega) only [go_sem, ht, h0, h1, h2, h9, h33, h34, h35, hgi, hat]
      rw [List.nil_append] at hH1
      have hll := SWc_len l
      have hp := SWc_app l [r[i]]
      refine append_ownS (cs := SWc l) (rest := rest1) (ys := [.val (.bool r[i].1), SU r[i].2]) (m := 1) (sz := 2) T40_elem rfl T50_size T50_bytes T50_zero rfl (by simp -implicitDefEqProofs (disch := omega) only [go_sem, ht, srcP_ref] <;> rfl) (by rfl) (by simp -implicitDefEqProofs (disch := omega) only [go_sem, ht, hH1]) (by omega) (by omega) (by rfl) ⟨by omega, by omega⟩ ?_
      intro id2 cap2 rest2 H2 b2 hH2 hcap2 hid2 hnx2 hfr2 hfs2
      simp only [put_nx, withH_nx, put_H, withH_H] at hid2 hnx2 hfr2 hfs2
      simp -implicitDefEqProofs (disch := omega) only [go_sem, ht, h0, h1, h2, h9, h33, h34, h35, hgi, hat]
      have hX : H2 b = some (((augL m r).take i).map SW ++ List.replicate (m.length - i) (.val (.slice none 0 0))) := by
        rw [hfr2 b (by omega) (by omega), upd_ne _ _ (by omega), hfr1 b (by omega) (by omega), upd_ne _ _ (by omega), upd_self]
      have hAl : (((augL m r).take i).map SW).length = i := by rw [List.length_map, List.length_take, augL_len hr]; omega
      have hsp : ∀ x : PV, spl (((augL m r).take i).map SW ++ List.replicate (m.length - i) (.val (.slice none 0 0))) i [x] = ((augL m r).take i).map SW ++ x :: List.replicate (m.length - (i + 1)) (.val (.slice none 0 0)) := fun x => by
        obtain ⟨k, hk⟩ : ∃ k, m.length - i = k + 1 := ⟨m.length - (i + 1), by omega⟩
        rw [hk, show m.length - (i + 1) = k by omega, List.replicate_succ]
        have e1 : List.take i (((augL m r).take i).map SW ++ PV.val (.slice none 0 0) :: List.replicate k (PV.val (.slice none 0 0))) = ((augL m r).take i).map SW := List.take_left' hAl
        have e2 : List.drop (i + 1) (((augL m r).take i).map SW ++ PV.val (.slice none 0 0) :: List.replicate k (PV.val (.slice none 0 0))) = List.replicate k (PV.val (.slice none 0 0)) := by
          rw [List.append_cons, List.drop_left' (by rw [List.length_append, hAl]; rfl)]
        unfold spl
        rw [e1, List.length_singleton, e2]
        rfl
      have hH2n : H2 id2 = some (SWc (l ++ [r[i]]) ++ rest2.map .val) := by rw [hH2, hp]; rfl
      have hlen2 : (SWc (l ++ [r[i]])).length = (n + 1) * 2 := by rw [SWc_len, List.length_append, g2, List.length_singleton]; omega
      have hin2 : id2 ≠ b := by omega
      refine ⟨_, hX, by simp [hAl, augL_len hr]; omega, ⟨by omega, i + 1, by omega, rfl, fun x => decide (x = id2), _, rfl, by simp; omega, ?_⟩, by omega⟩
      rw [hsp]
      have hst := getD_take (l := augL m r) (i := i) (d := []) (by rw [augL_len hr]; exact hlt)
      rw [hag] at hst
      rw [hst, List.map_append, List.append_assoc]
      refine mapM_app (frzL_flat _ _ 1 (SM_flat _)) ?_
      refine mapM_app (l := [_]) (a := [SW (l ++ [r[i]])]) ?_ (frz_nils _ _ _ _)
      have hq : ∀ X, YtfjdfnlkobeehaaGreat.frz (fun x => decide (x = id2)) (upd H2 b X) 1 (.ref id2 0 (n + 1) cap2 2) = some (SW (l ++ [r[i]])) := fun X => by
        rw [frz_ref, if_pos (by simp), upd_ne _ _ hin2, hH2n, Option.bind_some, if_pos (by simp [hlen2]), List.drop_zero, ← hlen2, List.take_left, frzL_flat _ _ 0 (SWc_flat _)]
        simp [SW_def, g2]
      rw [List.mapM_cons, hq]
      rfl
end
end
end Go.Proofs.YtfjdfnlkobeehaaGreat
end

section
set_option maxRecDepth 100000
set_option linter.unusedVariables false
set_option linter.unusedSimpArgs false
namespace Go.Proofs.YtfjdfnlkobeehaaGreat
theorem rlimbsM {b : Bool} {xs ds : List Nat} {q : Rat} {k : Nat} (h : Fn b xs ds q k) : PT Tryz.prog 36 [FX b xs ds] (isV (.val (.int .i64 (max (D q.num.natAbs).length (D q.den).length : Nat)))) := by
  have t1 := rtrimW h
  have hq := h.zq
  have hk := h.ox.hk
  have s1 := size_calls (ds := D q.den)
  have l1 := limbsW (Wn.C hq.num hk)
  have l2 := limbsW (Wn.N hq.den hk)
  rw [Ref.limbs_eq] at l1 l2
  rw [show Int.natAbs (q.den : Int) = q.den from rfl] at l2
  have o1 := (Z.ok hq.num (by omega)).len
  have o2 := (Ok.D hq.den (by omega)).len
  have hmax : ∀ a c : Nat, (if (c : Int) > (a : Int) then (c : Int) else (a : Int)) = ((max a c : Nat) : Int) := fun a c => by
    split <;> omega
  refine PCalls.enter (n := 13) (rs := [.tmp 2]) (tb := [(2, [(0, []), (1, []), (3, []), (4, []), (2, [3, 4]), (5, []), (6, []), (7, []), (8, [])])]) Tryz.func36 rfl rfl rfl (by kernel_rfl) (by kernel_rfl) (by simp) fun c hc ht => ?_
  simp -implicitDefEqProofs (disch := omega) only [go_sem, ht]
  ((refine pCall_vw (by refine ⟨⟨?_, ?_⟩, ?_, ?_⟩; rotate_left 2; (first | (right; rintro r rfl; rfl) | left); all_goals ((try simp -implicitDefEqProofs (disch := omega) only [go_sem, ht]) <;> rfl)) (t1) ?_; rintro _ nx_1 - rfl hnx_1; simp -implicitDefEqProofs (disch := omega) only [go_sem, ht]); (refine pCall_vw (by refine ⟨⟨?_, ?_⟩, ?_, ?_⟩; rotate_left 2; (first | (right; rintro r rfl; rfl) | left); all_goals ((try simp -implicitDefEqProofs (disch := omega) only [go_sem, ht]) <;> rfl)) (l1) ?_; rintro _ nx_2 - rfl hnx_2; simp -implicitDefEqProofs (disch := omega) only [go_sem, ht]); (refine pCall_vw (by refine ⟨⟨?_, ?_⟩, ?_, ?_⟩; rotate_left 2; (first | (right; rintro r rfl; rfl) | left); all_goals ((try simp -implicitDefEqProofs (disch := omega) only [go_sem, ht]) <;> rfl)) (s1) ?_; rintro _ nx_3 - rfl hnx_3; simp -implicitDefEqProofs (disch := omega) only [go_sem, ht]); (refine pCall_vw (by refine ⟨⟨?_, ?_⟩, ?_, ?_⟩; rotate_left 2; (first | (right; rintro r rfl; rfl) | left); all_goals ((try simp -implicitDefEqProofs (disch := omega) only [go_sem, ht]) <;> rfl)) (l2) ?_; rintro _ nx_4 - rfl hnx_4; simp -implicitDefEqProofs (disch := omega) only [go_sem, ht]))
  (refine end_treeW 0 ?_; simp -implicitDefEqProofs (disch := omega) only [go_sem, ht, hmax])

def FLc (qs : List Rat) : List PV := qs.flatMap fun q => [.val (.bool (decide (q.num < 0))), .sl (D q.num.natAbs).length ((D q.num.natAbs).map U), .sl (D q.den).length ((D q.den).map U)]
def SF (qs : List Rat) : PV := .sl qs.length (FLc qs)
theorem SF_def (qs : List Rat) : SF qs = .sl qs.length (FLc qs) := rfl
theorem FLc_nil : FLc [] = [] := rfl
theorem FLc_cons (q : Rat) (qs : List Rat) : FLc (q :: qs) = .val (.bool (decide (q.num < 0))) :: .sl (D q.num.natAbs).length ((D q.num.natAbs).map U) :: .sl (D q.den).length ((D q.den).map U) :: FLc qs := rfl
theorem FLc_app (x y : List Rat) : FLc (x ++ y) = FLc x ++ FLc y := by unfold FLc; rw [List.flatMap_append]
theorem FLc_len : ∀ qs : List Rat, (FLc qs).length = qs.length * 3
  | [] => rfl
  | q :: qs => by rw [FLc_cons]; simp only [List.length_cons, FLc_len qs]; omega
theorem FLc_drop : ∀ (qs : List Rat) (c : Nat), (FLc qs).drop (c * 3) = FLc (qs.drop c)
  | qs, 0 => rfl
  | [], c + 1 => by simp [FLc]
  | q :: qs, c + 1 => by
    rw [Nat.succ_mul, FLc_cons]
    exact FLc_drop qs c
theorem FLc_take : ∀ (qs : List Rat) (c : Nat), (FLc qs).take (c * 3) = FLc (qs.take c)
  | qs, 0 => by simp [FLc]
  | [], c + 1 => by simp [FLc]
  | q :: qs, c + 1 => by
    rw [Nat.succ_mul, FLc_cons]
    show _ :: _ :: _ :: (FLc qs).take (c * 3) = _
    rw [FLc_take qs c]; rfl
def fv (qs : List Rat) (k : Nat) : Rat := qs.getD k 0
theorem fv_lt {qs : List Rat} {k : Nat} (h : k < qs.length) : fv qs k = qs[k] := by simp [fv, h]
theorem FLc_at {qs : List Rat} {c : Nat} (r : List PV) (h : c < qs.length) : (FLc qs ++ r).drop (c * 3) = .val (.bool (decide ((fv qs c).num < 0))) :: .sl (D (fv qs c).num.natAbs).length ((D (fv qs c).num.natAbs).map U) :: .sl (D (fv qs c).den).length ((D (fv qs c).den).map U) :: (FLc (qs.drop (c + 1)) ++ r) := by
  rw [List.drop_append_of_le_length (by rw [FLc_len]; omega), FLc_drop, List.drop_eq_getElem_cons h, FLc_cons, fv_lt h]; rfl
theorem FLc_set {qs : List Rat} {c : Nat} (r : List PV) (h : c < qs.length) (q : Rat) : spl (FLc qs ++ r) (c * 3) [.val (.bool (decide (q.num < 0))), .sl (D q.num.natAbs).length ((D q.num.natAbs).map U), .sl (D q.den).length ((D q.den).map U)] = FLc (qs.set c q) ++ r := by
  rw [spl_app (by rw [FLc_len]; simp; omega)]
  congr 1
  unfold spl
  have h4 : c * 3 + 3 = (c + 1) * 3 := by omega
  simp only [List.length_cons, List.length_nil, Nat.zero_add, Nat.reduceAdd]
  rw [FLc_take, h4, FLc_drop, List.set_eq_take_append_cons_drop, if_pos h, FLc_app]; rfl
theorem FLc_flat : ∀ qs : List Rat, flatL (FLc qs) = true
  | [] => rfl
  | q :: qs => by rw [FLc_cons]; simp [flatL, flat, FLc_flat qs, flatL_U]
section
variable {n b : Nat} {cx : Cx} {Q : Exit → PS → Prop} {s : PS} {e p : PV}
theorem rfrom0 : PT Tryz.prog 34 [.agg [.val (.bool false), .sl 0 []]] (isV (FC 0)) := by
  have h := rfromW (Wn.raw (b := false) (xs := []) (k := 1) (by intro x hx; simp at hx) (by simp) (by omega))
  rw [show WV false [] = 0 from rfl] at h
  exact h
set_option maxHeartbeats 8000000 in
theorem solve1 (hc : cx.n = 118) (ht : cx.tb = [(7, [(0, []), (1, []), (2, []), (3, []), (5, []), (7, []), (8, []), (9, []), (10, []), (4, [0, 1, 5, 7, 8, 9, 10]), (6, [0, 1, 7, 8, 9, 10]), (11, [0, 1, 2, 3, 5]), (12, [0, 1]), (13, []), (14, [])]), (1000007, [(0, []), (0, []), (0, []), (4, []), (12, []), (0, []), (60, []), (0, []), (0, []), (384, []), (896, []), (1920, []), (4092, []), (8191, []), (16383, [])]), (21, [(0, []), (1, []), (2, []), (3, []), (4, []), (5, []), (6, []), (7, []), (8, []), (9, []), (10, []), (11, []), (12, []), (13, []), (14, []), (15, []), (16, [0, 1]), (17, []), (18, []), (19, []), (20, []), (21, [19])]), (1000021, [(0, []), (0, []), (0, []), (0, []), (12, []), (28, []), (0, []), (124, []), (252, []), (0, []), (0, []), (1536, []), (3584, []), (0, []), (15872, []), (32256, []), (65532, []), (131068, []), (262140, []), (262140, []), (524287, []), (1572863, [])])]) (hn : n ≤ 32)
    (hI : s.sl 1 = .val (.int .i64 n) ∧ s.sl 12 = e ∧ s.sl 13 = p ∧ s.sl 14 = .ref b 0 n n 3 ∧ s.sl 65 = .val (.int .i64 n) ∧ s.sl 66 = .val (.int .i64 (0 : Nat)) ∧ b < s.nx ∧ (∃ cs : List PV, s.H b = some cs ∧ cs.length = n * 3))
    (hQ : ∀ t : PS, t.sl 1 = .val (.int .i64 n) → t.sl 12 = e → t.sl 13 = p → t.sl 14 = .ref b 0 n n 3 → t.H b = some (FLc (List.replicate n 0)) → b < t.nx → Q (.exit 2) t) : LW Tryz.prog cx (loopN Tryz.f16 1) Q s := by
  refine LW.ofLoop rfl ?_
  refine LW.loopW hc ht (by kernel_rfl) (fun t => t.sl 1 = .val (.int .i64 n) ∧ t.sl 12 = e ∧ t.sl 13 = p ∧ t.sl 14 = .ref b 0 n n 3 ∧ t.sl 65 = .val (.int .i64 n) ∧ b < t.nx ∧ ∃ i : Nat, i ≤ n ∧ t.sl 66 = .val (.int .i64 i) ∧ ∃ cs : List PV, t.H b = some (FLc (List.replicate i 0) ++ cs) ∧ cs.length = (n - i) * 3)
    (fun t => match t.sl 66 with | .val (.int _ k) => n - k.toNat | _ => 0) ?_ ?_
  · obtain ⟨g1, g12, g13, g14, g65, g66, gb, cs, gH, gl⟩ := hI
    exact ⟨g1, g12, g13, g14, g65, gb, 0, Nat.zero_le _, g66, cs, gH, gl⟩
  rintro t ⟨h1, h12, h13, h14, h65, hb, i, hi, h66, cs, hH, hl⟩
  by_cases hie : i = n
  · subst hie
    have : cs = [] := List.eq_nil_of_length_eq_zero (by omega)
    subst this
    rw [List.append_nil] at hH
    simp -implicitDefEqProofs (disch := omega) only [go_sem, ht, h1, h12, h13, h14, h65, h66]
    exact hQ _ (by simp -implicitDefEqProofs (disch := omega) only [go_sem, ht, h1]) (by simp -implicitDefEqProofs (disch := omega) only [go_sem, ht, h12]) (by simp -implicitDefEqProofs (disch := omega) only [go_sem, ht, h13]) (by simp -implicitDefEqProofs (disch := omega) only [go_sem, ht, h14]) hH (by simp -implicitDefEqProofs (disch := omega) only [go_sem, ht]; exact hb)
  · have hlt : i < n := by omega
    obtain ⟨x0, x1, x2, cs', rfl⟩ : ∃ x0 x1 x2 cs', cs = x0 :: x1 :: x2 :: cs' := by
      match cs, hl with
      | [], h => exfalso; simp at h; omega
      | [_], h => exfalso; simp at h; omega
      | [_, _], h => exfalso; simp at h; omega
      | x0 :: x1 :: x2 :: cs', _ => exact ⟨x0, x1, x2, cs', rfl⟩
    have hll : (FLc (List.replicate i 0)).length = i * 3 := by rw [FLc_len, List.length_replicate]
    have hsp : spl (FLc (List.replicate i 0) ++ x0 :: x1 :: x2 :: cs') (i * 3) [.val (.bool (decide ((0 : Rat).num < 0))), .sl (D (0 : Rat).num.natAbs).length ((D (0 : Rat).num.natAbs).map U), .sl (D (0 : Rat).den).length ((D (0 : Rat).den).map U)] = FLc (List.replicate (i + 1) 0) ++ cs' := by
      have e1 : List.take (i * 3) (FLc (List.replicate i 0) ++ x0 :: x1 :: x2 :: cs') = FLc (List.replicate i 0) := List.take_left' hll
      have e2 : List.drop (i * 3 + 3) (FLc (List.replicate i 0) ++ x0 :: x1 :: x2 :: cs') = cs' := by
        rw [← List.drop_drop, List.drop_left' hll]; rfl
      unfold spl
      simp only [List.length_cons, List.length_nil, Nat.zero_add, Nat.reduceAdd]
      rw [e1, e2, List.replicate_succ', FLc_app, List.append_assoc]; rfl
    have hln : (FLc (List.replicate i 0) ++ x0 :: x1 :: x2 :: cs').length = n * 3 := by simp at hl ⊢; omega
    have hf0 := rfrom0
    rw [FC_def] at hf0
    simp -implicitDefEqProofs (disch := omega) only [go_sem, ht, h1, h12, h13, h14, h65, h66, hH]
    ((refine pCall_vw (by refine ⟨⟨?_, ?_⟩, ?_, ?_⟩; rotate_left 2; (first | (right; rintro r rfl; rfl) | left); all_goals ((try simp -implicitDefEqProofs (disch := omega) only [h1, h12, h13, h14, h65, h66, hH, hsp, hln, go_sem, ht]) <;> rfl)) (hf0) ?_; rintro _ nx_5 - rfl hnx_5; simp -implicitDefEqProofs (disch := omega) only [h1, h12, h13, h14, h65, h66, hH, hsp, hln, go_sem, ht]))
    exact ⟨⟨by omega, i + 1, by omega, rfl, cs', rfl, by simp at hl; omega⟩, by omega⟩
end

def solL (T : List (List Int)) (P : List Nat) (n : Nat) : Nat → List Rat
  | 0 => List.replicate n 0
  | k + 1 => (solL T P n k).set (P.getD k 0) (Rat.divInt (vc (T.getD k []) n) (vc (T.getD k []) (P.getD k 0)))
theorem solL_len {T : List (List Int)} {P : List Nat} {n : Nat} : ∀ k, (solL T P n k).length = n
  | 0 => by simp [solL]
  | k + 1 => by rw [solL, List.length_set]; exact solL_len k

def limQ (q : Rat) : Nat := max (D q.num.natAbs).length (D q.den).length
theorem get_CZM {T : List (List Int)} {i : Nat} (h : i < T.length) : ((T.map CZ).map SW)[i]? = some (.sl (T.getD i []).length (SWc (CZ (T.getD i [])))) := by
  simp [h, SW_def, CZ_len]
section
variable {n b K : Nat} {cx : Cx} {Q : Exit → PS → Prop} {s : PS} {T : List (List Int)} {P : List Nat} {x : List Rat}
set_option maxHeartbeats 8000000 in
theorem solve2 (hc : cx.n = 118) (ht : cx.tb = [(7, [(0, []), (1, []), (2, []), (3, []), (5, []), (7, []), (8, []), (9, []), (10, []), (4, [0, 1, 5, 7, 8, 9, 10]), (6, [0, 1, 7, 8, 9, 10]), (11, [0, 1, 2, 3, 5]), (12, [0, 1]), (13, []), (14, [])]), (1000007, [(0, []), (0, []), (0, []), (4, []), (12, []), (0, []), (60, []), (0, []), (0, []), (384, []), (896, []), (1920, []), (4092, []), (8191, []), (16383, [])]), (21, [(0, []), (1, []), (2, []), (3, []), (4, []), (5, []), (6, []), (7, []), (8, []), (9, []), (10, []), (11, []), (12, []), (13, []), (14, []), (15, []), (16, [0, 1]), (17, []), (18, []), (19, []), (20, []), (21, [19])]), (1000021, [(0, []), (0, []), (0, []), (0, []), (12, []), (28, []), (0, []), (124, []), (252, []), (0, []), (0, []), (1536, []), (3584, []), (0, []), (15872, []), (32256, []), (65532, []), (131068, []), (262140, []), (262140, []), (524287, []), (1572863, [])])]) (hn : n ≤ 32) (hP : P.length ≤ 100) (hTl : T.length = P.length) (hT : ∀ k, k < P.length → (T.getD k []).length = n + 1) (hz : ∀ k, k < P.length → ∀ y ∈ T.getD k [], Z K y) (hK : 1 ≤ K) (hK2 : K ≤ 100000)
    (hpc : ∀ k, k < P.length → vc (T.getD k []) (P.getD k 0) ≠ 0) (hpn : ∀ k, k < P.length → P.getD k 0 ≤ n)
    (hI : s.sl 1 = .val (.int .i64 n) ∧ s.sl 12 = .sl T.length ((T.map CZ).map SW) ∧ s.sl 14 = .ref b 0 n n 3 ∧ s.sl 75 = .sl P.length (P.map Ref.I) ∧ s.sl 76 = .val (.int .i64 P.length) ∧ s.sl 77 = .val (.int .i64 (0 : Nat)) ∧ b < s.nx ∧ s.H b = some (FLc (solL T P n 0)))
    (hR : n ∈ P → ∀ t : PS, t.sl 6 = .val (.slice none 0 0) → t.sl 7 = .val (.bool false) → t.sl 8 = .val (.int .i64 0) → Q .ret t)
    (hQ : n ∉ P → ∀ t : PS, t.sl 14 = .ref b 0 n n 3 → t.H b = some (FLc (solL T P n P.length)) → b < t.nx → Q (.exit 4) t) : LW Tryz.prog cx (loopN Tryz.f16 2) Q s := by
  refine LW.ofLoop rfl ?_
  refine LW.loopW hc ht (by kernel_rfl) (fun t => t.sl 1 = .val (.int .i64 n) ∧ t.sl 12 = .sl T.length ((T.map CZ).map SW) ∧ t.sl 14 = .ref b 0 n n 3 ∧ t.sl 75 = .sl P.length (P.map Ref.I) ∧ t.sl 76 = .val (.int .i64 P.length) ∧ b < t.nx ∧ ∃ k : Nat, k ≤ P.length ∧ t.sl 77 = .val (.int .i64 k) ∧ (∀ i, i < k → P.getD i 0 ≠ n) ∧ t.H b = some (FLc (solL T P n k)))
    (fun t => match t.sl 77 with | .val (.int _ k) => P.length - k.toNat | _ => 0) ?_ ?_
  · obtain ⟨g1, g12, g14, g75, g76, g77, gb, gH⟩ := hI
    exact ⟨g1, g12, g14, g75, g76, gb, 0, Nat.zero_le _, g77, fun i hi => by omega, gH⟩
  rintro t ⟨h1, h12, h14, h75, h76, hb, k, hk, h77, hno, hH⟩
  by_cases hke : k = P.length
  · subst hke
    have hnm : n ∉ P := fun hm => by
      obtain ⟨i, hi, e⟩ := List.mem_iff_getElem.1 hm
      exact hno i hi (by simp [hi, e])
    simp -implicitDefEqProofs (disch := omega) only [go_sem, ht, h1, h12, h14, h75, h76, h77]
    exact hQ hnm _ (by simp -implicitDefEqProofs (disch := omega) only [go_sem, ht, h14]) hH (by simp -implicitDefEqProofs (disch := omega) only [go_sem, ht]; exact hb)
  · have hlt : k < P.length := by omega
    have hgp : (P.map Ref.I)[k]? = some (.val (.int .i64 (P.getD k 0 : Nat))) := by simp [hlt, Ref.I]
    have hpl : (P.map Ref.I).length = P.length := by simp
    by_cases hpe : P.getD k 0 = n
    · have hm : n ∈ P := hpe ▸ (by simp [hlt])
      rw [hpe] at hgp
      simp -implicitDefEqProofs (disch := omega) only [go_sem, ht, h1, h12, h14, h75, h76, h77, hgp]
      exact hR hm _ (by simp -implicitDefEqProofs (disch := omega) only [go_sem, ht]) (by simp -implicitDefEqProofs (disch := omega) only [go_sem, ht]) (by simp -implicitDefEqProofs (disch := omega) only [go_sem, ht])
    · have hp1 := hpn k hlt
      have hcn : P.getD k 0 < n := by omega
      have hTk := hT k hlt
      have hge := get_CZM (T := T) (i := k) (by omega)
      rw [hTk] at hge
      have hat1 := CZ_at (z := T.getD k []) (c := n) (by omega)
      have hat2 := CZ_at (z := T.getD k []) (c := P.getD k 0) (by omega)
      have z1 := vc_z (hz k hlt) n
      have z2 := vc_z (hz k hlt) (P.getD k 0)
      have hof := rofW (Wn.C z1 (by omega)) (Wn.C z2 (by omega)) (hpc k hlt)
      have hsp := FLc_set (qs := solL T P n k) [] (c := P.getD k 0) (by rw [solL_len]; exact hcn) (Rat.divInt (vc (T.getD k []) n) (vc (T.getD k []) (P.getD k 0)))
      rw [List.append_nil, List.append_nil] at hsp
      have hsol : (solL T P n k).set (P.getD k 0) (Rat.divInt (vc (T.getD k []) n) (vc (T.getD k []) (P.getD k 0))) = solL T P n (k + 1) := rfl
      rw [hsol] at hsp
      have hln : (FLc (solL T P n k)).length = n * 3 := by rw [FLc_len, solL_len]
      have hno2 : ∀ i, i < k + 1 → P.getD i 0 ≠ n := fun i hi => by
        by_cases e : i = k
        · rw [e]; exact hpe
        · exact hno i (by omega)
      have hel : ((T.map CZ).map SW).length = T.length := by simp
      have hwl : (SWc (CZ (T.getD k []))).length = (n + 1) * 2 := by rw [SWc_len, CZ_len, hTk]; omega
      clear hsol hT hz hpc hpn hno
      obtain ⟨s2, es2⟩ : ∃ s, solL T P n (k + 1) = s := ⟨_, rfl⟩
      rw [es2] at hsp
      generalize solL T P n k = s1 at *
      generalize Rat.divInt (vc (T.getD k []) n) (vc (T.getD k []) (P.getD k 0)) = q at *
      generalize vc (T.getD k []) n = y1 at *
      generalize vc (T.getD k []) (P.getD k 0) = y2 at *
      generalize P.getD k 0 = pk at *
      generalize T.getD k [] = tk at *
      have hpe' : ¬ ((pk : Nat) : Int) = (n : Nat) := by omega
      simp -implicitDefEqProofs (disch := omega) only [go_sem, ht, h1, h12, h14, h75, h76, h77, hgp, hge, hat1, hat2, hH, hpe', hpe]
      ((refine pCall_vw (by refine ⟨⟨?_, ?_⟩, ?_, ?_⟩; rotate_left 2; (first | (right; rintro r rfl; rfl) | left); all_goals ((try simp -implicitDefEqProofs (disch := omega) only [h1, h12, h14, h75, h76, h77, hgp, hge, hat1, hat2, hH, hsp, hln, hpe, hpe', go_sem, ht]) <;> rfl)) (hof) ?_; rintro _ nx_6 - rfl hnx_6; simp -implicitDefEqProofs (disch := omega) only [h1, h12, h14, h75, h76, h77, hgp, hge, hat1, hat2, hH, hsp, hln, hpe, hpe', go_sem, ht]))
      exact ⟨⟨by omega, k + 1, by omega, rfl, hno2, by rw [es2]⟩, by omega⟩
set_option maxHeartbeats 8000000 in
theorem solve3 (hc : cx.n = 118) (ht : cx.tb = [(7, [(0, []), (1, []), (2, []), (3, []), (5, []), (7, []), (8, []), (9, []), (10, []), (4, [0, 1, 5, 7, 8, 9, 10]), (6, [0, 1, 7, 8, 9, 10]), (11, [0, 1, 2, 3, 5]), (12, [0, 1]), (13, []), (14, [])]), (1000007, [(0, []), (0, []), (0, []), (4, []), (12, []), (0, []), (60, []), (0, []), (0, []), (384, []), (896, []), (1920, []), (4092, []), (8191, []), (16383, [])]), (21, [(0, []), (1, []), (2, []), (3, []), (4, []), (5, []), (6, []), (7, []), (8, []), (9, []), (10, []), (11, []), (12, []), (13, []), (14, []), (15, []), (16, [0, 1]), (17, []), (18, []), (19, []), (20, []), (21, [19])]), (1000021, [(0, []), (0, []), (0, []), (0, []), (12, []), (28, []), (0, []), (124, []), (252, []), (0, []), (0, []), (1536, []), (3584, []), (0, []), (15872, []), (32256, []), (65532, []), (131068, []), (262140, []), (262140, []), (524287, []), (1572863, [])])]) (hn : n ≤ 32) (hx : x.length = n) (hz : ∀ c, c < n → Zq K (fv x c)) (hK : 1 ≤ K) (hK2 : K ≤ 100000)
    (hI : s.sl 14 = .ref b 0 n n 3 ∧ s.sl 107 = .ref b 0 n n 3 ∧ s.sl 108 = .val (.int .i64 n) ∧ s.sl 109 = .val (.int .i64 (0 : Nat)) ∧ b < s.nx ∧ s.H b = some (FLc x))
    (hR : (∃ c, c < n ∧ 32 < limQ (fv x c)) → ∀ t : PS, t.sl 6 = .val (.slice none 0 0) → t.sl 7 = .val (.bool false) → t.sl 8 = .val (.int .i64 2) → Q .ret t)
    (hQ : (∀ c, c < n → ¬ 32 < limQ (fv x c)) → ∀ t : PS, t.sl 14 = .ref b 0 n n 3 → t.H b = some (FLc x) → b < t.nx → Q (.exit 6) t) : LW Tryz.prog cx (loopN Tryz.f16 3) Q s := by
  refine LW.ofLoop rfl ?_
  refine LW.loopW hc ht (by kernel_rfl) (fun t => t.sl 14 = .ref b 0 n n 3 ∧ t.sl 107 = .ref b 0 n n 3 ∧ t.sl 108 = .val (.int .i64 n) ∧ b < t.nx ∧ t.H b = some (FLc x) ∧ ∃ i : Nat, i ≤ n ∧ t.sl 109 = .val (.int .i64 i) ∧ ∀ c, c < i → ¬ 32 < limQ (fv x c))
    (fun t => match t.sl 109 with | .val (.int _ k) => n - k.toNat | _ => 0) ?_ ?_
  · obtain ⟨g14, g107, g108, g109, gb, gH⟩ := hI
    exact ⟨g14, g107, g108, gb, gH, 0, Nat.zero_le _, g109, fun c hc => by omega⟩
  rintro t ⟨h14, h107, h108, hb, hH, i, hi, h109, hno⟩
  by_cases hie : i = n
  · subst hie
    simp -implicitDefEqProofs (disch := omega) only [go_sem, ht, h14, h107, h108, h109]
    exact hQ hno _ (by simp -implicitDefEqProofs (disch := omega) only [go_sem, ht, h14]) hH (by simp -implicitDefEqProofs (disch := omega) only [go_sem, ht]; exact hb)
  · have hlt : i < n := by omega
    have hlm := rlimbsM (Fn.C (hz i hlt) (by omega) hK)
    have hat := FLc_at (qs := x) [] (c := i) (by omega)
    rw [List.append_nil, List.append_nil] at hat
    have hln : (FLc x).length = n * 3 := by rw [FLc_len, hx]
    have hl : limQ (fv x i) = max (D (fv x i).num.natAbs).length (D (fv x i).den).length := rfl
    rw [← hl] at hlm
    have hno2 : ¬ 32 < limQ (fv x i) → ∀ c, c < i + 1 → ¬ 32 < limQ (fv x c) := fun h c hc => by
      by_cases e : c = i
      · rw [e]; exact h
      · exact hno c (by omega)
    have hex : 32 < limQ (fv x i) → ∃ c, c < n ∧ 32 < limQ (fv x c) := fun h => ⟨i, hlt, h⟩
    clear hl hno hz
    generalize limQ (fv x i) = lq at *
    generalize fv x i = q at *
    by_cases h32 : 32 < lq
    · have h32i : (32 : Int) < (lq : Nat) := by omega
      simp -implicitDefEqProofs (disch := omega) only [go_sem, ht, h14, h107, h108, h109, hH, hat]
      ((refine pCall_vw (by refine ⟨⟨?_, ?_⟩, ?_, ?_⟩; rotate_left 2; (first | (right; rintro r rfl; rfl) | left); all_goals ((try simp -implicitDefEqProofs (disch := omega) only [h14, h107, h108, h109, hH, hat, h32, h32i, go_sem, ht]) <;> rfl)) (hlm) ?_; rintro _ nx_7 - rfl hnx_7; simp -implicitDefEqProofs (disch := omega) only [h14, h107, h108, h109, hH, hat, h32, h32i, go_sem, ht]))
      exact hR (hex h32) _ (by simp -implicitDefEqProofs (disch := omega) only [go_sem, ht]) (by simp -implicitDefEqProofs (disch := omega) only [go_sem, ht]) (by simp -implicitDefEqProofs (disch := omega) only [go_sem, ht])
    · have h32i : ¬ (32 : Int) < (lq : Nat) := by omega
      simp -implicitDefEqProofs (disch := omega) only [go_sem, ht, h14, h107, h108, h109, hH, hat]
      ((refine pCall_vw (by refine ⟨⟨?_, ?_⟩, ?_, ?_⟩; rotate_left 2; (first | (right; rintro r rfl; rfl) | left); all_goals ((try simp -implicitDefEqProofs (disch := omega) only [h14, h107, h108, h109, hH, hat, h32, h32i, go_sem, ht]) <;> rfl)) (hlm) ?_; rintro _ nx_8 - rfl hnx_8; simp -implicitDefEqProofs (disch := omega) only [h14, h107, h108, h109, hH, hat, h32, h32i, go_sem, ht]))
      exact ⟨⟨by omega, i + 1, by omega, rfl, hno2 h32⟩, by omega⟩
end
end Go.Proofs.YtfjdfnlkobeehaaGreat
end

section
set_option maxRecDepth 100000
set_option linter.unusedVariables false
set_option linter.unusedSimpArgs false
namespace Go.Proofs.YtfjdfnlkobeehaaGreat
section
variable {T : List (List Int)} {P : List Nat} {n : Nat}
theorem solL_no {c : Nat} : ∀ k, (∀ i, i < k → P.getD i 0 ≠ c) → fv (solL T P n k) c = 0
  | 0, _ => by
    unfold solL fv
    by_cases h : c < n
    · simp [h]
    · simp [h]
  | k + 1, h => by
    have ih := solL_no (c := c) k fun i hi => h i (by omega)
    have hne := h k (by omega)
    unfold fv at ih ⊢
    rw [solL, List.getD_eq_getElem?_getD, List.getElem?_set_ne hne]
    rwa [List.getD_eq_getElem?_getD] at ih
end

end Go.Proofs.YtfjdfnlkobeehaaGreat
end

section
set_option maxRecDepth 100000
set_option linter.unusedVariables false
set_option linter.unusedSimpArgs false
namespace Go.Proofs.YtfjdfnlkobeehaaGreat
theorem solL_zq {T : List (List Int)} {P : List Nat} {n K : Nat} (hK : 1 ≤ K) (hz : ∀ k, k < P.length → ∀ j, Z K (vc (T.getD k []) j)) (hp : ∀ k, k < P.length → vc (T.getD k []) (P.getD k 0) ≠ 0) (c : Nat) : ∀ k, k ≤ P.length → Zq K (fv (solL T P n k) c)
  | 0, _ => by
    have h0 : fv (solL T P n 0) c = 0 := solL_no 0 fun i hi => by omega
    rw [h0]
    exact ⟨Nat.pow_pos (by decide), Nat.one_lt_pow (by omega) (by decide)⟩
  | k + 1, hk => by
    have ih := solL_zq (n := n) hK hz hp c k (by omega)
    unfold fv at ih ⊢
    rw [solL, List.getD_eq_getElem?_getD]
    rw [List.getD_eq_getElem?_getD] at ih
    by_cases hc : P.getD k 0 = c
    · rw [hc]
      by_cases hl : c < (solL T P n k).length
      · rw [List.getElem?_set_self hl]
        show Zq K (Rat.divInt _ _)
        rw [← rat_over (by rw [← hc]; exact hp k (by omega))]
        refine .of hK ?_ (hz k (by omega) c)
        split
        · exact (hz k (by omega) n).neg
        · exact hz k (by omega) n
      · rw [List.getElem?_eq_none (by rw [List.length_set]; omega)]
        rw [List.getElem?_eq_none (by omega)] at ih
        exact ih
    · rw [List.getElem?_set_ne hc]; exact ih
section
variable {m : List (List (Bool × List Nat))} {r : List (Bool × List Nat)} {B : Nat}

def mSol (m : List (List (Bool × List Nat))) (cn : Int) (r : List (Bool × List Nat)) : List Rat × Bool × Int :=
  if wrongM m cn || decide (r.length ≠ m.length) then ([], false, 1) else
    if cn.toNat ∈ (echW ((augL m r).map vals) (cn.toNat + 1)).2 then ([], false, 0) else
      if ∃ c, c < cn.toNat ∧ 32 < limQ (fv (solL (echT ((augL m r).map vals) (cn.toNat + 1)) (echW ((augL m r).map vals) (cn.toNat + 1)).2 cn.toNat (echW ((augL m r).map vals) (cn.toNat + 1)).2.length) c) then ([], false, 2) else
        (solL (echT ((augL m r).map vals) (cn.toNat + 1)) (echW ((augL m r).map vals) (cn.toNat + 1)).2 cn.toNat (echW ((augL m r).map vals) (cn.toNat + 1)).2.length, true, 0)
theorem aug_mx (hm : Mx m B) (hr : Rn r B) (hl : r.length = m.length) (hB : lenM m + lenW r ≤ B) : Mx (augL m r) B := by
  refine ⟨fun l hl p hp => ?_, ?_, hm.hB⟩
  · obtain ⟨i, hi, rfl⟩ := List.mem_iff_getElem.1 hl
    have hi' : i < m.length := by rw [augL_len (by assumption)] at hi; exact hi
    have e := augL_get (by assumption) hi'
    have e2 : (augL m r).getD i [] = (augL m r)[i] := by simp [hi]
    rw [← e2, e] at hp
    rcases List.mem_append.1 hp with hp | hp
    · exact hm.lm _ (getD_mem hi') p hp
    · have : p = r[i]'(by omega) := by simpa using hp
      rw [this]
      exact (hr.ok _ (List.getElem_mem _)).1
  · have := lenM_aug (m := m) (r := r)
    omega
theorem aug_row (hl : r.length = m.length) {n : Nat} (hc : ∀ l ∈ m, l.length = n) : ∀ l ∈ augL m r, l.length = n + 1 := fun l h => by
  obtain ⟨i, hi, rfl⟩ := List.mem_iff_getElem.1 h
  have hi' : i < m.length := by rw [augL_len hl] at hi; exact hi
  have e := augL_get hl hi'
  have e2 : (augL m r).getD i [] = (augL m r)[i] := by simp [hi]
  rw [← e2, e, List.length_append, hc _ (getD_mem hi')]; rfl
set_option maxHeartbeats 16000000 in
theorem solve_calls (hA : r.length = m.length → Mx (augL m r) B) (hm : ∀ l ∈ m, ∀ p ∈ l, Lm p.2) (hB : B ≤ 2000) {cn : Int} :
    PT Tryz.prog 16 [SM m, .val (.int .i64 cn), SW r] (isV (.tup [SF (mSol m cn r).1, .val (.bool (mSol m cn r).2.1), .val (.int .i64 (mSol m cn r).2.2)])) := by
  have hw := wrong_calls (m := m) (cn := cn)
  unfold mSol
  by_cases hb : wrongM m cn = true
  · rw [hb] at hw
    rw [hb, Bool.true_or, if_pos rfl]
    refine PCalls.enter (n := 118) (rs := [.tmp 6, .tmp 7, .tmp 8]) (tb := [(7, [(0, []), (1, []), (2, []), (3, []), (5, []), (7, []), (8, []), (9, []), (10, []), (4, [0, 1, 5, 7, 8, 9, 10]), (6, [0, 1, 7, 8, 9, 10]), (11, [0, 1, 2, 3, 5]), (12, [0, 1]), (13, []), (14, [])]), (1000007, [(0, []), (0, []), (0, []), (4, []), (12, []), (0, []), (60, []), (0, []), (0, []), (384, []), (896, []), (1920, []), (4092, []), (8191, []), (16383, [])]), (21, [(0, []), (1, []), (2, []), (3, []), (4, []), (5, []), (6, []), (7, []), (8, []), (9, []), (10, []), (11, []), (12, []), (13, []), (14, []), (15, []), (16, [0, 1]), (17, []), (18, []), (19, []), (20, []), (21, [19])]), (1000021, [(0, []), (0, []), (0, []), (0, []), (12, []), (28, []), (0, []), (124, []), (252, []), (0, []), (0, []), (1536, []), (3584, []), (0, []), (15872, []), (32256, []), (65532, []), (131068, []), (262140, []), (262140, []), (524287, []), (1572863, [])])]) Tryz.func16 rfl rfl rfl (by kernel_rfl) (by kernel_rfl) (by simp) fun c hc ht => ?_
    simp -implicitDefEqProofs (disch := omega) only [go_sem, ht]
    (refine pCall_vw (by refine ⟨⟨?_, ?_⟩, ?_, ?_⟩; rotate_left 2; (first | (right; rintro r rfl; rfl) | left); all_goals ((try simp -implicitDefEqProofs (disch := omega) only [go_sem, ht]) <;> rfl)) (hw) ?_; rintro _ nx - rfl hnx; simp -implicitDefEqProofs (disch := omega) only [go_sem, ht])
    (refine end_treeM 2 ?_; simp -implicitDefEqProofs (disch := omega) only [go_sem, ht, SF_def, FLc_nil])
  have hb' : wrongM m cn = false := by simpa using hb
  rw [hb'] at hw
  by_cases hrl : r.length = m.length
  · obtain ⟨n, rfl, hn, hml, hlc⟩ := wrongM_false hb'
    have hA := hA hrl
    have hac := aug_row hrl hlc
    have hac' : ∀ z ∈ (augL m r).map vals, z.length = n + 1 := fun z hz => by
      obtain ⟨l, hl, rfl⟩ := List.mem_map.1 hz
      rw [vals_len]; exact hac l hl
    have hec := hA.ech hac (by omega) (by rw [augL_len hrl]; omega)
    have hEW := (EW.all hac' (n + 1)).tle
    obtain ⟨hRE, hs1, hs2⟩ := echT_RE hA hac
    have hzz := hA.echZ hac
    rw [hb', Bool.false_or, if_neg (by simp [hrl]), Int.toNat_natCast]
    have hal := augL_len hrl
    rw [List.length_map, hal] at hEW
    rw [SM_def, hal] at hec
    generalize echT ((augL m r).map vals) (n + 1) = T at *
    generalize (echW ((augL m r).map vals) (n + 1)).2 = P at *
    have hTl := hRE.len
    have hT : ∀ k, k < P.length → (T.getD k []).length = n + 1 := fun k hk => hRE.row k (by omega)
    have hz : ∀ k, k < P.length → ∀ y ∈ T.getD k [], Z (B + 1) y := fun k hk y hy => hzz _ (getD_mem (by omega)) y hy
    have hPg : ∀ k (hk : k < P.length), P.getD k 0 = P[k] := fun k hk => by simp [hk]
    have hpc : ∀ k, k < P.length → vc (T.getD k []) (P.getD k 0) ≠ 0 := fun k hk => by
      rw [hPg k hk]
      have := hRE.pos k hk
      omega
    have hpn : ∀ k, k < P.length → P.getD k 0 ≤ n := fun k hk => by
      rw [hPg k hk]
      have := hRE.col _ (List.getElem_mem hk)
      omega
    have hxz := fun c => solL_zq (n := n) (K := B + 1) (by omega) (fun k hk => vc_z (hz k hk)) hpc c P.length (Nat.le_refl _)
    have hxl := solL_len (T := T) (P := P) (n := n) P.length
    have hm2 : ∀ l ∈ m, (∀ p ∈ l, Lm p.2) ∧ l.length = n := fun l hl => ⟨hm l hl, hlc l hl⟩
    clear hs1 hs2 hzz hac hA hRE hac' hPg
    refine PCalls.enter (n := 118) (rs := [.tmp 6, .tmp 7, .tmp 8]) (tb := [(7, [(0, []), (1, []), (2, []), (3, []), (5, []), (7, []), (8, []), (9, []), (10, []), (4, [0, 1, 5, 7, 8, 9, 10]), (6, [0, 1, 7, 8, 9, 10]), (11, [0, 1, 2, 3, 5]), (12, [0, 1]), (13, []), (14, [])]), (1000007, [(0, []), (0, []), (0, []), (4, []), (12, []), (0, []), (60, []), (0, []), (0, []), (384, []), (896, []), (1920, []), (4092, []), (8191, []), (16383, [])]), (21, [(0, []), (1, []), (2, []), (3, []), (4, []), (5, []), (6, []), (7, []), (8, []), (9, []), (10, []), (11, []), (12, []), (13, []), (14, []), (15, []), (16, [0, 1]), (17, []), (18, []), (19, []), (20, []), (21, [19])]), (1000021, [(0, []), (0, []), (0, []), (0, []), (12, []), (28, []), (0, []), (124, []), (252, []), (0, []), (0, []), (1536, []), (3584, []), (0, []), (15872, []), (32256, []), (65532, []), (131068, []), (262140, []), (262140, []), (524287, []), (1572863, [])])]) Tryz.func16 rfl rfl rfl (by kernel_rfl) (by kernel_rfl) (by simp) fun c hc ht => ?_
    simp -implicitDefEqProofs (disch := omega) only [go_sem, ht]
    (refine pCall_vw (by refine ⟨⟨?_, ?_⟩, ?_, ?_⟩; rotate_left 2; (first | (right; rintro r rfl; rfl) | left); all_goals ((try simp -implicitDefEqProofs (disch := omega) only [hrl, go_sem, ht]) <;> rfl)) (hw) ?_; rintro _ nx - rfl hnx; simp -implicitDefEqProofs (disch := omega) only [hrl, go_sem, ht])
    refine solve0 (m := m) (r := r) (n := n) (b := nx) hc ht hm2 hrl hml hn ⟨by simp -implicitDefEqProofs (disch := omega) only [go_sem, ht], by simp -implicitDefEqProofs (disch := omega) only [go_sem, ht], by simp -implicitDefEqProofs (disch := omega) only [go_sem, ht], by simp -implicitDefEqProofs (disch := omega) only [go_sem, ht], by simp -implicitDefEqProofs (disch := omega) only [go_sem, ht], by simp -implicitDefEqProofs (disch := omega) only [go_sem, ht], by first | omega | (simp -implicitDefEqProofs (disch := omega) only [go_sem, ht]; done) | (simp -implicitDefEqProofs (disch := omega) only [go_sem, ht]; omega), by simp -implicitDefEqProofs (disch := omega) only [go_sem, ht] <;> rfl, by simp -implicitDefEqProofs (disch := omega) only [go_sem, ht, upd_self, repl_one]⟩ ?_
    intro t h1 h9 hH hbn
    have hml2 : ((augL m r).map SW).length = m.length := by rw [List.length_map, hal]
    have htk : List.take m.length ((augL m r).map SW) = (augL m r).map SW := List.take_of_length_le (by omega)
    have hle : m.length ≤ ((augL m r).map SW).length := by omega
    have hfl := frzL_flat (fun _ => true) t.H 0 (SM_flat (augL m r))
    have hle2 : m.length ≤ (augL m r).length := by omega
    have hfl0 := SM_flat (augL m r)
    simp -implicitDefEqProofs (disch := omega) only [go_sem, ht, h1, h9]
    (refine pCall_frz (fun _ => true) 1 (by simp -implicitDefEqProofs (disch := omega) only [hH, htk, hle, hfl, hle2, hfl0, go_sem, ht] <;> rfl) (by simp -implicitDefEqProofs (disch := omega) only [hH, htk, hle, hfl, hle2, hfl0, go_sem, ht]) (by simp -implicitDefEqProofs (disch := omega) only [hH, htk, hle, hfl, hle2, hfl0, go_sem, ht] <;> rfl) (by simp -implicitDefEqProofs (disch := omega) only [hH, htk, hle, hfl, hle2, hfl0, go_sem, ht]) (hec) ?_; rintro _ nx - rfl hnx; (try simp only [put_nx, withH_nx, begP_nx] at hnx); simp -implicitDefEqProofs (disch := omega) only [hH, htk, hle, hfl, hle2, hfl0, go_sem, ht])
    simp -implicitDefEqProofs (disch := omega) only [go_sem, ht, h1, h9]
    have hrl3 : (repl n [PV.val (.bool false), PV.val (.slice none 0 0), PV.val (.slice none 0 0)]).length = n * 3 := by unfold repl; simp
    obtain ⟨b, eb⟩ : ∃ b, nx = b := ⟨_, rfl⟩
    rw [eb]
    refine solve1 (n := n) (b := b) (e := .sl T.length ((T.map CZ).map SW)) (p := .sl P.length (P.map Ref.I)) hc ht hn ⟨by simp -implicitDefEqProofs (disch := omega) only [go_sem, ht, h1], by simp -implicitDefEqProofs (disch := omega) only [go_sem, ht] <;> rfl, by simp -implicitDefEqProofs (disch := omega) only [go_sem, ht] <;> rfl, by simp -implicitDefEqProofs (disch := omega) only [go_sem, ht], by simp -implicitDefEqProofs (disch := omega) only [go_sem, ht], by simp -implicitDefEqProofs (disch := omega) only [go_sem, ht] <;> rfl, by first | omega | (simp -implicitDefEqProofs (disch := omega) only [go_sem, ht]; done) | (simp -implicitDefEqProofs (disch := omega) only [go_sem, ht]; omega), ⟨_, by simp -implicitDefEqProofs (disch := omega) only [go_sem, ht, upd_self] <;> rfl, hrl3⟩⟩ ?_
    intro t2 g1 g12 g13 g14 gH gb
    simp -implicitDefEqProofs (disch := omega) only [go_sem, ht, g1, g12, g13, g14]
    refine solve2 (n := n) (b := b) (K := B + 1) (T := T) (P := P) hc ht hn (by omega) hTl hT hz (by omega) (by omega) hpc hpn ⟨by simp -implicitDefEqProofs (disch := omega) only [go_sem, ht, g1], by simp -implicitDefEqProofs (disch := omega) only [go_sem, ht, g12], by simp -implicitDefEqProofs (disch := omega) only [go_sem, ht, g14], by simp -implicitDefEqProofs (disch := omega) only [go_sem, ht, g13], by simp -implicitDefEqProofs (disch := omega) only [go_sem, ht] <;> simp, by simp -implicitDefEqProofs (disch := omega) only [go_sem, ht] <;> rfl, by simp -implicitDefEqProofs (disch := omega) only [go_sem, ht]; exact gb, gH⟩ ?_ ?_
    · intro hm t3 u6 u7 u8
      rw [if_pos hm]
      (refine end_treeM 2 ?_; simp -implicitDefEqProofs (disch := omega) only [go_sem, ht, u6, u7, u8, SF_def, FLc_nil])
    · intro hm t3 u14 uH ub
      rw [if_neg hm]
      simp -implicitDefEqProofs (disch := omega) only [go_sem, ht, u14]
      refine solve3 (n := n) (b := b) (K := B + 1) (x := solL T P n P.length) hc ht hn hxl (fun c _ => hxz c) (by omega) (by omega) ⟨by simp -implicitDefEqProofs (disch := omega) only [go_sem, ht, u14], by simp -implicitDefEqProofs (disch := omega) only [go_sem, ht], by simp -implicitDefEqProofs (disch := omega) only [go_sem, ht], by simp -implicitDefEqProofs (disch := omega) only [go_sem, ht] <;> rfl, by simp -implicitDefEqProofs (disch := omega) only [go_sem, ht]; exact ub, uH⟩ ?_ ?_
      · intro hx t4 u6 u7 u8
        rw [if_pos hx]
        (refine end_treeM 2 ?_; simp -implicitDefEqProofs (disch := omega) only [go_sem, ht, u6, u7, u8, SF_def, FLc_nil])
      · intro hx t4 v14 vH vb
        rw [if_neg (by rintro ⟨c, h1, h2⟩; exact hx c h1 h2)]
        generalize solL T P n P.length = x at *
        have hfl := frzL_flat (fun _ => true) t4.H 0 (FLc_flat x)
        have hfl0 := FLc_flat x
        have hlx := FLc_len x
        have htk : List.take (n * 3) (FLc x) = FLc x := List.take_of_length_le (by rw [hlx, hxl]; omega)
        have hle : n * 3 ≤ (FLc x).length := by rw [hlx, hxl]; omega
        simp -implicitDefEqProofs (disch := omega) only [go_sem, ht, v14]
        (refine end_treeM 2 ?_; simp -implicitDefEqProofs (disch := omega) only [go_sem, ht, v14, vH, htk, hle, hfl, hfl0, SF_def, hxl])
  · rw [if_pos (by simp [hrl])]
    refine PCalls.enter (n := 118) (rs := [.tmp 6, .tmp 7, .tmp 8]) (tb := [(7, [(0, []), (1, []), (2, []), (3, []), (5, []), (7, []), (8, []), (9, []), (10, []), (4, [0, 1, 5, 7, 8, 9, 10]), (6, [0, 1, 7, 8, 9, 10]), (11, [0, 1, 2, 3, 5]), (12, [0, 1]), (13, []), (14, [])]), (1000007, [(0, []), (0, []), (0, []), (4, []), (12, []), (0, []), (60, []), (0, []), (0, []), (384, []), (896, []), (1920, []), (4092, []), (8191, []), (16383, [])]), (21, [(0, []), (1, []), (2, []), (3, []), (4, []), (5, []), (6, []), (7, []), (8, []), (9, []), (10, []), (11, []), (12, []), (13, []), (14, []), (15, []), (16, [0, 1]), (17, []), (18, []), (19, []), (20, []), (21, [19])]), (1000021, [(0, []), (0, []), (0, []), (0, []), (12, []), (28, []), (0, []), (124, []), (252, []), (0, []), (0, []), (1536, []), (3584, []), (0, []), (15872, []), (32256, []), (65532, []), (131068, []), (262140, []), (262140, []), (524287, []), (1572863, [])])]) Tryz.func16 rfl rfl rfl (by kernel_rfl) (by kernel_rfl) (by simp) fun c hc ht => ?_
    simp -implicitDefEqProofs (disch := omega) only [go_sem, ht]
    (refine pCall_vw (by refine ⟨⟨?_, ?_⟩, ?_, ?_⟩; rotate_left 2; (first | (right; rintro r rfl; rfl) | left); all_goals ((try simp -implicitDefEqProofs (disch := omega) only [hrl, go_sem, ht]) <;> rfl)) (hw) ?_; rintro _ nx - rfl hnx; simp -implicitDefEqProofs (disch := omega) only [hrl, go_sem, ht])
    (refine end_treeM 2 ?_; simp -implicitDefEqProofs (disch := omega) only [go_sem, ht, SF_def, FLc_nil])
end
end Go.Proofs.YtfjdfnlkobeehaaGreat
end
