/- The document's answers on fractions: layer 3. -/
import Derived.Test.YtgebemjmckgomaaRefH
import Derived.Test.YtgebemjmckgomaaRatio5
set_option maxRecDepth 100000
set_option linter.unusedVariables false
set_option linter.unusedSimpArgs false
namespace Go.Proofs.Ytgebemjmckgomaa.Ref

/-- A fraction of the document: above and below. -/
def QZ (p : Int) (d : Nat) : PV := .agg [.val (.bool (decide (p < 0))), .sl (D p.natAbs).length ((D p.natAbs).map I), .val (.bool false), .sl (D d).length ((D d).map I)]
theorem QZ_def (p : Int) (d : Nat) : QZ p d = .agg [.val (.bool (decide (p < 0))), .sl (D p.natAbs).length ((D p.natAbs).map I), .val (.bool false), .sl (D d).length ((D d).map I)] := rfl
attribute [go_sem] QZ_def
section
variable {α : Type} (a b c d w x y z : α)
theorem spl_404 : spl [a, b, c, d] 0 [w, x, y, z] = [w, x, y, z] := rfl
theorem spl_402 : spl [a, b, c, d] 0 [x, y] = [x, y, c, d] := rfl
theorem spl_422 : spl [a, b, c, d] 2 [x, y] = [a, b, x, y] := rfl
theorem take_44 : [a, b, c, d].take 4 = [a, b, c, d] := rfl
theorem take_42 : [a, b, c, d].take 2 = [a, b] := rfl
theorem drop_42 : [a, b, c, d].drop 2 = [c, d] := rfl
end
attribute [go_sem] spl_404 spl_402 spl_422 take_44 take_42 drop_42
theorem NZ_nat_def (n : Nat) : NZ (n : Int) = .agg [.val (.bool false), .sl (D n).length ((D n).map I)] := by
  rw [← NZ_nat, NP_def]
section
variable {b d : Bool} {xs ys ds es : List Nat} {x y : Int} {k m g : Nat} {q p : Rat}

theorem over_z (hx : Z k x) (hg : g < 4294967296 ^ k) (hk : k ≤ 100000) (h0 : g ≠ 0) : PT Try.prog 110 [NZ x, NZ g] (isV (NZ (sg (decide (x < 0)) (x.natAbs / g)))) := by
  have zg : Z k (g : Int) := hg
  have hd := divided_z (a := x) (b := (g : Int)) (okZ hx (by omega)) (okZ zg (by omega)) (by omega) (by have := lenZ zg; omega)
  rw [show ((g : Nat) : Int).natAbs = g from rfl] at hd
  have zq : Z k ((x.natAbs / g : Nat) : Int) := Nat.lt_of_le_of_lt (Nat.div_le_self _ _) hx
  have hm := minus_z (okZ zq (by omega))
  by_cases hs : x < 0
  · rw [decide_eq_true hs, sg_t]
    generalize -((x.natAbs / g : Nat) : Int) = q2 at *
    generalize ((x.natAbs / g : Nat) : Int) = q1 at *
    rw [NZ_nat_def] at hd ⊢
    rw [NZ_def x, decide_eq_true hs] at hd ⊢
    refine PCalls.enter (n := 21) (rs := [.cell 4 75]) (tb := []) Try.func110 rfl rfl rfl (by kernel_rfl) (by kernel_rfl) (by simp) fun c hc ht => ?_
    simp -implicitDefEqProofs (disch := omega) only [go_sem, ht, eq_self]
    ((refine pCall_view (by simp -implicitDefEqProofs (disch := omega) only [go_sem, ht, eq_self] <;> rfl) (by simp -implicitDefEqProofs (disch := omega) only [go_sem, ht, eq_self]) (by first | (apply Or.inl; simp -implicitDefEqProofs (disch := omega) only [go_sem, ht, eq_self]; done) | (apply Or.inr; rintro r rfl; rfl)) (hd) ?_; rintro _ nx_1 - rfl hnx_1; (try simp only [put_nx, withH_nx, begP_nx] at hnx_1); simp -implicitDefEqProofs (disch := omega) only [go_sem, ht, eq_self]); (refine pCall_view (by simp -implicitDefEqProofs (disch := omega) only [go_sem, ht, eq_self] <;> rfl) (by simp -implicitDefEqProofs (disch := omega) only [go_sem, ht, eq_self]) (by first | (apply Or.inl; simp -implicitDefEqProofs (disch := omega) only [go_sem, ht, eq_self]; done) | (apply Or.inr; rintro r rfl; rfl)) (hm) ?_; rintro _ nx_2 - rfl hnx_2; (try simp only [put_nx, withH_nx, begP_nx] at hnx_2); simp -implicitDefEqProofs (disch := omega) only [go_sem, ht, eq_self]))
    (refine end_treeM 2 ?_; simp -implicitDefEqProofs (disch := omega) only [go_sem, ht, eq_self])
  · rw [decide_eq_false hs, sg_f]
    generalize ((x.natAbs / g : Nat) : Int) = q1 at *
    rw [NZ_nat_def] at hd ⊢
    rw [NZ_def x, decide_eq_false hs] at hd ⊢
    refine PCalls.enter (n := 21) (rs := [.cell 4 75]) (tb := []) Try.func110 rfl rfl rfl (by kernel_rfl) (by kernel_rfl) (by simp) fun c hc ht => ?_
    simp -implicitDefEqProofs (disch := omega) only [go_sem, ht, eq_self]
    ((refine pCall_view (by simp -implicitDefEqProofs (disch := omega) only [go_sem, ht, eq_self] <;> rfl) (by simp -implicitDefEqProofs (disch := omega) only [go_sem, ht, eq_self]) (by first | (apply Or.inl; simp -implicitDefEqProofs (disch := omega) only [go_sem, ht, eq_self]; done) | (apply Or.inr; rintro r rfl; rfl)) (hd) ?_; rintro _ nx_3 - rfl hnx_3; (try simp only [put_nx, withH_nx, begP_nx] at hnx_3); simp -implicitDefEqProofs (disch := omega) only [go_sem, ht, eq_self]))
    (refine end_treeM 2 ?_; simp -implicitDefEqProofs (disch := omega) only [go_sem, ht, eq_self])

/-- Make, where it is below 0 or not. -/
theorem make_pos (hx : Z k x) (hg : g < 4294967296 ^ k) (hk : k ≤ 100000) (h0 : g ≠ 0) :
    ((mkRat x g).num = sg (decide (x < 0)) (x.natAbs / Nat.gcd x.natAbs g)) ∧ (mkRat x g).den = g / Nat.gcd x.natAbs g := by
  have e0 : sg (decide (x < 0)) x.natAbs = x := sg_WV
  have hgc : Nat.gcd x.natAbs g ≠ 0 := Nat.pos_iff_ne_zero.1 (Nat.gcd_pos_of_pos_right _ (Nat.pos_of_ne_zero h0))
  have hdv : g / Nat.gcd x.natAbs g ≠ 0 := Nat.pos_iff_ne_zero.1 (Nat.div_pos (Nat.le_of_dvd (Nat.pos_of_ne_zero h0) (Nat.gcd_dvd_right _ _)) (Nat.pos_of_ne_zero hgc))
  by_cases hx0 : x = 0
  · subst hx0
    rw [Rat.zero_mkRat]
    simp only [Int.natAbs_zero, Nat.gcd_zero_left, Nat.zero_div]
    exact ⟨rfl, (Nat.div_self (Nat.pos_of_ne_zero h0)).symm⟩
  have hs := rat_step (b := decide (x < 0)) (m := x.natAbs) (by omega) h0
  rw [e0] at hs
  rw [← hs]
  exact rat_end hdv (Nat.gcd_div_gcd_div_gcd_of_pos_left (Nat.pos_of_ne_zero (by omega)))
theorem make_z (hx : Z k x) (hy : Z k y) (hk : k ≤ 100000) (h0 : y ≠ 0) : PT Try.prog 70 [NZ x, NZ y] (isV (QZ (Rat.divInt x y).num (Rat.divInt x y).den)) := by
  obtain ⟨x', ex⟩ : ∃ x', (if y < 0 then -x else x) = x' := ⟨_, rfl⟩
  have hx' : Z k x' := by rw [← ex]; split; exact hx.neg; exact hx
  have hg : y.natAbs < 4294967296 ^ k := hy
  have hd0 : y.natAbs ≠ 0 := by omega
  obtain ⟨e1, e2⟩ := make_pos hx' hg hk hd0
  rw [← rat_over h0, ex, e1, e2]
  have hgc : Nat.gcd x'.natAbs y.natAbs ≠ 0 := Nat.pos_iff_ne_zero.1 (Nat.gcd_pos_of_pos_right _ (Nat.pos_of_ne_zero hd0))
  have hgl : Nat.gcd x'.natAbs y.natAbs < 4294967296 ^ k := Nat.lt_of_le_of_lt (Nat.le_of_dvd (Nat.pos_of_ne_zero hd0) (Nat.gcd_dvd_right _ _)) hg
  have zn : Z k (y.natAbs : Int) := hg
  have hgz := gcd_z hx' zn hk
  rw [show Int.gcd x' (y.natAbs : Int) = Nat.gcd x'.natAbs y.natAbs from rfl] at hgz
  have ho1 := over_z hx' hgl hk hgc
  have ho2 := over_z zn hgl hk hgc
  rw [show decide (((y.natAbs : Nat) : Int) < 0) = false from decide_eq_false (by omega), sg_f, show ((y.natAbs : Nat) : Int).natAbs = y.natAbs from rfl] at ho2
  generalize Nat.gcd x'.natAbs y.natAbs = gg at *
  generalize sg (decide (x' < 0)) (x'.natAbs / gg) = nn at *
  generalize y.natAbs / gg = dd at *
  by_cases hs : y < 0
  · rw [if_pos hs] at ex
    have hm1 := minus_z (okZ hx (by omega))
    have hm2 := minus_z (okZ hy (by omega))
    rw [ex] at hm1
    rw [show -y = (y.natAbs : Int) by omega] at hm2
    generalize y.natAbs = ya at *
    rw [NZ_nat_def] at hm2 hgz ho2
    rw [NZ_nat_def gg] at ho1 ho2
    rw [NZ_nat_def dd] at ho2
    rw [NZ_def y, decide_eq_true hs] at hm2 ⊢
    refine PCalls.enter (n := 22) (rs := [.cell 4 80]) (tb := [(5, [(0, []), (1, []), (3, []), (4, []), (2, [3, 4]), (5, []), (6, []), (7, [])])]) Try.func70 rfl rfl rfl (by kernel_rfl) (by kernel_rfl) (by simp) fun c hc ht => ?_
    simp -implicitDefEqProofs (disch := omega) only [go_sem, ht, eq_self]
    ((refine pCall_view (by simp -implicitDefEqProofs (disch := omega) only [go_sem, ht, eq_self] <;> rfl) (by simp -implicitDefEqProofs (disch := omega) only [go_sem, ht, eq_self]) (by first | (apply Or.inl; simp -implicitDefEqProofs (disch := omega) only [go_sem, ht, eq_self]; done) | (apply Or.inr; rintro r rfl; rfl)) (hm1) ?_; rintro _ nx_4 - rfl hnx_4; (try simp only [put_nx, withH_nx, begP_nx] at hnx_4); simp -implicitDefEqProofs (disch := omega) only [go_sem, ht, eq_self]); (refine pCall_view (by simp -implicitDefEqProofs (disch := omega) only [go_sem, ht, eq_self] <;> rfl) (by simp -implicitDefEqProofs (disch := omega) only [go_sem, ht, eq_self]) (by first | (apply Or.inl; simp -implicitDefEqProofs (disch := omega) only [go_sem, ht, eq_self]; done) | (apply Or.inr; rintro r rfl; rfl)) (hm2) ?_; rintro _ nx_5 - rfl hnx_5; (try simp only [put_nx, withH_nx, begP_nx] at hnx_5); simp -implicitDefEqProofs (disch := omega) only [go_sem, ht, eq_self]); (refine pCall_view (by simp -implicitDefEqProofs (disch := omega) only [go_sem, ht, eq_self] <;> rfl) (by simp -implicitDefEqProofs (disch := omega) only [go_sem, ht, eq_self]) (by first | (apply Or.inl; simp -implicitDefEqProofs (disch := omega) only [go_sem, ht, eq_self]; done) | (apply Or.inr; rintro r rfl; rfl)) (hgz) ?_; rintro _ nx_6 - rfl hnx_6; (try simp only [put_nx, withH_nx, begP_nx] at hnx_6); simp -implicitDefEqProofs (disch := omega) only [go_sem, ht, eq_self]); (refine pCall_view (by simp -implicitDefEqProofs (disch := omega) only [go_sem, ht, eq_self] <;> rfl) (by simp -implicitDefEqProofs (disch := omega) only [go_sem, ht, eq_self]) (by first | (apply Or.inl; simp -implicitDefEqProofs (disch := omega) only [go_sem, ht, eq_self]; done) | (apply Or.inr; rintro r rfl; rfl)) (ho1) ?_; rintro _ nx_7 - rfl hnx_7; (try simp only [put_nx, withH_nx, begP_nx] at hnx_7); simp -implicitDefEqProofs (disch := omega) only [go_sem, ht, eq_self]); (refine pCall_view (by simp -implicitDefEqProofs (disch := omega) only [go_sem, ht, eq_self] <;> rfl) (by simp -implicitDefEqProofs (disch := omega) only [go_sem, ht, eq_self]) (by first | (apply Or.inl; simp -implicitDefEqProofs (disch := omega) only [go_sem, ht, eq_self]; done) | (apply Or.inr; rintro r rfl; rfl)) (ho2) ?_; rintro _ nx_8 - rfl hnx_8; (try simp only [put_nx, withH_nx, begP_nx] at hnx_8); simp -implicitDefEqProofs (disch := omega) only [go_sem, ht, eq_self]))
    (refine end_treeM 2 ?_; simp -implicitDefEqProofs (disch := omega) only [go_sem, ht, eq_self])
  · rw [if_neg hs] at ex
    subst ex
    rw [NZ_nat_def] at hgz ho2
    rw [NZ_nat_def gg] at ho1 hgz ho2
    rw [NZ_nat_def dd] at ho2
    rw [NZ_def y, decide_eq_false hs]
    refine PCalls.enter (n := 22) (rs := [.cell 4 80]) (tb := [(5, [(0, []), (1, []), (3, []), (4, []), (2, [3, 4]), (5, []), (6, []), (7, [])])]) Try.func70 rfl rfl rfl (by kernel_rfl) (by kernel_rfl) (by simp) fun c hc ht => ?_
    simp -implicitDefEqProofs (disch := omega) only [go_sem, ht, eq_self]
    ((refine pCall_view (by simp -implicitDefEqProofs (disch := omega) only [go_sem, ht, eq_self] <;> rfl) (by simp -implicitDefEqProofs (disch := omega) only [go_sem, ht, eq_self]) (by first | (apply Or.inl; simp -implicitDefEqProofs (disch := omega) only [go_sem, ht, eq_self]; done) | (apply Or.inr; rintro r rfl; rfl)) (hgz) ?_; rintro _ nx_9 - rfl hnx_9; (try simp only [put_nx, withH_nx, begP_nx] at hnx_9); simp -implicitDefEqProofs (disch := omega) only [go_sem, ht, eq_self]); (refine pCall_view (by simp -implicitDefEqProofs (disch := omega) only [go_sem, ht, eq_self] <;> rfl) (by simp -implicitDefEqProofs (disch := omega) only [go_sem, ht, eq_self]) (by first | (apply Or.inl; simp -implicitDefEqProofs (disch := omega) only [go_sem, ht, eq_self]; done) | (apply Or.inr; rintro r rfl; rfl)) (ho1) ?_; rintro _ nx_10 - rfl hnx_10; (try simp only [put_nx, withH_nx, begP_nx] at hnx_10); simp -implicitDefEqProofs (disch := omega) only [go_sem, ht, eq_self]); (refine pCall_view (by simp -implicitDefEqProofs (disch := omega) only [go_sem, ht, eq_self] <;> rfl) (by simp -implicitDefEqProofs (disch := omega) only [go_sem, ht, eq_self]) (by first | (apply Or.inl; simp -implicitDefEqProofs (disch := omega) only [go_sem, ht, eq_self]; done) | (apply Or.inr; rintro r rfl; rfl)) (ho2) ?_; rintro _ nx_11 - rfl hnx_11; (try simp only [put_nx, withH_nx, begP_nx] at hnx_11); simp -implicitDefEqProofs (disch := omega) only [go_sem, ht, eq_self]))
    (refine end_treeM 2 ?_; simp -implicitDefEqProofs (disch := omega) only [go_sem, ht, eq_self])
end
end Go.Proofs.Ytgebemjmckgomaa.Ref

namespace Go.Proofs.Ytgebemjmckgomaa.Ref

section
variable {b d : Bool} {xs ys ds es : List Nat} {x y : Int} {k m g : Nat} {q p : Rat}
theorem told_q {z : Int} {e : Nat} (hz : Z k z) (he : e < 4294967296 ^ k) (hk : k ≤ 1000000) : PT Try.prog 69 [QZ z e] (isV (FX (decide (z < 0)) (Ytgebemjmckgomaa.D z.natAbs) (Ytgebemjmckgomaa.D e))) := by
  have h1 := told_z hz hk
  have ze : Z k (e : Int) := he
  have h2 := limbs_calls (n := e) (neg := false) (okZ ze hk) (by have := Z.len ze; rw [show ((e : Nat) : Int).natAbs = e from rfl] at this; omega)
  rw [NP_def] at h2
  rw [FX_def]
  refine PCalls.enter (n := 10) (rs := [.cell 2 28]) (tb := [(1, [(0, []), (1, []), (3, []), (4, []), (2, [3, 4]), (5, []), (6, []), (7, [])])]) Try.func69 rfl rfl rfl (by kernel_rfl) (by kernel_rfl) (by simp) fun c hc ht => ?_
  simp -implicitDefEqProofs (disch := omega) only [go_sem, ht, eq_self]
  ((refine pCall_view (by simp -implicitDefEqProofs (disch := omega) only [go_sem, ht, eq_self] <;> rfl) (by simp -implicitDefEqProofs (disch := omega) only [go_sem, ht, eq_self]) (by first | (apply Or.inl; simp -implicitDefEqProofs (disch := omega) only [go_sem, ht, eq_self]; done) | (apply Or.inr; rintro r rfl; rfl)) (h1) ?_; rintro _ nx_12 - rfl hnx_12; (try simp only [put_nx, withH_nx, begP_nx] at hnx_12); simp -implicitDefEqProofs (disch := omega) only [go_sem, ht, eq_self]); (refine pCall_view (by simp -implicitDefEqProofs (disch := omega) only [go_sem, ht, eq_self] <;> rfl) (by simp -implicitDefEqProofs (disch := omega) only [go_sem, ht, eq_self]) (by first | (apply Or.inl; simp -implicitDefEqProofs (disch := omega) only [go_sem, ht, eq_self]; done) | (apply Or.inr; rintro r rfl; rfl)) (h2) ?_; rintro _ nx_13 - rfl hnx_13; (try simp only [put_nx, withH_nx, begP_nx] at hnx_13); simp -implicitDefEqProofs (disch := omega) only [go_sem, ht, eq_self]))
  (refine end_treeM 2 ?_; simp -implicitDefEqProofs (disch := omega) only [go_sem, ht, eq_self])
theorem told_f (h : Zq k q) (hk : k ≤ 1000000) : PT Try.prog 69 [QZ q.num q.den] (isV (FC q)) := told_q h.num h.den hk
theorem zero_q : PT Try.prog 117 [] (isV (QZ 0 1)) := by
  have h1 := int_z (v := 1) (by omega) (by omega)
  rw [show ((1 : Int)) = ((1 : Nat) : Int) from rfl, NZ_nat_def] at h1
  rw [QZ_def, show (0 : Int).natAbs = 0 from rfl, D_zero]
  refine PCalls.enter (n := 4) (rs := [.cell 0 80]) (tb := []) Try.func117 rfl rfl rfl (by kernel_rfl) (by kernel_rfl) (by simp) fun c hc ht => ?_
  simp -implicitDefEqProofs (disch := omega) only [go_sem, ht, eq_self]
  ((refine pCall_view (by simp -implicitDefEqProofs (disch := omega) only [go_sem, ht, eq_self] <;> rfl) (by simp -implicitDefEqProofs (disch := omega) only [go_sem, ht, eq_self]) (by first | (apply Or.inl; simp -implicitDefEqProofs (disch := omega) only [go_sem, ht, eq_self]; done) | (apply Or.inr; rintro r rfl; rfl)) (h1) ?_; rintro _ nx_14 - rfl hnx_14; (try simp only [put_nx, withH_nx, begP_nx] at hnx_14); simp -implicitDefEqProofs (disch := omega) only [go_sem, ht, eq_self]))
  (refine end_treeM 2 ?_; simp -implicitDefEqProofs (disch := omega) only [go_sem, ht, eq_self])
theorem read_q (h : Fn b xs ds q k) (hk : k ≤ 100000) : PT Try.prog 85 [FX b xs ds] (isV (QZ q.num q.den)) := by
  have l1 := h.od.len
  have h1 := from_calls h.od.ok.lm (by omega)
  rw [NZ_nat] at h1
  have zd : Z k (Ytgebemjmckgomaa.V ds : Int) := h.od.z
  have h2 := sign_z (okZ zd (by omega))
  have h3 := ofW h.ox
  have hz := zero_q
  rw [← h.val, FV]
  by_cases h0 : Ytgebemjmckgomaa.V ds = 0
  · rw [h0, show ((0 : Nat) : Int) = 0 from rfl] at h1 h2
    rw [cZ_eq rfl] at h2
    rw [h0, Rat.mkRat_zero]
    rw [show (0 : Rat).num = 0 from rfl, show (0 : Rat).den = 1 from rfl]
    refine PCalls.enter (n := 16) (rs := [.cell 2 80]) (tb := [(4, [(0, []), (1, []), (3, []), (2, [3]), (4, []), (5, [])])]) Try.func85 rfl rfl rfl (by kernel_rfl) (by kernel_rfl) (by simp) fun c hc ht => ?_
    simp -implicitDefEqProofs (disch := omega) only [go_sem, ht, eq_self]
    ((refine pCall_view (by simp -implicitDefEqProofs (disch := omega) only [go_sem, ht, eq_self] <;> rfl) (by simp -implicitDefEqProofs (disch := omega) only [go_sem, ht, eq_self]) (by first | (apply Or.inl; simp -implicitDefEqProofs (disch := omega) only [go_sem, ht, eq_self]; done) | (apply Or.inr; rintro r rfl; rfl)) (h1) ?_; rintro _ nx_15 - rfl hnx_15; (try simp only [put_nx, withH_nx, begP_nx] at hnx_15); simp -implicitDefEqProofs (disch := omega) only [go_sem, ht, eq_self]); (refine pCall_view (by simp -implicitDefEqProofs (disch := omega) only [go_sem, ht, eq_self] <;> rfl) (by simp -implicitDefEqProofs (disch := omega) only [go_sem, ht, eq_self]) (by first | (apply Or.inl; simp -implicitDefEqProofs (disch := omega) only [go_sem, ht, eq_self]; done) | (apply Or.inr; rintro r rfl; rfl)) (h2) ?_; rintro _ nx_16 - rfl hnx_16; (try simp only [put_nx, withH_nx, begP_nx] at hnx_16); simp -implicitDefEqProofs (disch := omega) only [go_sem, ht, eq_self]); (refine pCall_view (by simp -implicitDefEqProofs (disch := omega) only [go_sem, ht, eq_self] <;> rfl) (by simp -implicitDefEqProofs (disch := omega) only [go_sem, ht, eq_self]) (by first | (apply Or.inl; simp -implicitDefEqProofs (disch := omega) only [go_sem, ht, eq_self]; done) | (apply Or.inr; rintro r rfl; rfl)) (hz) ?_; rintro _ nx_17 - rfl hnx_17; (try simp only [put_nx, withH_nx, begP_nx] at hnx_17); simp -implicitDefEqProofs (disch := omega) only [go_sem, ht, eq_self]))
    (refine end_treeM 2 ?_; simp -implicitDefEqProofs (disch := omega) only [go_sem, ht, eq_self])
  · have h4 := make_z h.ox.z zd hk (by omega)
    rw [Rat.divInt_ofNat] at h4
    have hc : cZ (Ytgebemjmckgomaa.V ds : Int) 0 ≠ 0 := by unfold cZ; split <;> (try split) <;> omega
    generalize mkRat (WV b xs) (Ytgebemjmckgomaa.V ds) = r at *
    generalize WV b xs = w at *
    generalize cZ (Ytgebemjmckgomaa.V ds : Int) 0 = kc at *
    rw [NZ_nat_def] at h1 h2 h4
    generalize Ytgebemjmckgomaa.V ds = e at *
    refine PCalls.enter (n := 16) (rs := [.cell 2 80]) (tb := [(4, [(0, []), (1, []), (3, []), (2, [3]), (4, []), (5, [])])]) Try.func85 rfl rfl rfl (by kernel_rfl) (by kernel_rfl) (by simp) fun c hc ht => ?_
    simp -implicitDefEqProofs (disch := omega) only [go_sem, ht, eq_self]
    ((refine pCall_view (by simp -implicitDefEqProofs (disch := omega) only [go_sem, ht, eq_self] <;> rfl) (by simp -implicitDefEqProofs (disch := omega) only [go_sem, ht, eq_self]) (by first | (apply Or.inl; simp -implicitDefEqProofs (disch := omega) only [go_sem, ht, eq_self]; done) | (apply Or.inr; rintro r rfl; rfl)) (h1) ?_; rintro _ nx_18 - rfl hnx_18; (try simp only [put_nx, withH_nx, begP_nx] at hnx_18); simp -implicitDefEqProofs (disch := omega) only [go_sem, ht, eq_self]); (refine pCall_view (by simp -implicitDefEqProofs (disch := omega) only [go_sem, ht, eq_self] <;> rfl) (by simp -implicitDefEqProofs (disch := omega) only [go_sem, ht, eq_self]) (by first | (apply Or.inl; simp -implicitDefEqProofs (disch := omega) only [go_sem, ht, eq_self]; done) | (apply Or.inr; rintro r rfl; rfl)) (h2) ?_; rintro _ nx_19 - rfl hnx_19; (try simp only [put_nx, withH_nx, begP_nx] at hnx_19); simp -implicitDefEqProofs (disch := omega) only [go_sem, ht, eq_self]); (refine pCall_view (by simp -implicitDefEqProofs (disch := omega) only [go_sem, ht, eq_self] <;> rfl) (by simp -implicitDefEqProofs (disch := omega) only [go_sem, ht, eq_self]) (by first | (apply Or.inl; simp -implicitDefEqProofs (disch := omega) only [go_sem, ht, eq_self]; done) | (apply Or.inr; rintro r rfl; rfl)) (h3) ?_; rintro _ nx_20 - rfl hnx_20; (try simp only [put_nx, withH_nx, begP_nx] at hnx_20); simp -implicitDefEqProofs (disch := omega) only [go_sem, ht, eq_self]); (refine pCall_view (by simp -implicitDefEqProofs (disch := omega) only [go_sem, ht, eq_self] <;> rfl) (by simp -implicitDefEqProofs (disch := omega) only [go_sem, ht, eq_self]) (by first | (apply Or.inl; simp -implicitDefEqProofs (disch := omega) only [go_sem, ht, eq_self]; done) | (apply Or.inr; rintro r rfl; rfl)) (h4) ?_; rintro _ nx_21 - rfl hnx_21; (try simp only [put_nx, withH_nx, begP_nx] at hnx_21); simp -implicitDefEqProofs (disch := omega) only [go_sem, ht, eq_self]))
    (refine end_treeM 2 ?_; simp -implicitDefEqProofs (disch := omega) only [go_sem, ht, eq_self])
theorem minus_q (h : Zq k q) (hk : k ≤ 1000000) : PT Try.prog 90 [QZ q.num q.den] (isV (QZ (-q).num (-q).den)) := by
  have h1 := minus_z (okZ h.num hk)
  rw [Rat.neg_num, Rat.neg_den]
  generalize -q.num = n at *
  refine PCalls.enter (n := 9) (rs := [.cell 2 80]) (tb := [(1, [(0, []), (1, []), (3, []), (4, []), (2, [3, 4]), (5, []), (6, [])])]) Try.func90 rfl rfl rfl (by kernel_rfl) (by kernel_rfl) (by simp) fun c hc ht => ?_
  simp -implicitDefEqProofs (disch := omega) only [go_sem, ht, eq_self]
  ((refine pCall_view (by simp -implicitDefEqProofs (disch := omega) only [go_sem, ht, eq_self] <;> rfl) (by simp -implicitDefEqProofs (disch := omega) only [go_sem, ht, eq_self]) (by first | (apply Or.inl; simp -implicitDefEqProofs (disch := omega) only [go_sem, ht, eq_self]; done) | (apply Or.inr; rintro r rfl; rfl)) (h1) ?_; rintro _ nx_22 - rfl hnx_22; (try simp only [put_nx, withH_nx, begP_nx] at hnx_22); simp -implicitDefEqProofs (disch := omega) only [go_sem, ht, eq_self]))
  (refine end_treeM 2 ?_; simp -implicitDefEqProofs (disch := omega) only [go_sem, ht, eq_self])
theorem lenD {n : Nat} (h : n < 4294967296 ^ k) : (D n).length ≤ 3 * k := lenZ (z := (n : Int)) h
theorem mul_zn (hx : Z k x) {n : Nat} (hn : n < 4294967296 ^ k) (hk : k ≤ 100000) : PT Try.prog 92 [NZ x, NZ n] (isV (NZ (x * n))) := by
  have zn : Z k (n : Int) := hn
  exact nmul_z (okZ hx (by omega)) (okZ zn (by omega)) (by have := lenZ hx; have := lenZ zn; omega)
theorem mul_nn {m n : Nat} (hm : m < 4294967296 ^ k) (hn : n < 4294967296 ^ k) (hk : k ≤ 100000) : PT Try.prog 92 [NZ m, NZ n] (isV (NZ (m * n : Nat))) := by
  have := mul_zn (x := (m : Int)) hm hn hk
  rwa [← Int.natCast_mul] at this
theorem Zn (x : Int) {e : Nat} (hx : Z k x) (he : e < 4294967296 ^ k) : Z (2 * k) (x * e) := by rw [Nat.two_mul]; exact hx.mul (show Z k (e : Int) from he)
theorem plus_q (hq : Zq k q) (hp : Zq k p) (hk1 : 1 ≤ k) (hk : 3 * k ≤ 100000) : PT Try.prog 94 [QZ q.num q.den, QZ p.num p.den] (isV (QZ (q + p).num (q + p).den)) := by
  have m1 := mul_zn hq.num hp.den (by omega)
  have m2 := mul_zn hp.num hq.den (by omega)
  have m3 := mul_nn hq.den hp.den (by omega)
  have z1 := Zn q.num hq.num hp.den
  have z2 := Zn p.num hp.num hq.den
  have z3 : Z (2 * k + 1) ((q.den * p.den : Nat) : Int) := lt_mono (lt_mul hq.den hp.den) (by omega)
  have h3 := nadd_z (okZ z1 (by omega)) (okZ z2 (by omega)) (okZ (k := 2 * k + 1) (z := (((q.num * (p.den : Int)).natAbs + (p.num * (q.den : Int)).natAbs : Nat) : Int)) (lt_add z1 z2) (by omega))
  have hm := make_z (z1.add z2) z3 (by omega) (by have := Nat.mul_pos (Nat.pos_of_ne_zero q.den_nz) (Nat.pos_of_ne_zero p.den_nz); omega)
  rw [Rat.divInt_ofNat, ← Rat.add_def'] at hm
  clear z1 z2 z3
  generalize q + p = r at *
  generalize q.num * (p.den : Int) + p.num * (q.den : Int) = z3 at *
  generalize q.num * (p.den : Int) = z1 at *
  generalize p.num * (q.den : Int) = z2 at *
  generalize q.den * p.den = dd at *
  rw [NZ_nat_def] at m1 m2 m3 hm
  rw [NZ_nat_def] at m3
  try rw [NZ_nat_def] at m3
  refine PCalls.enter (n := 22) (rs := [.cell 4 80]) (tb := [(1, [(0, []), (1, []), (2, []), (3, []), (5, []), (6, []), (7, []), (8, []), (11, []), (12, []), (13, []), (14, []), (4, [5, 6, 7, 8, 11, 12, 13, 14]), (9, [11, 12, 13, 14]), (10, [11, 12, 13, 14]), (15, []), (16, []), (17, [])]), (1000001, [(0, []), (1, []), (0, []), (4, []), (15, []), (0, []), (32, []), (0, []), (128, []), (511, []), (1023, []), (0, []), (2048, []), (0, []), (8192, []), (32767, []), (65535, []), (131071, [])])]) Try.func94 rfl rfl rfl (by kernel_rfl) (by kernel_rfl) (by simp) fun c hc ht => ?_
  simp -implicitDefEqProofs (disch := omega) only [go_sem, ht, eq_self]
  ((refine pCall_view (by simp -implicitDefEqProofs (disch := omega) only [go_sem, ht, eq_self] <;> rfl) (by simp -implicitDefEqProofs (disch := omega) only [go_sem, ht, eq_self]) (by first | (apply Or.inl; simp -implicitDefEqProofs (disch := omega) only [go_sem, ht, eq_self]; done) | (apply Or.inr; rintro r rfl; rfl)) (m1) ?_; rintro _ nx_23 - rfl hnx_23; (try simp only [put_nx, withH_nx, begP_nx] at hnx_23); simp -implicitDefEqProofs (disch := omega) only [go_sem, ht, eq_self]); (refine pCall_view (by simp -implicitDefEqProofs (disch := omega) only [go_sem, ht, eq_self] <;> rfl) (by simp -implicitDefEqProofs (disch := omega) only [go_sem, ht, eq_self]) (by first | (apply Or.inl; simp -implicitDefEqProofs (disch := omega) only [go_sem, ht, eq_self]; done) | (apply Or.inr; rintro r rfl; rfl)) (m2) ?_; rintro _ nx_24 - rfl hnx_24; (try simp only [put_nx, withH_nx, begP_nx] at hnx_24); simp -implicitDefEqProofs (disch := omega) only [go_sem, ht, eq_self]); (refine pCall_view (by simp -implicitDefEqProofs (disch := omega) only [go_sem, ht, eq_self] <;> rfl) (by simp -implicitDefEqProofs (disch := omega) only [go_sem, ht, eq_self]) (by first | (apply Or.inl; simp -implicitDefEqProofs (disch := omega) only [go_sem, ht, eq_self]; done) | (apply Or.inr; rintro r rfl; rfl)) (h3) ?_; rintro _ nx_25 - rfl hnx_25; (try simp only [put_nx, withH_nx, begP_nx] at hnx_25); simp -implicitDefEqProofs (disch := omega) only [go_sem, ht, eq_self]); (refine pCall_view (by simp -implicitDefEqProofs (disch := omega) only [go_sem, ht, eq_self] <;> rfl) (by simp -implicitDefEqProofs (disch := omega) only [go_sem, ht, eq_self]) (by first | (apply Or.inl; simp -implicitDefEqProofs (disch := omega) only [go_sem, ht, eq_self]; done) | (apply Or.inr; rintro r rfl; rfl)) (m3) ?_; rintro _ nx_26 - rfl hnx_26; (try simp only [put_nx, withH_nx, begP_nx] at hnx_26); simp -implicitDefEqProofs (disch := omega) only [go_sem, ht, eq_self]); (refine pCall_view (by simp -implicitDefEqProofs (disch := omega) only [go_sem, ht, eq_self] <;> rfl) (by simp -implicitDefEqProofs (disch := omega) only [go_sem, ht, eq_self]) (by first | (apply Or.inl; simp -implicitDefEqProofs (disch := omega) only [go_sem, ht, eq_self]; done) | (apply Or.inr; rintro r rfl; rfl)) (hm) ?_; rintro _ nx_27 - rfl hnx_27; (try simp only [put_nx, withH_nx, begP_nx] at hnx_27); simp -implicitDefEqProofs (disch := omega) only [go_sem, ht, eq_self]))
  (refine end_treeM 2 ?_; simp -implicitDefEqProofs (disch := omega) only [go_sem, ht, eq_self])
end
end Go.Proofs.Ytgebemjmckgomaa.Ref

namespace Go.Proofs.Ytgebemjmckgomaa.Ref

section
variable {b d : Bool} {xs ys ds es : List Nat} {x y : Int} {k m g : Nat} {q p : Rat}
theorem times_q (hq : Zq k q) (hp : Zq k p) (hk1 : 1 ≤ k) (hk : 3 * k ≤ 100000) : PT Try.prog 95 [QZ q.num q.den, QZ p.num p.den] (isV (QZ (q * p).num (q * p).den)) := by
  have m1 := nmul_z (okZ hq.num (by omega)) (okZ hp.num (by omega)) (by have := lenZ hq.num; have := lenZ hp.num; omega)
  have m3 := mul_nn hq.den hp.den (by omega)
  have z1 := hq.num.mul hp.num
  have z3 : Z (k + k) ((q.den * p.den : Nat) : Int) := lt_mul hq.den hp.den
  have hm := make_z z1 z3 (by omega) (by have := Nat.mul_pos (Nat.pos_of_ne_zero q.den_nz) (Nat.pos_of_ne_zero p.den_nz); omega)
  rw [Rat.divInt_ofNat, ← Rat.mkRat_mul_mkRat, Rat.mkRat_self, Rat.mkRat_self] at hm
  clear z1 z3
  generalize q * p = r at *
  generalize q.num * p.num = z1 at *
  generalize q.den * p.den = dd at *
  rw [NZ_nat_def] at m3 hm
  rw [NZ_nat_def] at m3
  try rw [NZ_nat_def] at m3
  refine PCalls.enter (n := 16) (rs := [.cell 4 80]) (tb := [(1, [(0, []), (1, []), (2, []), (3, []), (5, []), (6, []), (7, []), (8, []), (4, [5, 6, 7, 8]), (9, []), (10, []), (11, [])]), (1000001, [(0, []), (1, []), (0, []), (4, []), (15, []), (0, []), (32, []), (0, []), (128, []), (511, []), (1023, []), (2047, [])])]) Try.func95 rfl rfl rfl (by kernel_rfl) (by kernel_rfl) (by simp) fun c hc ht => ?_
  simp -implicitDefEqProofs (disch := omega) only [go_sem, ht, eq_self]
  ((refine pCall_view (by simp -implicitDefEqProofs (disch := omega) only [go_sem, ht, eq_self] <;> rfl) (by simp -implicitDefEqProofs (disch := omega) only [go_sem, ht, eq_self]) (by first | (apply Or.inl; simp -implicitDefEqProofs (disch := omega) only [go_sem, ht, eq_self]; done) | (apply Or.inr; rintro r rfl; rfl)) (m1) ?_; rintro _ nx_28 - rfl hnx_28; (try simp only [put_nx, withH_nx, begP_nx] at hnx_28); simp -implicitDefEqProofs (disch := omega) only [go_sem, ht, eq_self]); (refine pCall_view (by simp -implicitDefEqProofs (disch := omega) only [go_sem, ht, eq_self] <;> rfl) (by simp -implicitDefEqProofs (disch := omega) only [go_sem, ht, eq_self]) (by first | (apply Or.inl; simp -implicitDefEqProofs (disch := omega) only [go_sem, ht, eq_self]; done) | (apply Or.inr; rintro r rfl; rfl)) (m3) ?_; rintro _ nx_29 - rfl hnx_29; (try simp only [put_nx, withH_nx, begP_nx] at hnx_29); simp -implicitDefEqProofs (disch := omega) only [go_sem, ht, eq_self]); (refine pCall_view (by simp -implicitDefEqProofs (disch := omega) only [go_sem, ht, eq_self] <;> rfl) (by simp -implicitDefEqProofs (disch := omega) only [go_sem, ht, eq_self]) (by first | (apply Or.inl; simp -implicitDefEqProofs (disch := omega) only [go_sem, ht, eq_self]; done) | (apply Or.inr; rintro r rfl; rfl)) (hm) ?_; rintro _ nx_30 - rfl hnx_30; (try simp only [put_nx, withH_nx, begP_nx] at hnx_30); simp -implicitDefEqProofs (disch := omega) only [go_sem, ht, eq_self]))
  (refine end_treeM 2 ?_; simp -implicitDefEqProofs (disch := omega) only [go_sem, ht, eq_self])
theorem order_q (hq : Zq k q) (hp : Zq k p) (hk1 : 1 ≤ k) (hk : 3 * k ≤ 100000) : PT Try.prog 93 [QZ q.num q.den, QZ p.num p.den] (isV (.val (.int .i64 (cR q p)))) := by
  have m1 := mul_zn hq.num hp.den (by omega)
  have m2 := mul_zn hp.num hq.den (by omega)
  have z1 := Zn q.num hq.num hp.den
  have z2 := Zn p.num hp.num hq.den
  have h3 := ncmp_z (okZ z1 (by omega)) (okZ z2 (by omega))
  rw [← cR] at h3
  generalize cR q p = kc at *
  clear z1 z2
  generalize q.num * (p.den : Int) = z1 at *
  generalize p.num * (q.den : Int) = z2 at *
  rw [NZ_nat_def] at m1 m2
  refine PCalls.enter (n := 16) (rs := [.tmp 4]) (tb := [(1, [(0, []), (1, []), (2, []), (3, []), (5, []), (6, []), (7, []), (8, []), (4, [5, 6, 7, 8]), (9, []), (10, []), (11, [])]), (1000001, [(0, []), (1, []), (0, []), (4, []), (15, []), (0, []), (32, []), (0, []), (128, []), (511, []), (1023, []), (2047, [])])]) Try.func93 rfl rfl rfl (by kernel_rfl) (by kernel_rfl) (by simp) fun c hc ht => ?_
  simp -implicitDefEqProofs (disch := omega) only [go_sem, ht, eq_self]
  ((refine pCall_view (by simp -implicitDefEqProofs (disch := omega) only [go_sem, ht, eq_self] <;> rfl) (by simp -implicitDefEqProofs (disch := omega) only [go_sem, ht, eq_self]) (by first | (apply Or.inl; simp -implicitDefEqProofs (disch := omega) only [go_sem, ht, eq_self]; done) | (apply Or.inr; rintro r rfl; rfl)) (m1) ?_; rintro _ nx_31 - rfl hnx_31; (try simp only [put_nx, withH_nx, begP_nx] at hnx_31); simp -implicitDefEqProofs (disch := omega) only [go_sem, ht, eq_self]); (refine pCall_view (by simp -implicitDefEqProofs (disch := omega) only [go_sem, ht, eq_self] <;> rfl) (by simp -implicitDefEqProofs (disch := omega) only [go_sem, ht, eq_self]) (by first | (apply Or.inl; simp -implicitDefEqProofs (disch := omega) only [go_sem, ht, eq_self]; done) | (apply Or.inr; rintro r rfl; rfl)) (m2) ?_; rintro _ nx_32 - rfl hnx_32; (try simp only [put_nx, withH_nx, begP_nx] at hnx_32); simp -implicitDefEqProofs (disch := omega) only [go_sem, ht, eq_self]); (refine pCall_view (by simp -implicitDefEqProofs (disch := omega) only [go_sem, ht, eq_self] <;> rfl) (by simp -implicitDefEqProofs (disch := omega) only [go_sem, ht, eq_self]) (by first | (apply Or.inl; simp -implicitDefEqProofs (disch := omega) only [go_sem, ht, eq_self]; done) | (apply Or.inr; rintro r rfl; rfl)) (h3) ?_; rintro _ nx_33 - rfl hnx_33; (try simp only [put_nx, withH_nx, begP_nx] at hnx_33); simp -implicitDefEqProofs (disch := omega) only [go_sem, ht, eq_self]))
  (refine end_treeW 0 ?_; simp -implicitDefEqProofs (disch := omega) only [go_sem, ht, eq_self])
theorem long_q (hq : Zq k q) (hk : k ≤ 1000000) : PT Try.prog 88 [QZ q.num q.den] (isV (.val (.int .i64 (max (Ytgebemjmckgomaa.D q.num.natAbs).length (Ytgebemjmckgomaa.D q.den).length : Nat)))) := by
  have h1 := long_z hq.num hk
  have zd : Z k (q.den : Int) := hq.den
  have h2 := long_z zd hk
  rw [NZ_nat_def] at h2
  rw [show ((q.den : Nat) : Int).natAbs = q.den from rfl] at h2
  generalize (Ytgebemjmckgomaa.D q.num.natAbs).length = a at *
  generalize (Ytgebemjmckgomaa.D q.den).length = c at *
  by_cases hl : a < c
  · rw [Nat.max_eq_right (by omega)]
    refine PCalls.enter (n := 16) (rs := [.tmp 2]) (tb := []) Try.func88 rfl rfl rfl (by kernel_rfl) (by kernel_rfl) (by simp) fun c hc ht => ?_
    simp -implicitDefEqProofs (disch := omega) only [go_sem, ht, eq_self]
    ((refine pCall_view (by simp -implicitDefEqProofs (disch := omega) only [go_sem, ht, eq_self] <;> rfl) (by simp -implicitDefEqProofs (disch := omega) only [go_sem, ht, eq_self]) (by first | (apply Or.inl; simp -implicitDefEqProofs (disch := omega) only [go_sem, ht, eq_self]; done) | (apply Or.inr; rintro r rfl; rfl)) (h1) ?_; rintro _ nx_34 - rfl hnx_34; (try simp only [put_nx, withH_nx, begP_nx] at hnx_34); simp -implicitDefEqProofs (disch := omega) only [go_sem, ht, eq_self]); (refine pCall_view (by simp -implicitDefEqProofs (disch := omega) only [go_sem, ht, eq_self] <;> rfl) (by simp -implicitDefEqProofs (disch := omega) only [go_sem, ht, eq_self]) (by first | (apply Or.inl; simp -implicitDefEqProofs (disch := omega) only [go_sem, ht, eq_self]; done) | (apply Or.inr; rintro r rfl; rfl)) (h2) ?_; rintro _ nx_35 - rfl hnx_35; (try simp only [put_nx, withH_nx, begP_nx] at hnx_35); simp -implicitDefEqProofs (disch := omega) only [go_sem, ht, eq_self]))
    (refine end_treeW 0 ?_; simp -implicitDefEqProofs (disch := omega) only [go_sem, ht, eq_self])
  · rw [Nat.max_eq_left (by omega)]
    refine PCalls.enter (n := 16) (rs := [.tmp 2]) (tb := []) Try.func88 rfl rfl rfl (by kernel_rfl) (by kernel_rfl) (by simp) fun c hc ht => ?_
    simp -implicitDefEqProofs (disch := omega) only [go_sem, ht, eq_self]
    ((refine pCall_view (by simp -implicitDefEqProofs (disch := omega) only [go_sem, ht, eq_self] <;> rfl) (by simp -implicitDefEqProofs (disch := omega) only [go_sem, ht, eq_self]) (by first | (apply Or.inl; simp -implicitDefEqProofs (disch := omega) only [go_sem, ht, eq_self]; done) | (apply Or.inr; rintro r rfl; rfl)) (h1) ?_; rintro _ nx_36 - rfl hnx_36; (try simp only [put_nx, withH_nx, begP_nx] at hnx_36); simp -implicitDefEqProofs (disch := omega) only [go_sem, ht, eq_self]); (refine pCall_view (by simp -implicitDefEqProofs (disch := omega) only [go_sem, ht, eq_self] <;> rfl) (by simp -implicitDefEqProofs (disch := omega) only [go_sem, ht, eq_self]) (by first | (apply Or.inl; simp -implicitDefEqProofs (disch := omega) only [go_sem, ht, eq_self]; done) | (apply Or.inr; rintro r rfl; rfl)) (h2) ?_; rintro _ nx_37 - rfl hnx_37; (try simp only [put_nx, withH_nx, begP_nx] at hnx_37); simp -implicitDefEqProofs (disch := omega) only [go_sem, ht, eq_self]))
    (refine end_treeW 0 ?_; simp -implicitDefEqProofs (disch := omega) only [go_sem, ht, eq_self])
theorem r3of_zero (g : Wn d ys 0 m) : PT Try.prog 16 [WX b xs, WX d ys] (isV (.tup [FZ, .val (.int .i64 20)])) := by
  have h1 := ofW g
  have h2 := sign_z (okZ g.z g.hk)
  rw [cZ_eq rfl] at h2
  refine PCalls.enter (n := 18) (rs := [.cell 4 28, .tmp 5]) (tb := [(4, [(0, []), (2, []), (1, [2]), (3, []), (4, []), (5, []), (6, [])])]) Try.func16 rfl rfl rfl (by kernel_rfl) (by kernel_rfl) (by simp) fun c hc ht => ?_
  simp -implicitDefEqProofs (disch := omega) only [go_sem, ht, eq_self]
  ((refine pCall_view (by simp -implicitDefEqProofs (disch := omega) only [go_sem, ht, eq_self] <;> rfl) (by simp -implicitDefEqProofs (disch := omega) only [go_sem, ht, eq_self]) (by first | (apply Or.inl; simp -implicitDefEqProofs (disch := omega) only [go_sem, ht, eq_self]; done) | (apply Or.inr; rintro r rfl; rfl)) (h1) ?_; rintro _ nx_38 - rfl hnx_38; (try simp only [put_nx, withH_nx, begP_nx] at hnx_38); simp -implicitDefEqProofs (disch := omega) only [go_sem, ht, eq_self]); (refine pCall_view (by simp -implicitDefEqProofs (disch := omega) only [go_sem, ht, eq_self] <;> rfl) (by simp -implicitDefEqProofs (disch := omega) only [go_sem, ht, eq_self]) (by first | (apply Or.inl; simp -implicitDefEqProofs (disch := omega) only [go_sem, ht, eq_self]; done) | (apply Or.inr; rintro r rfl; rfl)) (h2) ?_; rintro _ nx_39 - rfl hnx_39; (try simp only [put_nx, withH_nx, begP_nx] at hnx_39); simp -implicitDefEqProofs (disch := omega) only [go_sem, ht, eq_self]))
  (refine end_treeM 2 ?_; simp -implicitDefEqProofs (disch := omega) only [go_sem, ht, eq_self])
theorem r3of (h : Wn b xs x k) (g : Wn d ys y k) (hk1 : 1 ≤ k) (hk : k ≤ 100000) (hy : y ≠ 0) : PT Try.prog 16 [WX b xs, WX d ys] (isV (.tup [FC (Rat.divInt x y), .val (.int .i64 0)])) := by
  have h1 := ofW g
  have h2 := sign_z (okZ g.z g.hk)
  have hc : cZ y 0 ≠ 0 := by unfold cZ; split <;> (try split) <;> omega
  have h3 := ofW h
  have h4 := make_z h.z g.z hk hy
  have zr : Zq k (Rat.divInt x y) := by
    rw [← rat_over hy]
    refine .of hk1 ?_ g.z
    split
    · exact h.z.neg
    · exact h.z
  have h5 := told_f zr (by omega)
  generalize Rat.divInt x y = r at *
  generalize cZ y 0 = kc at *
  refine PCalls.enter (n := 18) (rs := [.cell 4 28, .tmp 5]) (tb := [(4, [(0, []), (2, []), (1, [2]), (3, []), (4, []), (5, []), (6, [])])]) Try.func16 rfl rfl rfl (by kernel_rfl) (by kernel_rfl) (by simp) fun c hc ht => ?_
  simp -implicitDefEqProofs (disch := omega) only [go_sem, ht, eq_self]
  ((refine pCall_view (by simp -implicitDefEqProofs (disch := omega) only [go_sem, ht, eq_self] <;> rfl) (by simp -implicitDefEqProofs (disch := omega) only [go_sem, ht, eq_self]) (by first | (apply Or.inl; simp -implicitDefEqProofs (disch := omega) only [go_sem, ht, eq_self]; done) | (apply Or.inr; rintro r rfl; rfl)) (h1) ?_; rintro _ nx_40 - rfl hnx_40; (try simp only [put_nx, withH_nx, begP_nx] at hnx_40); simp -implicitDefEqProofs (disch := omega) only [go_sem, ht, eq_self]); (refine pCall_view (by simp -implicitDefEqProofs (disch := omega) only [go_sem, ht, eq_self] <;> rfl) (by simp -implicitDefEqProofs (disch := omega) only [go_sem, ht, eq_self]) (by first | (apply Or.inl; simp -implicitDefEqProofs (disch := omega) only [go_sem, ht, eq_self]; done) | (apply Or.inr; rintro r rfl; rfl)) (h2) ?_; rintro _ nx_41 - rfl hnx_41; (try simp only [put_nx, withH_nx, begP_nx] at hnx_41); simp -implicitDefEqProofs (disch := omega) only [go_sem, ht, eq_self]); (refine pCall_view (by simp -implicitDefEqProofs (disch := omega) only [go_sem, ht, eq_self] <;> rfl) (by simp -implicitDefEqProofs (disch := omega) only [go_sem, ht, eq_self]) (by first | (apply Or.inl; simp -implicitDefEqProofs (disch := omega) only [go_sem, ht, eq_self]; done) | (apply Or.inr; rintro r rfl; rfl)) (h3) ?_; rintro _ nx_42 - rfl hnx_42; (try simp only [put_nx, withH_nx, begP_nx] at hnx_42); simp -implicitDefEqProofs (disch := omega) only [go_sem, ht, eq_self]); (refine pCall_view (by simp -implicitDefEqProofs (disch := omega) only [go_sem, ht, eq_self] <;> rfl) (by simp -implicitDefEqProofs (disch := omega) only [go_sem, ht, eq_self]) (by first | (apply Or.inl; simp -implicitDefEqProofs (disch := omega) only [go_sem, ht, eq_self]; done) | (apply Or.inr; rintro r rfl; rfl)) (h4) ?_; rintro _ nx_43 - rfl hnx_43; (try simp only [put_nx, withH_nx, begP_nx] at hnx_43); simp -implicitDefEqProofs (disch := omega) only [go_sem, ht, eq_self]); (refine pCall_view (by simp -implicitDefEqProofs (disch := omega) only [go_sem, ht, eq_self] <;> rfl) (by simp -implicitDefEqProofs (disch := omega) only [go_sem, ht, eq_self]) (by first | (apply Or.inl; simp -implicitDefEqProofs (disch := omega) only [go_sem, ht, eq_self]; done) | (apply Or.inr; rintro r rfl; rfl)) (h5) ?_; rintro _ nx_44 - rfl hnx_44; (try simp only [put_nx, withH_nx, begP_nx] at hnx_44); simp -implicitDefEqProofs (disch := omega) only [go_sem, ht, eq_self]))
  (refine end_treeM 2 ?_; simp -implicitDefEqProofs (disch := omega) only [go_sem, ht, eq_self])
theorem r3from (h : Wn b xs x k) (hk1 : 1 ≤ k) (hk : k ≤ 100000) : PT Try.prog 20 [WX b xs] (isV (FC (x : Rat))) := by
  have h1 := ofW h
  have h2 := int_z (v := 1) (by omega) (by omega)
  rw [show ((1 : Int)) = ((1 : Nat) : Int) from rfl, NZ_nat_def] at h2
  have h3 := told_q h.z (one_lt_pow hk1) (by omega)
  have e : FC (x : Rat) = FX (decide (x < 0)) (Ytgebemjmckgomaa.D x.natAbs) (Ytgebemjmckgomaa.D 1) := rfl
  rw [← e] at h3
  refine PCalls.enter (n := 8) (rs := [.cell 2 28]) (tb := []) Try.func20 rfl rfl rfl (by kernel_rfl) (by kernel_rfl) (by simp) fun c hc ht => ?_
  simp -implicitDefEqProofs (disch := omega) only [go_sem, ht, eq_self]
  ((refine pCall_view (by simp -implicitDefEqProofs (disch := omega) only [go_sem, ht, eq_self] <;> rfl) (by simp -implicitDefEqProofs (disch := omega) only [go_sem, ht, eq_self]) (by first | (apply Or.inl; simp -implicitDefEqProofs (disch := omega) only [go_sem, ht, eq_self]; done) | (apply Or.inr; rintro r rfl; rfl)) (h1) ?_; rintro _ nx_45 - rfl hnx_45; (try simp only [put_nx, withH_nx, begP_nx] at hnx_45); simp -implicitDefEqProofs (disch := omega) only [go_sem, ht, eq_self]); (refine pCall_view (by simp -implicitDefEqProofs (disch := omega) only [go_sem, ht, eq_self] <;> rfl) (by simp -implicitDefEqProofs (disch := omega) only [go_sem, ht, eq_self]) (by first | (apply Or.inl; simp -implicitDefEqProofs (disch := omega) only [go_sem, ht, eq_self]; done) | (apply Or.inr; rintro r rfl; rfl)) (h2) ?_; rintro _ nx_46 - rfl hnx_46; (try simp only [put_nx, withH_nx, begP_nx] at hnx_46); simp -implicitDefEqProofs (disch := omega) only [go_sem, ht, eq_self]); (refine pCall_view (by simp -implicitDefEqProofs (disch := omega) only [go_sem, ht, eq_self] <;> rfl) (by simp -implicitDefEqProofs (disch := omega) only [go_sem, ht, eq_self]) (by first | (apply Or.inl; simp -implicitDefEqProofs (disch := omega) only [go_sem, ht, eq_self]; done) | (apply Or.inr; rintro r rfl; rfl)) (h3) ?_; rintro _ nx_47 - rfl hnx_47; (try simp only [put_nx, withH_nx, begP_nx] at hnx_47); simp -implicitDefEqProofs (disch := omega) only [go_sem, ht, eq_self]))
  (refine end_treeM 2 ?_; simp -implicitDefEqProofs (disch := omega) only [go_sem, ht, eq_self])
theorem r3trim (h : Fn b xs ds q k) (hk : k ≤ 100000) : PT Try.prog 45 [FX b xs ds] (isV (FC q)) := by
  have h1 := read_q h hk
  have h2 := told_f h.zq (by omega)
  refine PCalls.enter (n := 6) (rs := [.cell 2 28]) (tb := []) Try.func45 rfl rfl rfl (by kernel_rfl) (by kernel_rfl) (by simp) fun c hc ht => ?_
  simp -implicitDefEqProofs (disch := omega) only [go_sem, ht, eq_self]
  ((refine pCall_view (by simp -implicitDefEqProofs (disch := omega) only [go_sem, ht, eq_self] <;> rfl) (by simp -implicitDefEqProofs (disch := omega) only [go_sem, ht, eq_self]) (by first | (apply Or.inl; simp -implicitDefEqProofs (disch := omega) only [go_sem, ht, eq_self]; done) | (apply Or.inr; rintro r rfl; rfl)) (h1) ?_; rintro _ nx_48 - rfl hnx_48; (try simp only [put_nx, withH_nx, begP_nx] at hnx_48); simp -implicitDefEqProofs (disch := omega) only [go_sem, ht, eq_self]); (refine pCall_view (by simp -implicitDefEqProofs (disch := omega) only [go_sem, ht, eq_self] <;> rfl) (by simp -implicitDefEqProofs (disch := omega) only [go_sem, ht, eq_self]) (by first | (apply Or.inl; simp -implicitDefEqProofs (disch := omega) only [go_sem, ht, eq_self]; done) | (apply Or.inr; rintro r rfl; rfl)) (h2) ?_; rintro _ nx_49 - rfl hnx_49; (try simp only [put_nx, withH_nx, begP_nx] at hnx_49); simp -implicitDefEqProofs (disch := omega) only [go_sem, ht, eq_self]))
  (refine end_treeM 2 ?_; simp -implicitDefEqProofs (disch := omega) only [go_sem, ht, eq_self])
theorem r3sign (h : Fn b xs ds q k) (hk : k ≤ 100000) : PT Try.prog 43 [FX b xs ds] (isV (.val (.int .i64 (cZ q.num 0)))) := by
  have h1 := read_q h hk
  have h2 := sign_z (okZ h.zq.num (by omega))
  generalize cZ q.num 0 = kc at *
  refine PCalls.enter (n := 7) (rs := [.tmp 2]) (tb := []) Try.func43 rfl rfl rfl (by kernel_rfl) (by kernel_rfl) (by simp) fun c hc ht => ?_
  simp -implicitDefEqProofs (disch := omega) only [go_sem, ht, eq_self]
  ((refine pCall_view (by simp -implicitDefEqProofs (disch := omega) only [go_sem, ht, eq_self] <;> rfl) (by simp -implicitDefEqProofs (disch := omega) only [go_sem, ht, eq_self]) (by first | (apply Or.inl; simp -implicitDefEqProofs (disch := omega) only [go_sem, ht, eq_self]; done) | (apply Or.inr; rintro r rfl; rfl)) (h1) ?_; rintro _ nx_50 - rfl hnx_50; (try simp only [put_nx, withH_nx, begP_nx] at hnx_50); simp -implicitDefEqProofs (disch := omega) only [go_sem, ht, eq_self]); (refine pCall_view (by simp -implicitDefEqProofs (disch := omega) only [go_sem, ht, eq_self] <;> rfl) (by simp -implicitDefEqProofs (disch := omega) only [go_sem, ht, eq_self]) (by first | (apply Or.inl; simp -implicitDefEqProofs (disch := omega) only [go_sem, ht, eq_self]; done) | (apply Or.inr; rintro r rfl; rfl)) (h2) ?_; rintro _ nx_51 - rfl hnx_51; (try simp only [put_nx, withH_nx, begP_nx] at hnx_51); simp -implicitDefEqProofs (disch := omega) only [go_sem, ht, eq_self]))
  (refine end_treeW 0 ?_; simp -implicitDefEqProofs (disch := omega) only [go_sem, ht, eq_self])
theorem r3limbs (h : Fn b xs ds q k) (hk : k ≤ 100000) : PT Try.prog 44 [FX b xs ds] (isV (.val (.int .i64 (max (Ytgebemjmckgomaa.D q.num.natAbs).length (Ytgebemjmckgomaa.D q.den).length : Nat)))) := by
  have h1 := read_q h hk
  have h2 := long_q h.zq (by omega)
  generalize max (Ytgebemjmckgomaa.D q.num.natAbs).length (Ytgebemjmckgomaa.D q.den).length = kc at *
  refine PCalls.enter (n := 6) (rs := [.tmp 2]) (tb := []) Try.func44 rfl rfl rfl (by kernel_rfl) (by kernel_rfl) (by simp) fun c hc ht => ?_
  simp -implicitDefEqProofs (disch := omega) only [go_sem, ht, eq_self]
  ((refine pCall_view (by simp -implicitDefEqProofs (disch := omega) only [go_sem, ht, eq_self] <;> rfl) (by simp -implicitDefEqProofs (disch := omega) only [go_sem, ht, eq_self]) (by first | (apply Or.inl; simp -implicitDefEqProofs (disch := omega) only [go_sem, ht, eq_self]; done) | (apply Or.inr; rintro r rfl; rfl)) (h1) ?_; rintro _ nx_52 - rfl hnx_52; (try simp only [put_nx, withH_nx, begP_nx] at hnx_52); simp -implicitDefEqProofs (disch := omega) only [go_sem, ht, eq_self]); (refine pCall_view (by simp -implicitDefEqProofs (disch := omega) only [go_sem, ht, eq_self] <;> rfl) (by simp -implicitDefEqProofs (disch := omega) only [go_sem, ht, eq_self]) (by first | (apply Or.inl; simp -implicitDefEqProofs (disch := omega) only [go_sem, ht, eq_self]; done) | (apply Or.inr; rintro r rfl; rfl)) (h2) ?_; rintro _ nx_53 - rfl hnx_53; (try simp only [put_nx, withH_nx, begP_nx] at hnx_53); simp -implicitDefEqProofs (disch := omega) only [go_sem, ht, eq_self]))
  (refine end_treeW 0 ?_; simp -implicitDefEqProofs (disch := omega) only [go_sem, ht, eq_self])
theorem r3cmp (h : Fn b xs ds q k) (g : Fn d ys es p k) (hk : 3 * k ≤ 100000) : PT Try.prog 52 [FX b xs ds, FX d ys es] (isV (.val (.int .i64 (cR q p)))) := by
  have h1 := read_q h (by omega)
  have h2 := read_q g (by omega)
  have h3 := order_q h.zq g.zq h.hk1 hk
  generalize cR q p = kc at *
  refine PCalls.enter (n := 10) (rs := [.tmp 4]) (tb := [(1, [(0, []), (2, []), (1, [2]), (3, []), (4, []), (5, [])])]) Try.func52 rfl rfl rfl (by kernel_rfl) (by kernel_rfl) (by simp) fun c hc ht => ?_
  simp -implicitDefEqProofs (disch := omega) only [go_sem, ht, eq_self]
  ((refine pCall_view (by simp -implicitDefEqProofs (disch := omega) only [go_sem, ht, eq_self] <;> rfl) (by simp -implicitDefEqProofs (disch := omega) only [go_sem, ht, eq_self]) (by first | (apply Or.inl; simp -implicitDefEqProofs (disch := omega) only [go_sem, ht, eq_self]; done) | (apply Or.inr; rintro r rfl; rfl)) (h1) ?_; rintro _ nx_54 - rfl hnx_54; (try simp only [put_nx, withH_nx, begP_nx] at hnx_54); simp -implicitDefEqProofs (disch := omega) only [go_sem, ht, eq_self]); (refine pCall_view (by simp -implicitDefEqProofs (disch := omega) only [go_sem, ht, eq_self] <;> rfl) (by simp -implicitDefEqProofs (disch := omega) only [go_sem, ht, eq_self]) (by first | (apply Or.inl; simp -implicitDefEqProofs (disch := omega) only [go_sem, ht, eq_self]; done) | (apply Or.inr; rintro r rfl; rfl)) (h2) ?_; rintro _ nx_55 - rfl hnx_55; (try simp only [put_nx, withH_nx, begP_nx] at hnx_55); simp -implicitDefEqProofs (disch := omega) only [go_sem, ht, eq_self]); (refine pCall_view (by simp -implicitDefEqProofs (disch := omega) only [go_sem, ht, eq_self] <;> rfl) (by simp -implicitDefEqProofs (disch := omega) only [go_sem, ht, eq_self]) (by first | (apply Or.inl; simp -implicitDefEqProofs (disch := omega) only [go_sem, ht, eq_self]; done) | (apply Or.inr; rintro r rfl; rfl)) (h3) ?_; rintro _ nx_56 - rfl hnx_56; (try simp only [put_nx, withH_nx, begP_nx] at hnx_56); simp -implicitDefEqProofs (disch := omega) only [go_sem, ht, eq_self]))
  (refine end_treeW 0 ?_; simp -implicitDefEqProofs (disch := omega) only [go_sem, ht, eq_self])
theorem r3neg (h : Fn b xs ds q k) (hk : k ≤ 100000) : PT Try.prog 47 [FX b xs ds] (isV (FC (-q))) := by
  have h1 := read_q h hk
  have h2 := minus_q h.zq (by omega)
  have zn : Zq k (-q) := ⟨h.zq.num.neg, h.zq.den⟩
  have h3 := told_f zn (by omega)
  generalize -q = r at *
  refine PCalls.enter (n := 7) (rs := [.cell 2 28]) (tb := []) Try.func47 rfl rfl rfl (by kernel_rfl) (by kernel_rfl) (by simp) fun c hc ht => ?_
  simp -implicitDefEqProofs (disch := omega) only [go_sem, ht, eq_self]
  ((refine pCall_view (by simp -implicitDefEqProofs (disch := omega) only [go_sem, ht, eq_self] <;> rfl) (by simp -implicitDefEqProofs (disch := omega) only [go_sem, ht, eq_self]) (by first | (apply Or.inl; simp -implicitDefEqProofs (disch := omega) only [go_sem, ht, eq_self]; done) | (apply Or.inr; rintro r rfl; rfl)) (h1) ?_; rintro _ nx_57 - rfl hnx_57; (try simp only [put_nx, withH_nx, begP_nx] at hnx_57); simp -implicitDefEqProofs (disch := omega) only [go_sem, ht, eq_self]); (refine pCall_view (by simp -implicitDefEqProofs (disch := omega) only [go_sem, ht, eq_self] <;> rfl) (by simp -implicitDefEqProofs (disch := omega) only [go_sem, ht, eq_self]) (by first | (apply Or.inl; simp -implicitDefEqProofs (disch := omega) only [go_sem, ht, eq_self]; done) | (apply Or.inr; rintro r rfl; rfl)) (h2) ?_; rintro _ nx_58 - rfl hnx_58; (try simp only [put_nx, withH_nx, begP_nx] at hnx_58); simp -implicitDefEqProofs (disch := omega) only [go_sem, ht, eq_self]); (refine pCall_view (by simp -implicitDefEqProofs (disch := omega) only [go_sem, ht, eq_self] <;> rfl) (by simp -implicitDefEqProofs (disch := omega) only [go_sem, ht, eq_self]) (by first | (apply Or.inl; simp -implicitDefEqProofs (disch := omega) only [go_sem, ht, eq_self]; done) | (apply Or.inr; rintro r rfl; rfl)) (h3) ?_; rintro _ nx_59 - rfl hnx_59; (try simp only [put_nx, withH_nx, begP_nx] at hnx_59); simp -implicitDefEqProofs (disch := omega) only [go_sem, ht, eq_self]))
  (refine end_treeM 2 ?_; simp -implicitDefEqProofs (disch := omega) only [go_sem, ht, eq_self])
theorem r3add (h : Fn b xs ds q k) (g : Fn d ys es p k) (hk : 3 * k ≤ 100000) : PT Try.prog 53 [FX b xs ds, FX d ys es] (isV (FC (q + p))) := by
  have h1 := read_q h (by omega)
  have h2 := read_q g (by omega)
  have h3 := plus_q h.zq g.zq h.hk1 hk
  have h4 := told_f (Zq.add h.zq g.zq h.hk1) (by omega)
  generalize q + p = r at *
  refine PCalls.enter (n := 11) (rs := [.cell 4 28]) (tb := [(1, [(0, []), (2, []), (1, [2]), (3, []), (4, []), (5, []), (6, [])])]) Try.func53 rfl rfl rfl (by kernel_rfl) (by kernel_rfl) (by simp) fun c hc ht => ?_
  simp -implicitDefEqProofs (disch := omega) only [go_sem, ht, eq_self]
  ((refine pCall_view (by simp -implicitDefEqProofs (disch := omega) only [go_sem, ht, eq_self] <;> rfl) (by simp -implicitDefEqProofs (disch := omega) only [go_sem, ht, eq_self]) (by first | (apply Or.inl; simp -implicitDefEqProofs (disch := omega) only [go_sem, ht, eq_self]; done) | (apply Or.inr; rintro r rfl; rfl)) (h1) ?_; rintro _ nx_60 - rfl hnx_60; (try simp only [put_nx, withH_nx, begP_nx] at hnx_60); simp -implicitDefEqProofs (disch := omega) only [go_sem, ht, eq_self]); (refine pCall_view (by simp -implicitDefEqProofs (disch := omega) only [go_sem, ht, eq_self] <;> rfl) (by simp -implicitDefEqProofs (disch := omega) only [go_sem, ht, eq_self]) (by first | (apply Or.inl; simp -implicitDefEqProofs (disch := omega) only [go_sem, ht, eq_self]; done) | (apply Or.inr; rintro r rfl; rfl)) (h2) ?_; rintro _ nx_61 - rfl hnx_61; (try simp only [put_nx, withH_nx, begP_nx] at hnx_61); simp -implicitDefEqProofs (disch := omega) only [go_sem, ht, eq_self]); (refine pCall_view (by simp -implicitDefEqProofs (disch := omega) only [go_sem, ht, eq_self] <;> rfl) (by simp -implicitDefEqProofs (disch := omega) only [go_sem, ht, eq_self]) (by first | (apply Or.inl; simp -implicitDefEqProofs (disch := omega) only [go_sem, ht, eq_self]; done) | (apply Or.inr; rintro r rfl; rfl)) (h3) ?_; rintro _ nx_62 - rfl hnx_62; (try simp only [put_nx, withH_nx, begP_nx] at hnx_62); simp -implicitDefEqProofs (disch := omega) only [go_sem, ht, eq_self]); (refine pCall_view (by simp -implicitDefEqProofs (disch := omega) only [go_sem, ht, eq_self] <;> rfl) (by simp -implicitDefEqProofs (disch := omega) only [go_sem, ht, eq_self]) (by first | (apply Or.inl; simp -implicitDefEqProofs (disch := omega) only [go_sem, ht, eq_self]; done) | (apply Or.inr; rintro r rfl; rfl)) (h4) ?_; rintro _ nx_63 - rfl hnx_63; (try simp only [put_nx, withH_nx, begP_nx] at hnx_63); simp -implicitDefEqProofs (disch := omega) only [go_sem, ht, eq_self]))
  (refine end_treeM 2 ?_; simp -implicitDefEqProofs (disch := omega) only [go_sem, ht, eq_self])
theorem r3sub (h : Fn b xs ds q k) (g : Fn d ys es p k) (hk : 3 * k ≤ 100000) : PT Try.prog 54 [FX b xs ds, FX d ys es] (isV (FC (q - p))) := by
  have h1 := read_q h (by omega)
  have h2 := read_q g (by omega)
  have zn : Zq k (-p) := ⟨g.zq.num.neg, g.zq.den⟩
  have hm := minus_q g.zq (by omega)
  have h3 := plus_q h.zq zn h.hk1 hk
  have h4 := told_f (Zq.add h.zq zn h.hk1) (by omega)
  rw [← Rat.sub_eq_add_neg] at h3 h4
  generalize q - p = r at *
  generalize -p = r2 at *
  refine PCalls.enter (n := 12) (rs := [.cell 4 28]) (tb := [(1, [(0, []), (2, []), (1, [2]), (3, []), (4, []), (5, []), (6, []), (7, [])])]) Try.func54 rfl rfl rfl (by kernel_rfl) (by kernel_rfl) (by simp) fun c hc ht => ?_
  simp -implicitDefEqProofs (disch := omega) only [go_sem, ht, eq_self]
  ((refine pCall_view (by simp -implicitDefEqProofs (disch := omega) only [go_sem, ht, eq_self] <;> rfl) (by simp -implicitDefEqProofs (disch := omega) only [go_sem, ht, eq_self]) (by first | (apply Or.inl; simp -implicitDefEqProofs (disch := omega) only [go_sem, ht, eq_self]; done) | (apply Or.inr; rintro r rfl; rfl)) (h1) ?_; rintro _ nx_64 - rfl hnx_64; (try simp only [put_nx, withH_nx, begP_nx] at hnx_64); simp -implicitDefEqProofs (disch := omega) only [go_sem, ht, eq_self]); (refine pCall_view (by simp -implicitDefEqProofs (disch := omega) only [go_sem, ht, eq_self] <;> rfl) (by simp -implicitDefEqProofs (disch := omega) only [go_sem, ht, eq_self]) (by first | (apply Or.inl; simp -implicitDefEqProofs (disch := omega) only [go_sem, ht, eq_self]; done) | (apply Or.inr; rintro r rfl; rfl)) (h2) ?_; rintro _ nx_65 - rfl hnx_65; (try simp only [put_nx, withH_nx, begP_nx] at hnx_65); simp -implicitDefEqProofs (disch := omega) only [go_sem, ht, eq_self]); (refine pCall_view (by simp -implicitDefEqProofs (disch := omega) only [go_sem, ht, eq_self] <;> rfl) (by simp -implicitDefEqProofs (disch := omega) only [go_sem, ht, eq_self]) (by first | (apply Or.inl; simp -implicitDefEqProofs (disch := omega) only [go_sem, ht, eq_self]; done) | (apply Or.inr; rintro r rfl; rfl)) (hm) ?_; rintro _ nx_66 - rfl hnx_66; (try simp only [put_nx, withH_nx, begP_nx] at hnx_66); simp -implicitDefEqProofs (disch := omega) only [go_sem, ht, eq_self]); (refine pCall_view (by simp -implicitDefEqProofs (disch := omega) only [go_sem, ht, eq_self] <;> rfl) (by simp -implicitDefEqProofs (disch := omega) only [go_sem, ht, eq_self]) (by first | (apply Or.inl; simp -implicitDefEqProofs (disch := omega) only [go_sem, ht, eq_self]; done) | (apply Or.inr; rintro r rfl; rfl)) (h3) ?_; rintro _ nx_67 - rfl hnx_67; (try simp only [put_nx, withH_nx, begP_nx] at hnx_67); simp -implicitDefEqProofs (disch := omega) only [go_sem, ht, eq_self]); (refine pCall_view (by simp -implicitDefEqProofs (disch := omega) only [go_sem, ht, eq_self] <;> rfl) (by simp -implicitDefEqProofs (disch := omega) only [go_sem, ht, eq_self]) (by first | (apply Or.inl; simp -implicitDefEqProofs (disch := omega) only [go_sem, ht, eq_self]; done) | (apply Or.inr; rintro r rfl; rfl)) (h4) ?_; rintro _ nx_68 - rfl hnx_68; (try simp only [put_nx, withH_nx, begP_nx] at hnx_68); simp -implicitDefEqProofs (disch := omega) only [go_sem, ht, eq_self]))
  (refine end_treeM 2 ?_; simp -implicitDefEqProofs (disch := omega) only [go_sem, ht, eq_self])
theorem r3mul (h : Fn b xs ds q k) (g : Fn d ys es p k) (hk : 3 * k ≤ 100000) : PT Try.prog 55 [FX b xs ds, FX d ys es] (isV (FC (q * p))) := by
  have h1 := read_q h (by omega)
  have h2 := read_q g (by omega)
  have h3 := times_q h.zq g.zq h.hk1 hk
  have h4 := told_f (Zq.mul h g) (by omega)
  generalize q * p = r at *
  refine PCalls.enter (n := 11) (rs := [.cell 4 28]) (tb := [(1, [(0, []), (2, []), (1, [2]), (3, []), (4, []), (5, []), (6, [])])]) Try.func55 rfl rfl rfl (by kernel_rfl) (by kernel_rfl) (by simp) fun c hc ht => ?_
  simp -implicitDefEqProofs (disch := omega) only [go_sem, ht, eq_self]
  ((refine pCall_view (by simp -implicitDefEqProofs (disch := omega) only [go_sem, ht, eq_self] <;> rfl) (by simp -implicitDefEqProofs (disch := omega) only [go_sem, ht, eq_self]) (by first | (apply Or.inl; simp -implicitDefEqProofs (disch := omega) only [go_sem, ht, eq_self]; done) | (apply Or.inr; rintro r rfl; rfl)) (h1) ?_; rintro _ nx_69 - rfl hnx_69; (try simp only [put_nx, withH_nx, begP_nx] at hnx_69); simp -implicitDefEqProofs (disch := omega) only [go_sem, ht, eq_self]); (refine pCall_view (by simp -implicitDefEqProofs (disch := omega) only [go_sem, ht, eq_self] <;> rfl) (by simp -implicitDefEqProofs (disch := omega) only [go_sem, ht, eq_self]) (by first | (apply Or.inl; simp -implicitDefEqProofs (disch := omega) only [go_sem, ht, eq_self]; done) | (apply Or.inr; rintro r rfl; rfl)) (h2) ?_; rintro _ nx_70 - rfl hnx_70; (try simp only [put_nx, withH_nx, begP_nx] at hnx_70); simp -implicitDefEqProofs (disch := omega) only [go_sem, ht, eq_self]); (refine pCall_view (by simp -implicitDefEqProofs (disch := omega) only [go_sem, ht, eq_self] <;> rfl) (by simp -implicitDefEqProofs (disch := omega) only [go_sem, ht, eq_self]) (by first | (apply Or.inl; simp -implicitDefEqProofs (disch := omega) only [go_sem, ht, eq_self]; done) | (apply Or.inr; rintro r rfl; rfl)) (h3) ?_; rintro _ nx_71 - rfl hnx_71; (try simp only [put_nx, withH_nx, begP_nx] at hnx_71); simp -implicitDefEqProofs (disch := omega) only [go_sem, ht, eq_self]); (refine pCall_view (by simp -implicitDefEqProofs (disch := omega) only [go_sem, ht, eq_self] <;> rfl) (by simp -implicitDefEqProofs (disch := omega) only [go_sem, ht, eq_self]) (by first | (apply Or.inl; simp -implicitDefEqProofs (disch := omega) only [go_sem, ht, eq_self]; done) | (apply Or.inr; rintro r rfl; rfl)) (h4) ?_; rintro _ nx_72 - rfl hnx_72; (try simp only [put_nx, withH_nx, begP_nx] at hnx_72); simp -implicitDefEqProofs (disch := omega) only [go_sem, ht, eq_self]))
  (refine end_treeM 2 ?_; simp -implicitDefEqProofs (disch := omega) only [go_sem, ht, eq_self])
theorem r3div_zero (g : Fn d ys es 0 k) (hk : k ≤ 100000) : PT Try.prog 51 [FX b xs ds, FX d ys es] (isV (.tup [FZ, .val (.int .i64 20)])) := by
  have h1 := read_q g hk
  have h2 := sign_z (z := 0) ⟨Lm_D _, by rw [show (0 : Int).natAbs = 0 from rfl, D_zero]; simp⟩
  rw [cZ_eq rfl] at h2
  rw [show (0 : Rat).num = 0 from rfl, show (0 : Rat).den = 1 from rfl] at h1
  refine PCalls.enter (n := 29) (rs := [.cell 4 28, .tmp 5]) (tb := [(5, [(0, []), (1, []), (2, []), (3, []), (5, []), (6, []), (7, []), (8, []), (4, [5, 6, 7, 8]), (9, []), (10, []), (11, []), (12, []), (13, [])]), (1000005, [(0, []), (1, []), (0, []), (4, []), (15, []), (0, []), (32, []), (0, []), (128, []), (511, []), (1023, []), (2047, []), (4095, []), (8191, [])])]) Try.func51 rfl rfl rfl (by kernel_rfl) (by kernel_rfl) (by simp) fun c hc ht => ?_
  simp -implicitDefEqProofs (disch := omega) only [go_sem, ht, eq_self]
  ((refine pCall_view (by simp -implicitDefEqProofs (disch := omega) only [go_sem, ht, eq_self] <;> rfl) (by simp -implicitDefEqProofs (disch := omega) only [go_sem, ht, eq_self]) (by first | (apply Or.inl; simp -implicitDefEqProofs (disch := omega) only [go_sem, ht, eq_self]; done) | (apply Or.inr; rintro r rfl; rfl)) (h1) ?_; rintro _ nx_73 - rfl hnx_73; (try simp only [put_nx, withH_nx, begP_nx] at hnx_73); simp -implicitDefEqProofs (disch := omega) only [go_sem, ht, eq_self]); (refine pCall_view (by simp -implicitDefEqProofs (disch := omega) only [go_sem, ht, eq_self] <;> rfl) (by simp -implicitDefEqProofs (disch := omega) only [go_sem, ht, eq_self]) (by first | (apply Or.inl; simp -implicitDefEqProofs (disch := omega) only [go_sem, ht, eq_self]; done) | (apply Or.inr; rintro r rfl; rfl)) (h2) ?_; rintro _ nx_74 - rfl hnx_74; (try simp only [put_nx, withH_nx, begP_nx] at hnx_74); simp -implicitDefEqProofs (disch := omega) only [go_sem, ht, eq_self]))
  (refine end_treeM 2 ?_; simp -implicitDefEqProofs (disch := omega) only [go_sem, ht, eq_self])
theorem r3div (h : Fn b xs ds q k) (g : Fn d ys es p k) (hp : p ≠ 0) (hk : 3 * k ≤ 100000) : PT Try.prog 51 [FX b xs ds, FX d ys es] (isV (.tup [FC (q / p), .val (.int .i64 0)])) := by
  have h1 := read_q g (by omega)
  have h2 := sign_z (okZ g.zq.num (by omega))
  have hp0 : p.num ≠ 0 := fun h => hp (Rat.num_eq_zero.1 h)
  have hc : cZ p.num 0 ≠ 0 := by unfold cZ; split <;> (try split) <;> omega
  have h3 := read_q h (by omega)
  have m1 := mul_zn h.zq.num g.zq.den (by omega)
  have zqd : Z k (q.den : Int) := h.zq.den
  have m2 := nmul_z (okZ zqd (by omega)) (okZ g.zq.num (by omega)) (by have := lenZ zqd; have := lenZ g.zq.num; omega)
  have z1 := Zn q.num h.zq.num g.zq.den
  have z2 : Z (2 * k) ((q.den : Int) * p.num) := by rw [Nat.two_mul]; exact zqd.mul g.zq.num
  have hne : (q.den : Int) * p.num ≠ 0 := Int.mul_ne_zero (by have := q.den_nz; omega) hp0
  have hm := make_z z1 z2 (by omega) hne
  have zr : Zq (2 * k) (Rat.divInt (q.num * p.den) (q.den * p.num)) := by
    rw [← rat_over hne]
    refine .of (by have := h.hk1; omega) ?_ z2
    split
    · exact z1.neg
    · exact z1
  have er : Rat.divInt (q.num * p.den) (q.den * p.num) = q / p := by
    rw [Rat.div_def, Rat.inv_def, ← Rat.divInt_mul_divInt]
    congr 1
    exact (Rat.num_divInt_den q)
  rw [er] at hm zr
  have h4 := told_f zr (by omega)
  generalize q / p = r at *
  clear z1 z2 hne zqd
  generalize q.num * (p.den : Int) = z1 at *
  generalize (q.den : Int) * p.num = z2 at *
  generalize cZ p.num 0 = kc at *
  rw [NZ_nat_def] at m1 m2
  refine PCalls.enter (n := 29) (rs := [.cell 4 28, .tmp 5]) (tb := [(5, [(0, []), (1, []), (2, []), (3, []), (5, []), (6, []), (7, []), (8, []), (4, [5, 6, 7, 8]), (9, []), (10, []), (11, []), (12, []), (13, [])]), (1000005, [(0, []), (1, []), (0, []), (4, []), (15, []), (0, []), (32, []), (0, []), (128, []), (511, []), (1023, []), (2047, []), (4095, []), (8191, [])])]) Try.func51 rfl rfl rfl (by kernel_rfl) (by kernel_rfl) (by simp) fun c hc ht => ?_
  simp -implicitDefEqProofs (disch := omega) only [go_sem, ht, eq_self]
  ((refine pCall_view (by simp -implicitDefEqProofs (disch := omega) only [go_sem, ht, eq_self] <;> rfl) (by simp -implicitDefEqProofs (disch := omega) only [go_sem, ht, eq_self]) (by first | (apply Or.inl; simp -implicitDefEqProofs (disch := omega) only [go_sem, ht, eq_self]; done) | (apply Or.inr; rintro r rfl; rfl)) (h1) ?_; rintro _ nx_75 - rfl hnx_75; (try simp only [put_nx, withH_nx, begP_nx] at hnx_75); simp -implicitDefEqProofs (disch := omega) only [go_sem, ht, eq_self]); (refine pCall_view (by simp -implicitDefEqProofs (disch := omega) only [go_sem, ht, eq_self] <;> rfl) (by simp -implicitDefEqProofs (disch := omega) only [go_sem, ht, eq_self]) (by first | (apply Or.inl; simp -implicitDefEqProofs (disch := omega) only [go_sem, ht, eq_self]; done) | (apply Or.inr; rintro r rfl; rfl)) (h2) ?_; rintro _ nx_76 - rfl hnx_76; (try simp only [put_nx, withH_nx, begP_nx] at hnx_76); simp -implicitDefEqProofs (disch := omega) only [go_sem, ht, eq_self]); (refine pCall_view (by simp -implicitDefEqProofs (disch := omega) only [go_sem, ht, eq_self] <;> rfl) (by simp -implicitDefEqProofs (disch := omega) only [go_sem, ht, eq_self]) (by first | (apply Or.inl; simp -implicitDefEqProofs (disch := omega) only [go_sem, ht, eq_self]; done) | (apply Or.inr; rintro r rfl; rfl)) (h3) ?_; rintro _ nx_77 - rfl hnx_77; (try simp only [put_nx, withH_nx, begP_nx] at hnx_77); simp -implicitDefEqProofs (disch := omega) only [go_sem, ht, eq_self]); (refine pCall_view (by simp -implicitDefEqProofs (disch := omega) only [go_sem, ht, eq_self] <;> rfl) (by simp -implicitDefEqProofs (disch := omega) only [go_sem, ht, eq_self]) (by first | (apply Or.inl; simp -implicitDefEqProofs (disch := omega) only [go_sem, ht, eq_self]; done) | (apply Or.inr; rintro r rfl; rfl)) (m1) ?_; rintro _ nx_78 - rfl hnx_78; (try simp only [put_nx, withH_nx, begP_nx] at hnx_78); simp -implicitDefEqProofs (disch := omega) only [go_sem, ht, eq_self]); (refine pCall_view (by simp -implicitDefEqProofs (disch := omega) only [go_sem, ht, eq_self] <;> rfl) (by simp -implicitDefEqProofs (disch := omega) only [go_sem, ht, eq_self]) (by first | (apply Or.inl; simp -implicitDefEqProofs (disch := omega) only [go_sem, ht, eq_self]; done) | (apply Or.inr; rintro r rfl; rfl)) (m2) ?_; rintro _ nx_79 - rfl hnx_79; (try simp only [put_nx, withH_nx, begP_nx] at hnx_79); simp -implicitDefEqProofs (disch := omega) only [go_sem, ht, eq_self]); (refine pCall_view (by simp -implicitDefEqProofs (disch := omega) only [go_sem, ht, eq_self] <;> rfl) (by simp -implicitDefEqProofs (disch := omega) only [go_sem, ht, eq_self]) (by first | (apply Or.inl; simp -implicitDefEqProofs (disch := omega) only [go_sem, ht, eq_self]; done) | (apply Or.inr; rintro r rfl; rfl)) (hm) ?_; rintro _ nx_80 - rfl hnx_80; (try simp only [put_nx, withH_nx, begP_nx] at hnx_80); simp -implicitDefEqProofs (disch := omega) only [go_sem, ht, eq_self]); (refine pCall_view (by simp -implicitDefEqProofs (disch := omega) only [go_sem, ht, eq_self] <;> rfl) (by simp -implicitDefEqProofs (disch := omega) only [go_sem, ht, eq_self]) (by first | (apply Or.inl; simp -implicitDefEqProofs (disch := omega) only [go_sem, ht, eq_self]; done) | (apply Or.inr; rintro r rfl; rfl)) (h4) ?_; rintro _ nx_81 - rfl hnx_81; (try simp only [put_nx, withH_nx, begP_nx] at hnx_81); simp -implicitDefEqProofs (disch := omega) only [go_sem, ht, eq_self]))
  (refine end_treeM 2 ?_; simp -implicitDefEqProofs (disch := omega) only [go_sem, ht, eq_self])
theorem r3floor (h : Fn b xs ds q k) (hk : k ≤ 100000) : PT Try.prog 46 [FX b xs ds] (isV (WC (q.num / q.den))) := by
  have h1 := read_q h hk
  have zqd : Z k (q.den : Int) := h.zq.den
  have h2 := ndivmod_z h.zq.num zqd hk (by have := q.den_nz; omega)
  have h3 := told_z (h.zq.num.div (y := (q.den : Int))) (by omega)
  rw [NZ_nat_def] at h2
  generalize q.num / (q.den : Int) = s at *
  generalize q.num % (q.den : Int) = t at *
  refine PCalls.enter (n := 18) (rs := [.cell 2 24]) (tb := []) Try.func46 rfl rfl rfl (by kernel_rfl) (by kernel_rfl) (by simp) fun c hc ht => ?_
  simp -implicitDefEqProofs (disch := omega) only [go_sem, ht, eq_self]
  ((refine pCall_view (by simp -implicitDefEqProofs (disch := omega) only [go_sem, ht, eq_self] <;> rfl) (by simp -implicitDefEqProofs (disch := omega) only [go_sem, ht, eq_self]) (by first | (apply Or.inl; simp -implicitDefEqProofs (disch := omega) only [go_sem, ht, eq_self]; done) | (apply Or.inr; rintro r rfl; rfl)) (h1) ?_; rintro _ nx_82 - rfl hnx_82; (try simp only [put_nx, withH_nx, begP_nx] at hnx_82); simp -implicitDefEqProofs (disch := omega) only [go_sem, ht, eq_self]); (refine pCall_view (by simp -implicitDefEqProofs (disch := omega) only [go_sem, ht, eq_self] <;> rfl) (by simp -implicitDefEqProofs (disch := omega) only [go_sem, ht, eq_self]) (by first | (apply Or.inl; simp -implicitDefEqProofs (disch := omega) only [go_sem, ht, eq_self]; done) | (apply Or.inr; rintro r rfl; rfl)) (h2) ?_; rintro _ nx_83 - rfl hnx_83; (try simp only [put_nx, withH_nx, begP_nx] at hnx_83); simp -implicitDefEqProofs (disch := omega) only [go_sem, ht, eq_self]); (refine pCall_view (by simp -implicitDefEqProofs (disch := omega) only [go_sem, ht, eq_self] <;> rfl) (by simp -implicitDefEqProofs (disch := omega) only [go_sem, ht, eq_self]) (by first | (apply Or.inl; simp -implicitDefEqProofs (disch := omega) only [go_sem, ht, eq_self]; done) | (apply Or.inr; rintro r rfl; rfl)) (h3) ?_; rintro _ nx_84 - rfl hnx_84; (try simp only [put_nx, withH_nx, begP_nx] at hnx_84); simp -implicitDefEqProofs (disch := omega) only [go_sem, ht, eq_self]))
  (refine end_treeM 2 ?_; simp -implicitDefEqProofs (disch := omega) only [go_sem, ht, eq_self])
theorem r3whole (h : Fn b xs ds q k) (hk : k ≤ 100000) : PT Try.prog 41 [FX b xs ds] (isV (.tup [WC (if q.den = 1 then q.num else 0), .val (.bool (decide (q.den = 1)))])) := by
  have h1 := read_q h hk
  have zqd : Z k (q.den : Int) := h.zq.den
  have z1 : Z k ((1 : Nat) : Int) := one_lt_pow h.hk1
  have h2 := int_z (v := 1) (by omega) (by omega)
  have h3 := ncmp_z (okZ zqd (by omega)) (okZ z1 (by omega))
  have h4 := told_z h.zq.num (by omega)
  rw [show ((1 : Int)) = ((1 : Nat) : Int) from rfl, NZ_nat_def] at h2
  by_cases hd : q.den = 1
  · rw [hd, cZ_eq rfl, NZ_nat_def] at h3
    rw [if_pos hd, decide_eq_true hd]
    rw [hd] at h1
    generalize q.num = s at *
    refine PCalls.enter (n := 16) (rs := [.cell 2 24, .tmp 3]) (tb := [(2, [(0, []), (1, []), (2, [0, 1]), (3, []), (4, [])])]) Try.func41 rfl rfl rfl (by kernel_rfl) (by kernel_rfl) (by simp) fun c hc ht => ?_
    simp -implicitDefEqProofs (disch := omega) only [go_sem, ht, eq_self]
    ((refine pCall_view (by simp -implicitDefEqProofs (disch := omega) only [go_sem, ht, eq_self] <;> rfl) (by simp -implicitDefEqProofs (disch := omega) only [go_sem, ht, eq_self]) (by first | (apply Or.inl; simp -implicitDefEqProofs (disch := omega) only [go_sem, ht, eq_self]; done) | (apply Or.inr; rintro r rfl; rfl)) (h1) ?_; rintro _ nx_85 - rfl hnx_85; (try simp only [put_nx, withH_nx, begP_nx] at hnx_85); simp -implicitDefEqProofs (disch := omega) only [go_sem, ht, eq_self]); (refine pCall_view (by simp -implicitDefEqProofs (disch := omega) only [go_sem, ht, eq_self] <;> rfl) (by simp -implicitDefEqProofs (disch := omega) only [go_sem, ht, eq_self]) (by first | (apply Or.inl; simp -implicitDefEqProofs (disch := omega) only [go_sem, ht, eq_self]; done) | (apply Or.inr; rintro r rfl; rfl)) (h2) ?_; rintro _ nx_86 - rfl hnx_86; (try simp only [put_nx, withH_nx, begP_nx] at hnx_86); simp -implicitDefEqProofs (disch := omega) only [go_sem, ht, eq_self]); (refine pCall_view (by simp -implicitDefEqProofs (disch := omega) only [go_sem, ht, eq_self] <;> rfl) (by simp -implicitDefEqProofs (disch := omega) only [go_sem, ht, eq_self]) (by first | (apply Or.inl; simp -implicitDefEqProofs (disch := omega) only [go_sem, ht, eq_self]; done) | (apply Or.inr; rintro r rfl; rfl)) (h3) ?_; rintro _ nx_87 - rfl hnx_87; (try simp only [put_nx, withH_nx, begP_nx] at hnx_87); simp -implicitDefEqProofs (disch := omega) only [go_sem, ht, eq_self]); (refine pCall_view (by simp -implicitDefEqProofs (disch := omega) only [go_sem, ht, eq_self] <;> rfl) (by simp -implicitDefEqProofs (disch := omega) only [go_sem, ht, eq_self]) (by first | (apply Or.inl; simp -implicitDefEqProofs (disch := omega) only [go_sem, ht, eq_self]; done) | (apply Or.inr; rintro r rfl; rfl)) (h4) ?_; rintro _ nx_88 - rfl hnx_88; (try simp only [put_nx, withH_nx, begP_nx] at hnx_88); simp -implicitDefEqProofs (disch := omega) only [go_sem, ht, eq_self]))
    (refine end_treeM 2 ?_; simp -implicitDefEqProofs (disch := omega) only [go_sem, ht, eq_self])
  · have hc : cZ (q.den : Int) ((1 : Nat) : Int) ≠ 0 := by unfold cZ; split <;> (try split) <;> omega
    generalize cZ (q.den : Int) ((1 : Nat) : Int) = kc at *
    rw [NZ_nat_def, NZ_nat_def] at h3
    rw [if_neg hd, decide_eq_false hd, WC0]
    refine PCalls.enter (n := 16) (rs := [.cell 2 24, .tmp 3]) (tb := [(2, [(0, []), (1, []), (2, [0, 1]), (3, []), (4, [])])]) Try.func41 rfl rfl rfl (by kernel_rfl) (by kernel_rfl) (by simp) fun c hc ht => ?_
    simp -implicitDefEqProofs (disch := omega) only [go_sem, ht, eq_self]
    ((refine pCall_view (by simp -implicitDefEqProofs (disch := omega) only [go_sem, ht, eq_self] <;> rfl) (by simp -implicitDefEqProofs (disch := omega) only [go_sem, ht, eq_self]) (by first | (apply Or.inl; simp -implicitDefEqProofs (disch := omega) only [go_sem, ht, eq_self]; done) | (apply Or.inr; rintro r rfl; rfl)) (h1) ?_; rintro _ nx_89 - rfl hnx_89; (try simp only [put_nx, withH_nx, begP_nx] at hnx_89); simp -implicitDefEqProofs (disch := omega) only [go_sem, ht, eq_self]); (refine pCall_view (by simp -implicitDefEqProofs (disch := omega) only [go_sem, ht, eq_self] <;> rfl) (by simp -implicitDefEqProofs (disch := omega) only [go_sem, ht, eq_self]) (by first | (apply Or.inl; simp -implicitDefEqProofs (disch := omega) only [go_sem, ht, eq_self]; done) | (apply Or.inr; rintro r rfl; rfl)) (h2) ?_; rintro _ nx_90 - rfl hnx_90; (try simp only [put_nx, withH_nx, begP_nx] at hnx_90); simp -implicitDefEqProofs (disch := omega) only [go_sem, ht, eq_self]); (refine pCall_view (by simp -implicitDefEqProofs (disch := omega) only [go_sem, ht, eq_self] <;> rfl) (by simp -implicitDefEqProofs (disch := omega) only [go_sem, ht, eq_self]) (by first | (apply Or.inl; simp -implicitDefEqProofs (disch := omega) only [go_sem, ht, eq_self]; done) | (apply Or.inr; rintro r rfl; rfl)) (h3) ?_; rintro _ nx_91 - rfl hnx_91; (try simp only [put_nx, withH_nx, begP_nx] at hnx_91); simp -implicitDefEqProofs (disch := omega) only [go_sem, ht, eq_self]))
    (refine end_treeM 2 ?_; simp -implicitDefEqProofs (disch := omega) only [go_sem, ht, eq_self])
end
end Go.Proofs.Ytgebemjmckgomaa.Ref
