/- Part 38 of the way to the statement: the walk and what it needs. -/
import Derived.Test.YtfjdfnlkobeehaaKInF26
import Derived.Test.YtfjdfnlkobeehaaKInF31
import Derived.Test.YtfjdfnlkobeehaaKInF37
import Derived.Laws.RangeAny
section
set_option maxRecDepth 100000
set_option linter.unusedVariables false
set_option linter.unusedSimpArgs false
namespace Go.Proofs.Ytfjdfnlkobeehaa



end Go.Proofs.Ytfjdfnlkobeehaa

namespace Go.Proofs.Ytfjdfnlkobeehaa

end Go.Proofs.Ytfjdfnlkobeehaa
end

section
set_option maxRecDepth 100000
set_option linter.unusedVariables false
set_option linter.unusedSimpArgs false
namespace Go.Proofs.Ytfjdfnlkobeehaa


def FX (b : Bool) (xs ds : List Nat) : PV := .agg [.val (.bool b), SU xs, SU ds]
theorem FX_def (b : Bool) (xs ds : List Nat) : FX b xs ds = .agg [.val (.bool b), SU xs, SU ds] := rfl

def FC (q : Rat) : PV := FX (decide (q.num < 0)) (D q.num.natAbs) (D q.den)
theorem FC_def (q : Rat) : FC q = .agg [.val (.bool (decide (q.num < 0))), SU (D q.num.natAbs), SU (D q.den)] := rfl
section
variable {α : Type} (a b c x y z : α)
theorem spl_333 : spl [a, b, c] 0 [x, y, z] = [x, y, z] := rfl
theorem spl_302 : spl [a, b, c] 0 [x, y] = [x, y, c] := rfl
theorem take_33 : [a, b, c].take 3 = [a, b, c] := rfl
theorem drop_32 : [a, b, c].drop 2 = [c] := rfl
theorem drop_31 : [a, b, c].drop 1 = [b, c] := rfl
theorem take_31 : [a, b, c].take 1 = [a] := rfl
end
attribute [go_sem] FX_def FC_def spl_333 spl_302 take_33 drop_32 drop_31 take_31
theorem size_calls {ds : List Nat} : PT Try.prog 85 [SU ds] (isV (WX false ds)) := by
  refine PCalls.enter (n := 5) (rs := [.cell 2 30]) (tb := []) Try.func85 rfl rfl rfl (by kernel_rfl) (by kernel_rfl) (by simp) fun c hc ht => ?_
  simp -implicitDefEqProofs (disch := omega) only [go_sem, ht]
  (refine end_treeW 0 ?_; simp -implicitDefEqProofs (disch := omega) only [go_sem, ht])
end Go.Proofs.Ytfjdfnlkobeehaa

namespace Go.Proofs.Ytfjdfnlkobeehaa


end Go.Proofs.Ytfjdfnlkobeehaa

namespace Go.Proofs.Ytfjdfnlkobeehaa


end Go.Proofs.Ytfjdfnlkobeehaa
end

section
set_option maxRecDepth 100000
set_option linter.unusedVariables false
set_option linter.unusedSimpArgs false
namespace Go.Proofs.Ytfjdfnlkobeehaa


def FZ : PV := .agg [.val (.bool false), .sl 0 [], .sl 0 []]
theorem FZ_def : FZ = .agg [.val (.bool false), .sl 0 [], .sl 0 []] := rfl
attribute [go_sem] FZ_def
end Go.Proofs.Ytfjdfnlkobeehaa

namespace Go.Proofs.Ytfjdfnlkobeehaa

end Go.Proofs.Ytfjdfnlkobeehaa
end

section
set_option maxRecDepth 100000
set_option linter.unusedVariables false
set_option linter.unusedSimpArgs false
namespace Go.Proofs.Ytfjdfnlkobeehaa.Ref


def QZ (p : Int) (d : Nat) : PV := .agg [.val (.bool (decide (p < 0))), .sl (D p.natAbs).length ((D p.natAbs).map I), .val (.bool false), .sl (D d).length ((D d).map I)]
theorem QZ_def (p : Int) (d : Nat) : QZ p d = .agg [.val (.bool (decide (p < 0))), .sl (D p.natAbs).length ((D p.natAbs).map I), .val (.bool false), .sl (D d).length ((D d).map I)] := rfl
attribute [go_sem] QZ_def
section
variable {α : Type} (a b c d w x y z : α)
theorem spl_404 : spl [a, b, c, d] 0 [w, x, y, z] = [w, x, y, z] := rfl
theorem spl_402 : spl [a, b, c, d] 0 [x, y] = [x, y, c, d] := rfl
theorem spl_422 : spl [a, b, c, d] 2 [x, y] = [a, b, x, y] := rfl
theorem take_44 : [a, b, c, d].take 4 = [a, b, c, d] := rfl
theorem take_42 : [a, b, c, d].take 2 = [a, b] := rfl
theorem drop_42 : [a, b, c, d].drop 2 = [c, d] := rfl
end
attribute [go_sem] spl_404 spl_402 spl_422 take_44 take_42 drop_42
theorem NZ_nat_def (n : Nat) : NZ (n : Int) = .agg [.val (.bool false), .sl (D n).length ((D n).map I)] := by
  rw [← NZ_nat, NP_def]
section
variable {b d : Bool} {xs ys ds es : List Nat} {x y : Int} {k m g : Nat} {q p : Rat}

theorem over_z (hx : Z k x) (hg : g < 4294967296 ^ k) (hk : k ≤ 100000) (h0 : g ≠ 0) : PT Try.prog 121 [NZ x, NZ g] (isV (NZ (sg (decide (x < 0)) (x.natAbs / g)))) := by
  have zg : Z k (g : Int) := hg
  have hd := divided_z (a := x) (b := (g : Int)) (okZ hx (by omega)) (okZ zg (by omega)) (by omega) (by have := lenZ zg; omega)
  rw [show ((g : Nat) : Int).natAbs = g from rfl] at hd
  have zq : Z k ((x.natAbs / g : Nat) : Int) := Nat.lt_of_le_of_lt (Nat.div_le_self _ _) hx
  have hm := minus_z (okZ zq (by omega))
  by_cases hs : x < 0
  · rw [decide_eq_true hs, sg_t]
    generalize -((x.natAbs / g : Nat) : Int) = q2 at *
    generalize ((x.natAbs / g : Nat) : Int) = q1 at *
    rw [NZ_nat_def] at hd ⊢
    rw [NZ_def x, decide_eq_true hs] at hd ⊢
    refine PCalls.enter (n := 21) (rs := [.cell 4 103]) (tb := []) Try.func121 rfl rfl rfl (by kernel_rfl) (by kernel_rfl) (by simp) fun c hc ht => ?_
    simp -implicitDefEqProofs (disch := omega) only [go_sem, ht]
    ((refine pCall_vw (by refine ⟨⟨?_, ?_⟩, ?_, ?_⟩; rotate_left 2; (first | (right; rintro r rfl; rfl) | left); all_goals ((try simp -implicitDefEqProofs (disch := omega) only [go_sem, ht]) <;> rfl)) (hd) ?_; rintro _ nx_1 - rfl hnx_1; simp -implicitDefEqProofs (disch := omega) only [go_sem, ht]); (refine pCall_vw (by refine ⟨⟨?_, ?_⟩, ?_, ?_⟩; rotate_left 2; (first | (right; rintro r rfl; rfl) | left); all_goals ((try simp -implicitDefEqProofs (disch := omega) only [go_sem, ht]) <;> rfl)) (hm) ?_; rintro _ nx_2 - rfl hnx_2; simp -implicitDefEqProofs (disch := omega) only [go_sem, ht]))
    (refine end_treeM 2 ?_; simp -implicitDefEqProofs (disch := omega) only [go_sem, ht])
  · rw [decide_eq_false hs, sg_f]
    generalize ((x.natAbs / g : Nat) : Int) = q1 at *
    rw [NZ_nat_def] at hd ⊢
    rw [NZ_def x, decide_eq_false hs] at hd ⊢
    refine PCalls.enter (n := 21) (rs := [.cell 4 103]) (tb := []) Try.func121 rfl rfl rfl (by kernel_rfl) (by kernel_rfl) (by simp) fun c hc ht => ?_
    simp -implicitDefEqProofs (disch := omega) only [go_sem, ht]
    ((refine pCall_vw (by refine ⟨⟨?_, ?_⟩, ?_, ?_⟩; rotate_left 2; (first | (right; rintro r rfl; rfl) | left); all_goals ((try simp -implicitDefEqProofs (disch := omega) only [go_sem, ht]) <;> rfl)) (hd) ?_; rintro _ nx_3 - rfl hnx_3; simp -implicitDefEqProofs (disch := omega) only [go_sem, ht]))
    (refine end_treeM 2 ?_; simp -implicitDefEqProofs (disch := omega) only [go_sem, ht])


end
end Go.Proofs.Ytfjdfnlkobeehaa.Ref

namespace Go.Proofs.Ytfjdfnlkobeehaa.Ref

end Go.Proofs.Ytfjdfnlkobeehaa.Ref

namespace Go.Proofs.Ytfjdfnlkobeehaa.Ref

end Go.Proofs.Ytfjdfnlkobeehaa.Ref
end
