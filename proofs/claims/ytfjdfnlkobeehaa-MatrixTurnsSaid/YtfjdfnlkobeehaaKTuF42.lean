/- Part 42 of the way to the statement: the walk and what it needs. -/
import Derived.Test.YtfjdfnlkobeehaaKTuF27
import Derived.Test.YtfjdfnlkobeehaaKTuF32
import Derived.Test.YtfjdfnlkobeehaaKTuF38
import Derived.Test.YtfjdfnlkobeehaaKTuF39
import Derived.Test.YtfjdfnlkobeehaaKTuF40
import Derived.Test.YtfjdfnlkobeehaaKTuF41
import Derived.Laws.RangeAny
section
set_option maxRecDepth 100000
set_option linter.unusedVariables false
set_option linter.unusedSimpArgs false
namespace Go.Proofs.Ytfjdfnlkobeehaa



end Go.Proofs.Ytfjdfnlkobeehaa

namespace Go.Proofs.Ytfjdfnlkobeehaa

end Go.Proofs.Ytfjdfnlkobeehaa
end

section
set_option maxRecDepth 100000
set_option linter.unusedVariables false
set_option linter.unusedSimpArgs false
namespace Go.Proofs.Ytfjdfnlkobeehaa


def FX (b : Bool) (xs ds : List Nat) : PV := .agg [.val (.bool b), SU xs, SU ds]
theorem FX_def (b : Bool) (xs ds : List Nat) : FX b xs ds = .agg [.val (.bool b), SU xs, SU ds] := rfl

def FC (q : Rat) : PV := FX (decide (q.num < 0)) (D q.num.natAbs) (D q.den)
theorem FC_def (q : Rat) : FC q = .agg [.val (.bool (decide (q.num < 0))), SU (D q.num.natAbs), SU (D q.den)] := rfl
section
variable {α : Type} (a b c x y z : α)
theorem spl_333 : spl [a, b, c] 0 [x, y, z] = [x, y, z] := rfl
theorem spl_302 : spl [a, b, c] 0 [x, y] = [x, y, c] := rfl
theorem take_33 : [a, b, c].take 3 = [a, b, c] := rfl
theorem drop_32 : [a, b, c].drop 2 = [c] := rfl
theorem drop_31 : [a, b, c].drop 1 = [b, c] := rfl
theorem take_31 : [a, b, c].take 1 = [a] := rfl
end
attribute [go_sem] FX_def FC_def spl_333 spl_302 take_33 drop_32 drop_31 take_31
end Go.Proofs.Ytfjdfnlkobeehaa

namespace Go.Proofs.Ytfjdfnlkobeehaa


end Go.Proofs.Ytfjdfnlkobeehaa

namespace Go.Proofs.Ytfjdfnlkobeehaa


end Go.Proofs.Ytfjdfnlkobeehaa
end

section
set_option maxRecDepth 100000
set_option linter.unusedVariables false
set_option linter.unusedSimpArgs false
namespace Go.Proofs.Ytfjdfnlkobeehaa


def FZ : PV := .agg [.val (.bool false), .sl 0 [], .sl 0 []]
theorem FZ_def : FZ = .agg [.val (.bool false), .sl 0 [], .sl 0 []] := rfl
attribute [go_sem] FZ_def
end Go.Proofs.Ytfjdfnlkobeehaa

namespace Go.Proofs.Ytfjdfnlkobeehaa

end Go.Proofs.Ytfjdfnlkobeehaa
end

section
set_option maxRecDepth 100000
set_option linter.unusedVariables false
set_option linter.unusedSimpArgs false
namespace Go.Proofs.Ytfjdfnlkobeehaa.Ref


def QZ (p : Int) (d : Nat) : PV := .agg [.val (.bool (decide (p < 0))), .sl (D p.natAbs).length ((D p.natAbs).map I), .val (.bool false), .sl (D d).length ((D d).map I)]
theorem QZ_def (p : Int) (d : Nat) : QZ p d = .agg [.val (.bool (decide (p < 0))), .sl (D p.natAbs).length ((D p.natAbs).map I), .val (.bool false), .sl (D d).length ((D d).map I)] := rfl
attribute [go_sem] QZ_def
section
variable {α : Type} (a b c d w x y z : α)
theorem spl_404 : spl [a, b, c, d] 0 [w, x, y, z] = [w, x, y, z] := rfl
theorem spl_402 : spl [a, b, c, d] 0 [x, y] = [x, y, c, d] := rfl
theorem spl_422 : spl [a, b, c, d] 2 [x, y] = [a, b, x, y] := rfl
theorem take_44 : [a, b, c, d].take 4 = [a, b, c, d] := rfl
theorem take_42 : [a, b, c, d].take 2 = [a, b] := rfl
theorem drop_42 : [a, b, c, d].drop 2 = [c, d] := rfl
end
attribute [go_sem] spl_404 spl_402 spl_422 take_44 take_42 drop_42
end Go.Proofs.Ytfjdfnlkobeehaa.Ref

namespace Go.Proofs.Ytfjdfnlkobeehaa.Ref

end Go.Proofs.Ytfjdfnlkobeehaa.Ref

namespace Go.Proofs.Ytfjdfnlkobeehaa.Ref

end Go.Proofs.Ytfjdfnlkobeehaa.Ref
end

section
set_option maxRecDepth 100000
set_option linter.unusedVariables false
set_option linter.unusedSimpArgs false
namespace Go.Proofs.Ytfjdfnlkobeehaa


namespace Ref
open Ytfjdfnlkobeehaa (SWc SW WX WC WV vals SM Rn vc canZ combZ primZ upZ gcdL gcdF sgF SW_def cZ)


def SNc (zs : List Int) : List PV := zs.flatMap fun z => [.val (.bool (decide (z < 0))), SI (D z.natAbs)]
def SN (zs : List Int) : PV := .sl zs.length (SNc zs)
theorem SN_def (zs : List Int) : SN zs = .sl zs.length (SNc zs) := rfl
theorem SNc_cons (z : Int) (zs : List Int) : SNc (z :: zs) = .val (.bool (decide (z < 0))) :: SI (D z.natAbs) :: SNc zs := rfl
theorem SNc_flat (zs : List Int) : flatL (SNc zs) = true := by
  induction zs with
  | nil => rfl
  | cons z zs ih => rw [SNc_cons]; simp only [flatL, flat_SI, ih, Ytfjdfnlkobeehaa.flat_val, Bool.and_self]
theorem frzL_SNc (D : Nat → Bool) (H : Nat → Option (List PV)) (d : Nat) (zs : List Int) : (SNc zs).mapM (Ytfjdfnlkobeehaa.frz D H d) = some (SNc zs) := Ytfjdfnlkobeehaa.frzL_flat D H d (SNc_flat zs)
attribute [go_sem] SN_def SNc_flat frzL_SNc
end Ref
end Go.Proofs.Ytfjdfnlkobeehaa
end

section
set_option maxRecDepth 100000
set_option linter.unusedVariables false
set_option linter.unusedSimpArgs false
namespace Go.Proofs.Ytfjdfnlkobeehaa.Ref
open Ytfjdfnlkobeehaa (SWc SW WX WC WV vals vals_len SM lenM Rn vc vc_lt canZ canZ_len combZ combZ_len combZ_take primZ upZ upZ_len SW_def SM_def cZ get_SM' getD_take getD_mem insR insB zeroB getD_vals wrongM)

end Go.Proofs.Ytfjdfnlkobeehaa.Ref
namespace Go.Proofs.Ytfjdfnlkobeehaa
theorem mapM_app' {α β : Type} {f : α → Option β} : ∀ {l m : List α} {a b : List β}, l.mapM f = some a → m.mapM f = some b → (l ++ m).mapM f = some (a ++ b)
  | [], m, a, b, h, h' => by
    obtain rfl : a = [] := by simpa using h.symm
    exact h'
  | x :: l, m, a, b, h, h' => by
    rw [mapMo_cons] at h
    cases hf : f x with
    | none => rw [hf] at h; simp at h
    | some y =>
      cases hg : l.mapM f with
      | none => rw [hf, hg] at h; simp at h
      | some ys =>
        rw [hf, hg] at h
        have e : y :: ys = a := by simpa using h
        subst e
        rw [List.cons_append, mapMo_cons, hf, mapM_app' hg h']; rfl

end Go.Proofs.Ytfjdfnlkobeehaa
namespace Go.Proofs.Ytfjdfnlkobeehaa.Ref
open Ytfjdfnlkobeehaa (SWc SW WX WC WV vals vals_len SM lenM Rn vc vc_lt canZ canZ_len combZ combZ_len combZ_take primZ upZ upZ_len SW_def SM_def cZ get_SM' getD_take getD_mem insR insB zeroB getD_vals wrongM)

def SNM (W : List (List Int)) : PV := .sl W.length (W.map SN)
theorem SNM_def (W : List (List Int)) : SNM W = .sl W.length (W.map SN) := rfl
theorem SNM_flat (W : List (List Int)) : flatL (W.map SN) = true := by
  induction W with
  | nil => rfl
  | cons l m ih => simp only [List.map_cons, flatL, SN_def, flat, SNc_flat, ih, Bool.and_self]
theorem get_SNM {W : List (List Int)} {i : Nat} (r : List PV) (h : i < W.length) : (W.map SN ++ r)[i]? = some (SN (W.getD i [])) := by
  rw [List.getElem?_append_left (by simpa using h)]
  simp [h]
attribute [go_sem] SNM_def SNM_flat get_SNM
end Go.Proofs.Ytfjdfnlkobeehaa.Ref
end

section
set_option maxRecDepth 100000
set_option linter.unusedVariables false
set_option linter.unusedSimpArgs false
namespace Go.Proofs.Ytfjdfnlkobeehaa

theorem and_int (x : Int) : ∃ q : Nat, bitsV .and .i64 x 4611686018427387903 = some (.int .i64 (q : Nat)) ∧ q < 4611686018427387904 := by
  have h : (BitVec.ofInt 64 x &&& BitVec.ofInt 64 4611686018427387903).toNat ≤ 4611686018427387903 := by
    rw [BitVec.toNat_and]
    exact Nat.le_trans Nat.and_le_right (by decide)
  have e : bitsV .and .i64 x 4611686018427387903 = some (.int .i64 (IntKind.i64.wrap ((BitVec.ofInt 64 x &&& BitVec.ofInt 64 4611686018427387903).toNat : Nat))) := rfl
  rw [e]
  generalize (BitVec.ofInt 64 x &&& BitVec.ofInt 64 4611686018427387903).toNat = q at *
  refine ⟨q, ?_, by omega⟩
  rw [wrap_of_range rfl]
  simp only [IntKind.min, IntKind.max, IntKind.signed, IntKind.bits, if_true]
  omega
theorem rem_int {P : Program} (t : TypeId) (x : Int) : binP P .rem t (.val (.int .i64 x)) (.val (.int .i64 1000)) = some (.val (.int .i64 (x.tmod 1000))) := by simp [binP, binV, binI]
theorem dropH_at (D : Nat → Bool) (H : Nat → Option (List PV)) (i : Nat) : dropH D H i = if D i = true then none else H i := rfl
theorem CZ_next {z : List Int} {q : Nat} (h : q < z.length) : SWc (CZ (z.take q)) ++ [.val (.bool (decide (vc z q < 0))), .sl (D (vc z q).natAbs).length ((D (vc z q).natAbs).map U)] = SWc (CZ (z.take (q + 1))) := by
  rw [List.take_succ_eq_append_getElem h, CZ_app, SWc_app, vc_lt h]; rfl
theorem spl_one {l r : List PV} {i : Nat} (x : PV) (h : i < l.length) : spl (l ++ r) i [x] = l.set i x ++ r := by
  rw [spl_app (by simp; omega)]
  unfold spl
  rw [List.set_eq_take_append_cons_drop, if_pos h]; rfl
theorem set_get {l r : List PV} {i : Nat} (x : PV) (h : i < l.length) : (l.set i x ++ r)[i]? = some x := by
  rw [List.getElem?_append_left (by simpa using h)]; simp [h]
theorem spl_two' {l r : List PV} {i : Nat} (x y : PV) (h : i < l.length) : spl (l.set i x ++ r) i [y] = l.set i y ++ r := by
  rw [spl_one y (by simpa using h), List.set_set]
section
variable {m : List (List (Bool × List Nat))}
theorem SM_set {i : Nat} (x : PV) (h : i < m.length) : (m.map SW).set i x = (m.take i).map SW ++ x :: (m.drop (i + 1)).map SW := by
  rw [List.set_eq_take_append_cons_drop, if_pos (by simpa using h), List.map_take, List.map_drop]
theorem frz_SMset {i id n cap : Nat} {l : List (Bool × List Nat)} {H : Nat → Option (List PV)} {r : List Value} {D : Nat → Bool} {rest : List Value} (h : i < m.length) (hD : D id = true) (hH : H id = some (SWc l ++ r.map .val)) (hl : l.length = n) :
    ((m.map SW).set i (.ref id 0 n cap 2) ++ rest.map PV.val).mapM (Ytfjdfnlkobeehaa.frz D H 1) = some ((m.set i l).map SW ++ rest.map PV.val) := by
  have e : (m.set i l).map SW = (m.map SW).set i (SW l) := List.map_set
  rw [e, SM_set _ h, SM_set _ h]
  refine mapM_app' (mapM_app' (frzL_flat _ _ _ (SM_flat _)) ?_) (frzL_flat _ _ _ (flatL_val _))
  have hr : Ytfjdfnlkobeehaa.frz D H 1 (.ref id 0 n cap 2) = some (SW l) := by
    rw [frz_ref, if_pos hD, hH, Option.bind_some, if_pos (by rw [List.length_append, SWc_len]; omega), List.drop_zero, take_SWc l _ hl.symm, frzL_flat _ _ 0 (SWc_flat l)]
    rw [SW_def, hl]; rfl
  rw [mapMo_cons, hr, frzL_flat _ _ _ (SM_flat _)]
  rfl
set_option maxHeartbeats 32000000 in
theorem turns_big {bn wn : Int} (hm : ∀ l ∈ m, ∀ p ∈ l, Lm p.2) (lo : -9223372036854775808 ≤ bn) (hi : bn ≤ 9223372036854775807) (lo2 : -9223372036854775808 ≤ wn) (hi2 : wn ≤ 9223372036854775807) (hl : ¬ 1500 < lenM m) (hw' : wrongM m m.length = false) (h8 : ¬ 8 < m.length) (h32 : 32 < (D (detZ (m.map vals) m.length).natAbs).length) :
    PT Try.prog 7 [SM m, .val (.int .i64 bn), .val (.int .i64 wn)] (isV (.val (.bool true))) := by
  have hlr := len_rows (m := m) (by omega)
  have hml := lenM_len m
  have hMx : Mx m 1500 := ⟨hm, by omega, by omega⟩
  have hft := fits_calls (m := m) (cn := m.length) (by omega)
  rw [hw', Bool.not_false] at hft
  obtain ⟨k, ek, hn32, hm64, hlc⟩ := wrongM_false hw'
  obtain rfl : m.length = k := by omega
  have hWl : (m.map vals).length = m.length := by simp
  have hWc : ∀ z ∈ m.map vals, z.length = m.length := fun z hz => by
    obtain ⟨l, hl, rfl⟩ := List.mem_map.1 hz
    rw [vals_len]; exact hlc l hl
  have hd := mdet_calls hMx (cn := m.length)
  have hr := mrank_calls hMx (cn := m.length)
  have e1 : mDet m m.length = if 32 < (D (detZ (m.map vals) m.length).natAbs).length then (0, 2) else (detZ (m.map vals) m.length, 0) := by unfold mDet; rw [hw', Int.toNat_natCast]; simp
  have e2 : mRank m m.length = (((echW (m.map vals) m.length).2.length : Int), 0) := by unfold mRank; rw [hw', Int.toNat_natCast]; rfl
  rw [e1] at hd
  rw [e2] at hr
  have hdr := det_rank hWl hWc
  have hrle := ech_le hWl hWc
  clear e1 e2
  have hd0 : detZ (m.map vals) m.length ≠ 0 := fun e => by rw [e, show Int.natAbs 0 = 0 from rfl, D_zero] at h32; simp at h32
  have hrk : (echW (m.map vals) m.length).2.length = m.length := by
    have := fun h => hd0 (hdr.2 h)
    omega
  rw [hrk] at hr
  rw [if_pos h32] at hd
  have hs := signW (Wn.C (Z.zero 1) (by omega))
  rw [cZ_eq rfl] at hs
  refine PCalls.enter (n := 247) (rs := [.tmp 6]) (tb := [(15, [(0, []), (1, []), (2, []), (3, []), (4, [3]), (5, []), (6, []), (7, []), (8, []), (9, []), (10, []), (11, []), (12, []), (13, []), (14, []), (15, []), (16, []), (17, [11]), (18, []), (19, []), (20, []), (21, [])]), (1000015, [(0, []), (1, []), (3, []), (7, []), (7, []), (31, []), (63, []), (127, []), (255, []), (511, []), (1023, []), (2047, []), (2047, []), (6143, []), (14335, []), (30719, []), (63487, []), (129023, []), (262143, []), (524287, []), (1048575, []), (2097151, [])]), (29, [(0, []), (1, []), (2, []), (3, []), (4, []), (5, []), (6, []), (7, []), (8, []), (9, []), (10, []), (11, []), (12, []), (13, []), (14, [0, 1, 2, 3, 4, 5]), (15, [0, 1, 2, 3, 4, 5]), (16, [0, 1]), (17, []), (18, [])]), (1000029, [(0, []), (0, []), (0, []), (0, []), (12, []), (28, []), (0, []), (0, []), (192, []), (448, []), (0, []), (1984, []), (4032, []), (0, []), (16320, []), (32704, []), (65532, []), (131071, []), (262143, [])]), (30, [(0, []), (1, []), (2, []), (3, []), (4, []), (5, []), (6, []), (7, []), (8, []), (9, []), (10, []), (11, []), (12, []), (13, []), (14, []), (15, []), (16, []), (17, []), (18, []), (19, []), (20, []), (21, [0, 1, 2, 3, 4, 5, 6, 7, 8, 9, 10, 11, 12]), (22, [0, 1, 2, 3, 4, 5]), (23, [0, 1, 2, 3, 4, 5]), (24, [0, 1]), (25, []), (26, [])]), (1000030, [(0, []), (0, []), (0, []), (0, []), (12, []), (28, []), (0, []), (0, []), (192, []), (448, []), (0, []), (1984, []), (4032, []), (0, []), (0, []), (0, []), (49152, []), (114688, []), (0, []), (507904, []), (1032192, []), (2088960, []), (4194240, []), (8388544, []), (16777212, []), (33554431, []), (67108863, [])]), (35, [(0, []), (1, []), (2, []), (3, []), (4, []), (5, [3]), (6, []), (7, []), (8, []), (9, []), (10, []), (11, []), (12, []), (13, []), (14, []), (15, []), (16, []), (17, []), (18, []), (19, []), (20, []), (21, []), (22, []), (23, []), (24, []), (25, []), (26, []), (27, []), (28, []), (29, []), (30, []), (31, []), (32, []), (33, []), (34, []), (35, [])]), (1000035, [(0, []), (1, []), (3, []), (7, []), (7, []), (23, []), (63, []), (127, []), (255, []), (511, []), (1023, []), (2047, []), (4095, []), (8191, []), (8191, []), (32767, []), (65535, []), (131071, []), (262143, []), (524287, []), (1048575, []), (2097151, []), (2097151, []), (8388607, []), (16777215, []), (33554431, []), (67108863, []), (134217727, []), (268435455, []), (536870911, []), (1073741823, []), (2147483647, []), (4294967295, []), (8589934591, []), (17179869183, []), (34359738367, [])])]) Try.func7 rfl rfl rfl (by kernel_rfl) (by kernel_rfl) (by simp) fun c hc ht => ?_
  simp -implicitDefEqProofs (disch := omega) only [go_sem, ht]
  ((refine pCall_vw (by refine ⟨⟨?_, ?_⟩, ?_, ?_⟩; rotate_left 2; (first | (right; rintro r rfl; rfl) | left); all_goals ((try simp -implicitDefEqProofs (disch := omega) only [go_sem, ht]) <;> rfl)) (awake_matrix) ?_; rintro _ nx_1 - rfl hnx_1; simp -implicitDefEqProofs (disch := omega) only [go_sem, ht]))
  ((refine pCall_vw (by refine ⟨⟨?_, ?_⟩, ?_, ?_⟩; rotate_left 2; (first | (right; rintro r rfl; rfl) | left); all_goals ((try simp -implicitDefEqProofs (disch := omega) only [go_sem, ht]) <;> rfl)) (hlr) ?_; rintro _ nx_2 - rfl hnx_2; simp -implicitDefEqProofs (disch := omega) only [go_sem, ht]); (refine pCall_vw (by refine ⟨⟨?_, ?_⟩, ?_, ?_⟩; rotate_left 2; (first | (right; rintro r rfl; rfl) | left); all_goals ((try simp -implicitDefEqProofs (disch := omega) only [go_sem, ht]) <;> rfl)) (hft) ?_; rintro _ nx_3 - rfl hnx_3; simp -implicitDefEqProofs (disch := omega) only [go_sem, ht]); (refine pCall_vw (by refine ⟨⟨?_, ?_⟩, ?_, ?_⟩; rotate_left 2; (first | (right; rintro r rfl; rfl) | left); all_goals ((try simp -implicitDefEqProofs (disch := omega) only [go_sem, ht]) <;> rfl)) (hd) ?_; rintro _ nx_4 - rfl hnx_4; simp -implicitDefEqProofs (disch := omega) only [go_sem, ht]); (refine pCall_vw (by refine ⟨⟨?_, ?_⟩, ?_, ?_⟩; rotate_left 2; (first | (right; rintro r rfl; rfl) | left); all_goals ((try simp -implicitDefEqProofs (disch := omega) only [go_sem, ht]) <;> rfl)) (hr) ?_; rintro _ nx_5 - rfl hnx_5; simp -implicitDefEqProofs (disch := omega) only [go_sem, ht]); (refine pCall_vw (by refine ⟨⟨?_, ?_⟩, ?_, ?_⟩; rotate_left 2; (first | (right; rintro r rfl; rfl) | left); all_goals ((try simp -implicitDefEqProofs (disch := omega) only [go_sem, ht]) <;> rfl)) (hs) ?_; rintro _ nx_6 - rfl hnx_6; simp -implicitDefEqProofs (disch := omega) only [go_sem, ht]))
  (refine end_treeW 0 ?_; simp -implicitDefEqProofs (disch := omega) only [go_sem, ht])
set_option maxHeartbeats 32000000 in
theorem turns_small {bn wn : Int} (hm : ∀ l ∈ m, ∀ p ∈ l, Lm p.2) (lo : -9223372036854775808 ≤ bn) (hi : bn ≤ 9223372036854775807) (lo2 : -9223372036854775808 ≤ wn) (hi2 : wn ≤ 9223372036854775807) (hl : ¬ 1500 < lenM m) (hw' : wrongM m m.length = false) (h8 : ¬ 8 < m.length) (h32 : ¬ 32 < (D (detZ (m.map vals) m.length).natAbs).length) (hk2 : m.length < 2) :
    PT Try.prog 7 [SM m, .val (.int .i64 bn), .val (.int .i64 wn)] (isV (.val (.bool true))) := by
  have hlr := len_rows (m := m) (by omega)
  have hml := lenM_len m
  have hMx : Mx m 1500 := ⟨hm, by omega, by omega⟩
  have hft := fits_calls (m := m) (cn := m.length) (by omega)
  rw [hw', Bool.not_false] at hft
  obtain ⟨k, ek, hn32, hm64, hlc⟩ := wrongM_false hw'
  obtain rfl : m.length = k := by omega
  have hWl : (m.map vals).length = m.length := by simp
  have hWc : ∀ z ∈ m.map vals, z.length = m.length := fun z hz => by
    obtain ⟨l, hl, rfl⟩ := List.mem_map.1 hz
    rw [vals_len]; exact hlc l hl
  have hd := mdet_calls hMx (cn := m.length)
  have hr := mrank_calls hMx (cn := m.length)
  have e1 : mDet m m.length = if 32 < (D (detZ (m.map vals) m.length).natAbs).length then (0, 2) else (detZ (m.map vals) m.length, 0) := by unfold mDet; rw [hw', Int.toNat_natCast]; simp
  have e2 : mRank m m.length = (((echW (m.map vals) m.length).2.length : Int), 0) := by unfold mRank; rw [hw', Int.toNat_natCast]; rfl
  rw [e1] at hd
  rw [e2] at hr
  have hdr := det_rank hWl hWc
  have hrle := ech_le hWl hWc
  clear e1 e2
  rw [if_neg h32] at hd
  have hZd : Z 32 (detZ (m.map vals) m.length) := D_len_le.1 (by omega)
  have hWc2 : ∀ i, i < m.length → ((m.map vals).getD i []).length = m.length := fun i hi => hWc _ (getD_mem (by omega))
  have hkk : m.length ≤ 8 := by omega
  have hWv : ∀ i, i < m.length → (m.map vals).getD i [] = vals (m.getD i []) := fun i hi => getD_vals (by omega)
  have hsg := signW (Wn.C hZd (by omega))
  have hbb : decide (cZ (detZ (m.map vals) m.length) 0 = 0) = decide ((echW (m.map vals) m.length).2.length < m.length) := by
    have hc0 : ∀ s : Int, cZ s 0 = 0 ↔ s = 0 := fun s => by unfold cZ; split <;> (try split) <;> omega
    rw [Bool.eq_iff_iff, decide_eq_true_iff, decide_eq_true_iff, hc0]; exact hdr
  have hbi : decide (((echW (m.map vals) m.length).2.length : Int) < (m.length : Int)) = decide (cZ (detZ (m.map vals) m.length) 0 = 0) := by
    rw [hbb, Bool.eq_iff_iff, decide_eq_true_iff, decide_eq_true_iff]; omega
  refine PCalls.enter (n := 247) (rs := [.tmp 6]) (tb := [(15, [(0, []), (1, []), (2, []), (3, []), (4, [3]), (5, []), (6, []), (7, []), (8, []), (9, []), (10, []), (11, []), (12, []), (13, []), (14, []), (15, []), (16, []), (17, [11]), (18, []), (19, []), (20, []), (21, [])]), (1000015, [(0, []), (1, []), (3, []), (7, []), (7, []), (31, []), (63, []), (127, []), (255, []), (511, []), (1023, []), (2047, []), (2047, []), (6143, []), (14335, []), (30719, []), (63487, []), (129023, []), (262143, []), (524287, []), (1048575, []), (2097151, [])]), (29, [(0, []), (1, []), (2, []), (3, []), (4, []), (5, []), (6, []), (7, []), (8, []), (9, []), (10, []), (11, []), (12, []), (13, []), (14, [0, 1, 2, 3, 4, 5]), (15, [0, 1, 2, 3, 4, 5]), (16, [0, 1]), (17, []), (18, [])]), (1000029, [(0, []), (0, []), (0, []), (0, []), (12, []), (28, []), (0, []), (0, []), (192, []), (448, []), (0, []), (1984, []), (4032, []), (0, []), (16320, []), (32704, []), (65532, []), (131071, []), (262143, [])]), (30, [(0, []), (1, []), (2, []), (3, []), (4, []), (5, []), (6, []), (7, []), (8, []), (9, []), (10, []), (11, []), (12, []), (13, []), (14, []), (15, []), (16, []), (17, []), (18, []), (19, []), (20, []), (21, [0, 1, 2, 3, 4, 5, 6, 7, 8, 9, 10, 11, 12]), (22, [0, 1, 2, 3, 4, 5]), (23, [0, 1, 2, 3, 4, 5]), (24, [0, 1]), (25, []), (26, [])]), (1000030, [(0, []), (0, []), (0, []), (0, []), (12, []), (28, []), (0, []), (0, []), (192, []), (448, []), (0, []), (1984, []), (4032, []), (0, []), (0, []), (0, []), (49152, []), (114688, []), (0, []), (507904, []), (1032192, []), (2088960, []), (4194240, []), (8388544, []), (16777212, []), (33554431, []), (67108863, [])]), (35, [(0, []), (1, []), (2, []), (3, []), (4, []), (5, [3]), (6, []), (7, []), (8, []), (9, []), (10, []), (11, []), (12, []), (13, []), (14, []), (15, []), (16, []), (17, []), (18, []), (19, []), (20, []), (21, []), (22, []), (23, []), (24, []), (25, []), (26, []), (27, []), (28, []), (29, []), (30, []), (31, []), (32, []), (33, []), (34, []), (35, [])]), (1000035, [(0, []), (1, []), (3, []), (7, []), (7, []), (23, []), (63, []), (127, []), (255, []), (511, []), (1023, []), (2047, []), (4095, []), (8191, []), (8191, []), (32767, []), (65535, []), (131071, []), (262143, []), (524287, []), (1048575, []), (2097151, []), (2097151, []), (8388607, []), (16777215, []), (33554431, []), (67108863, []), (134217727, []), (268435455, []), (536870911, []), (1073741823, []), (2147483647, []), (4294967295, []), (8589934591, []), (17179869183, []), (34359738367, [])])]) Try.func7 rfl rfl rfl (by kernel_rfl) (by kernel_rfl) (by simp) fun c hc ht => ?_
  simp -implicitDefEqProofs (disch := omega) only [go_sem, ht]
  ((refine pCall_vw (by refine ⟨⟨?_, ?_⟩, ?_, ?_⟩; rotate_left 2; (first | (right; rintro r rfl; rfl) | left); all_goals ((try simp -implicitDefEqProofs (disch := omega) only [go_sem, ht]) <;> rfl)) (awake_matrix) ?_; rintro _ nx_7 - rfl hnx_7; simp -implicitDefEqProofs (disch := omega) only [go_sem, ht]))
  by_cases hk0 : m.length = 0
  · have hm0 : m = [] := List.eq_nil_of_length_eq_zero hk0
    have o1 := wof_v (x := 1) (by decide) (by decide)
    have hdd : detZ (m.map vals) m.length = 1 := by rw [hm0]; exact det_nil
    rw [hdd] at hd hsg hbi hZd
    have hsm := sameT (x := 1) (y := 1) hZd (by omega) rfl
    have hrr : (echW (m.map vals) m.length).2.length = 0 := by omega
    rw [cZ_gt (show (0 : Int) < 1 by decide)] at hsg
    rw [hrr] at hr
    clear hbi hbb hdr
    rw [hk0] at hd hr hft
    rw [SM_def, hk0] at hd hr hft hlr
    ((refine pCall_vw (by refine ⟨⟨?_, ?_⟩, ?_, ?_⟩; rotate_left 2; (first | (right; rintro r rfl; rfl) | left); all_goals ((try simp -implicitDefEqProofs (disch := omega) only [hk0, Int.lt_irrefl, go_sem, ht]) <;> rfl)) (hlr) ?_; rintro _ nx_8 - rfl hnx_8; simp -implicitDefEqProofs (disch := omega) only [hk0, Int.lt_irrefl, go_sem, ht]); (refine pCall_vw (by refine ⟨⟨?_, ?_⟩, ?_, ?_⟩; rotate_left 2; (first | (right; rintro r rfl; rfl) | left); all_goals ((try simp -implicitDefEqProofs (disch := omega) only [hk0, Int.lt_irrefl, go_sem, ht]) <;> rfl)) (hft) ?_; rintro _ nx_9 - rfl hnx_9; simp -implicitDefEqProofs (disch := omega) only [hk0, Int.lt_irrefl, go_sem, ht]); (refine pCall_vw (by refine ⟨⟨?_, ?_⟩, ?_, ?_⟩; rotate_left 2; (first | (right; rintro r rfl; rfl) | left); all_goals ((try simp -implicitDefEqProofs (disch := omega) only [hk0, Int.lt_irrefl, go_sem, ht]) <;> rfl)) (hd) ?_; rintro _ nx_10 - rfl hnx_10; simp -implicitDefEqProofs (disch := omega) only [hk0, Int.lt_irrefl, go_sem, ht]); (refine pCall_vw (by refine ⟨⟨?_, ?_⟩, ?_, ?_⟩; rotate_left 2; (first | (right; rintro r rfl; rfl) | left); all_goals ((try simp -implicitDefEqProofs (disch := omega) only [hk0, Int.lt_irrefl, go_sem, ht]) <;> rfl)) (hr) ?_; rintro _ nx_11 - rfl hnx_11; simp -implicitDefEqProofs (disch := omega) only [hk0, Int.lt_irrefl, go_sem, ht]); (refine pCall_vw (by refine ⟨⟨?_, ?_⟩, ?_, ?_⟩; rotate_left 2; (first | (right; rintro r rfl; rfl) | left); all_goals ((try simp -implicitDefEqProofs (disch := omega) only [hk0, Int.lt_irrefl, go_sem, ht]) <;> rfl)) (hsg) ?_; rintro _ nx_12 - rfl hnx_12; simp -implicitDefEqProofs (disch := omega) only [hk0, Int.lt_irrefl, go_sem, ht]); (refine pCall_vw (by refine ⟨⟨?_, ?_⟩, ?_, ?_⟩; rotate_left 2; (first | (right; rintro r rfl; rfl) | left); all_goals ((try simp -implicitDefEqProofs (disch := omega) only [hk0, Int.lt_irrefl, go_sem, ht]) <;> rfl)) (o1) ?_; rintro _ nx_13 - rfl hnx_13; simp -implicitDefEqProofs (disch := omega) only [hk0, Int.lt_irrefl, go_sem, ht]); (refine pCall_vw (by refine ⟨⟨?_, ?_⟩, ?_, ?_⟩; rotate_left 2; (first | (right; rintro r rfl; rfl) | left); all_goals ((try simp -implicitDefEqProofs (disch := omega) only [hk0, Int.lt_irrefl, go_sem, ht]) <;> rfl)) (hsm) ?_; rintro _ nx_14 - rfl hnx_14; simp -implicitDefEqProofs (disch := omega) only [hk0, Int.lt_irrefl, go_sem, ht]))
    (refine end_treeW 0 ?_; simp -implicitDefEqProofs (disch := omega) only [go_sem, ht])
  · have hk1 : m.length = 1 := by omega
    obtain ⟨l, hml1⟩ : ∃ l, m = [l] := List.length_eq_one_iff.1 hk1
    have hll : l.length = 1 := by rw [hlc l (by rw [hml1]; simp)]; exact hk1
    obtain ⟨p, hlp⟩ : ∃ p, l = [p] := List.length_eq_one_iff.1 hll
    have hdd : detZ (m.map vals) m.length = WV p.1 p.2 := by rw [hml1, hlp]; exact det_one
    have hmp : l ∈ m := by rw [hml1]; simp
    have hpp : p ∈ l := by rw [hlp]; simp
    have hpz := (hMx.rn hmp).ok p hpp
    have hwn : Wn p.1 p.2 (WV p.1 p.2) 1500 := Wn.raw hpz.1 hpz.2 (by omega)
    have htr := trimW hwn
    rw [hdd] at hd hsg hbi hZd
    have hsm := sameT hZd (by omega) (rfl : WV p.1 p.2 = WV p.1 p.2)
    have hgi := get_SM' (m := m) (i := 0) (by omega)
    have hat := SWc_at (l := l) (i := 0) (by omega)
    have hgl : m.getD 0 [] = l := by rw [hml1]; rfl
    have hg0 : l[0]'(by omega) = p := by simp [hlp]
    rw [hgl, SW_def, hll] at hgi
    rw [hg0] at hat
    have hk11 : ¬ (1 : Nat) < 1 := by omega
    rw [hk1] at hd hr hft hbi
    rw [SM_def, hk1] at hd hr hft hlr
    generalize WV p.1 p.2 = x at *
    generalize (echW (m.map vals) 1).2.length = rr at *
    generalize cZ x 0 = sx at *
    clear hbb hdr
    have hbn : (decide (sx = 0) != decide ((rr : Int) < ((1 : Nat) : Int))) = false := by rw [← hbi]; simp
    have hat0 : SWc l = [.val (.bool p.1), .sl p.2.length (p.2.map U)] := by rw [hlp]; rfl
    have hh : (m.map SW).head? = some (.sl 1 (SWc l)) := by rw [hml1]; simp [SW_def, hll]
    have hgi2 : (m.map SW)[0]? = some (.sl 1 (SWc l)) := hgi
    have hm1 : m.map SW = [.sl 1 [.val (.bool p.1), .sl p.2.length (p.2.map U)]] := by rw [hml1]; simp [SW_def, hll, hat0]
    rw [hm1] at hlr hft hd hr ⊢
    ((refine pCall_vw (by refine ⟨⟨?_, ?_⟩, ?_, ?_⟩; rotate_left 2; (first | (right; rintro r rfl; rfl) | left); all_goals ((try simp -implicitDefEqProofs (disch := omega) only [hk1, hbn, go_sem, ht]) <;> rfl)) (hlr) ?_; rintro _ nx_15 - rfl hnx_15; simp -implicitDefEqProofs (disch := omega) only [hk1, hbn, go_sem, ht]); (refine pCall_vw (by refine ⟨⟨?_, ?_⟩, ?_, ?_⟩; rotate_left 2; (first | (right; rintro r rfl; rfl) | left); all_goals ((try simp -implicitDefEqProofs (disch := omega) only [hk1, hbn, go_sem, ht]) <;> rfl)) (hft) ?_; rintro _ nx_16 - rfl hnx_16; simp -implicitDefEqProofs (disch := omega) only [hk1, hbn, go_sem, ht]); (refine pCall_vw (by refine ⟨⟨?_, ?_⟩, ?_, ?_⟩; rotate_left 2; (first | (right; rintro r rfl; rfl) | left); all_goals ((try simp -implicitDefEqProofs (disch := omega) only [hk1, hbn, go_sem, ht]) <;> rfl)) (hd) ?_; rintro _ nx_17 - rfl hnx_17; simp -implicitDefEqProofs (disch := omega) only [hk1, hbn, go_sem, ht]); (refine pCall_vw (by refine ⟨⟨?_, ?_⟩, ?_, ?_⟩; rotate_left 2; (first | (right; rintro r rfl; rfl) | left); all_goals ((try simp -implicitDefEqProofs (disch := omega) only [hk1, hbn, go_sem, ht]) <;> rfl)) (hr) ?_; rintro _ nx_18 - rfl hnx_18; simp -implicitDefEqProofs (disch := omega) only [hk1, hbn, go_sem, ht]); (refine pCall_vw (by refine ⟨⟨?_, ?_⟩, ?_, ?_⟩; rotate_left 2; (first | (right; rintro r rfl; rfl) | left); all_goals ((try simp -implicitDefEqProofs (disch := omega) only [hk1, hbn, go_sem, ht]) <;> rfl)) (hsg) ?_; rintro _ nx_19 - rfl hnx_19; simp -implicitDefEqProofs (disch := omega) only [hk1, hbn, go_sem, ht]))
    ((refine pCall_vw (by refine ⟨⟨?_, ?_⟩, ?_, ?_⟩; rotate_left 2; (first | (right; rintro r rfl; rfl) | left); all_goals ((try simp -implicitDefEqProofs (disch := omega) only [hk1, go_sem, ht]) <;> rfl)) (htr) ?_; rintro _ nx_20 - rfl hnx_20; simp -implicitDefEqProofs (disch := omega) only [hk1, go_sem, ht]); (refine pCall_vw (by refine ⟨⟨?_, ?_⟩, ?_, ?_⟩; rotate_left 2; (first | (right; rintro r rfl; rfl) | left); all_goals ((try simp -implicitDefEqProofs (disch := omega) only [hk1, go_sem, ht]) <;> rfl)) (hsm) ?_; rintro _ nx_21 - rfl hnx_21; simp -implicitDefEqProofs (disch := omega) only [hk1, go_sem, ht]))
    (refine end_treeW 0 ?_; simp -implicitDefEqProofs (disch := omega) only [go_sem, ht])
end
end Go.Proofs.Ytfjdfnlkobeehaa
end

section
set_option maxRecDepth 100000
set_option linter.unusedVariables false
set_option linter.unusedSimpArgs false
namespace Go.Proofs.Ytfjdfnlkobeehaa

def loopsC : Code → List Code
  | .seq x y => loopsC x ++ loopsC y
  | .cond _ x y => loopsC x ++ loopsC y
  | .block _ x => loopsC x
  | .scope x => loopsC x
  | .loop x => .loop x :: loopsC x
  | _ => []
def loopN (fn : Func) (k : Nat) : Code := ((fn.body.map loopsC).getD []).getD k .skip
theorem LW.ofLoop {P : Program} {fn : Func} {k : Nat} {x : Code} {c : Cx} {Q : Exit → PS → Prop} {s : PS} (h : loopN fn k = Code.loop x) (hw : LW P c (.loop x) Q s) : LW P c (loopN fn k) Q s := h ▸ hw
def turnsI (m m1 : List (List (Bool × List Nat))) (d c0 : Int) (i j b8 b14 cap15 cap16 cap17 : Nat) (rest15 rest16 rest17 : List Value) (sc ad : List Int) (q : Nat) (t : PS) : Prop :=
  t.sl 0 = .sl m.length (m.map SW) ∧ t.sl 7 = .val (.int .i64 m.length) ∧ t.sl 8 = .ptr b8 0 ∧ t.sl 12 = .val (.int .i64 i) ∧ t.sl 13 = .val (.int .i64 j) ∧ t.sl 14 = .ptr b14 0 ∧ t.sl 15 = .ref (b14 + 1) 0 m.length cap15 1 ∧ t.sl 16 = .ref (b14 + 1 + 1) 0 m.length cap16 1 ∧ t.sl 17 = .ref (b14 + 1 + 1 + 1) 0 m.length cap17 1 ∧
    t.H b8 = some [.val (.bool (decide (d < 0))), .sl (D d.natAbs).length ((D d.natAbs).map U)] ∧ t.H b14 = some [.val (.bool (decide (c0 < 0))), .sl (D c0.natAbs).length ((D c0.natAbs).map U)] ∧ t.H (b14 + 1) = some (m1.map SW ++ rest15.map .val) ∧ t.sl 18 = .val (.int .i64 q) ∧ ∃ (ia ca ib cb : Nat) (ra rb : List Value),
    t.H (b14 + 1 + 1) = some ((m.map SW).set i (.ref ia 0 q ca 2) ++ rest16.map .val) ∧ t.H (b14 + 1 + 1 + 1) = some ((m.map SW).set i (.ref ib 0 q cb 2) ++ rest17.map .val) ∧ t.H ia = some (SWc (CZ (sc.take q)) ++ ra.map .val) ∧ t.H ib = some (SWc (CZ (ad.take q)) ++ rb.map .val) ∧ q * 2 + ra.length = ca * 2 ∧ q * 2 + rb.length = cb * 2 ∧ b14 + 1 + 1 + 1 < ia ∧ b14 + 1 + 1 + 1 < ib ∧ ia ≠ ib ∧ ia < t.nx ∧ ib < t.nx
def turnsE (m m1 : List (List (Bool × List Nat))) (d c0 : Int) (i j b8 b14 cap15 cap16 cap17 : Nat) (rest15 rest16 rest17 : List Value) (m2 m3 : List (List (Bool × List Nat))) (t : PS) : Prop :=
  t.sl 0 = .sl m.length (m.map SW) ∧ t.sl 7 = .val (.int .i64 m.length) ∧ t.sl 8 = .ptr b8 0 ∧ t.sl 12 = .val (.int .i64 i) ∧ t.sl 13 = .val (.int .i64 j) ∧ t.sl 14 = .ptr b14 0 ∧ t.sl 15 = .ref (b14 + 1) 0 m.length cap15 1 ∧ t.sl 16 = .ref (b14 + 1 + 1) 0 m.length cap16 1 ∧ t.sl 17 = .ref (b14 + 1 + 1 + 1) 0 m.length cap17 1 ∧
    t.H b8 = some [.val (.bool (decide (d < 0))), .sl (D d.natAbs).length ((D d.natAbs).map U)] ∧ t.H b14 = some [.val (.bool (decide (c0 < 0))), .sl (D c0.natAbs).length ((D c0.natAbs).map U)] ∧ t.H (b14 + 1) = some (m1.map SW ++ rest15.map .val) ∧ t.H (b14 + 1 + 1) = some (m2.map SW ++ rest16.map .val) ∧ t.H (b14 + 1 + 1 + 1) = some (m3.map SW ++ rest17.map .val) ∧ b14 + 1 + 1 + 1 < t.nx
section
variable {m m1 m2 m3 : List (List (Bool × List Nat))} {li lj : List (Bool × List Nat)} {sc ad : List Int} {d c0 y2 b2 rr sx e2 bn wn : Int} {i j q0 ln k2l : Nat} {y3 : Nat → Int}
set_option maxHeartbeats 64000000 in
theorem turns_loop {b8 b14 cap15 cap16 cap17 : Nat} {rest15 rest16 rest17 : List Value} {c : Cx} {Q : Exit → PS → Prop} {s : PS} (hc : c.n = 247) (ht : c.tb = [(15, [(0, []), (1, []), (2, []), (3, []), (4, [3]), (5, []), (6, []), (7, []), (8, []), (9, []), (10, []), (11, []), (12, []), (13, []), (14, []), (15, []), (16, []), (17, [11]), (18, []), (19, []), (20, []), (21, [])]), (1000015, [(0, []), (1, []), (3, []), (7, []), (7, []), (31, []), (63, []), (127, []), (255, []), (511, []), (1023, []), (2047, []), (2047, []), (6143, []), (14335, []), (30719, []), (63487, []), (129023, []), (262143, []), (524287, []), (1048575, []), (2097151, [])]), (29, [(0, []), (1, []), (2, []), (3, []), (4, []), (5, []), (6, []), (7, []), (8, []), (9, []), (10, []), (11, []), (12, []), (13, []), (14, [0, 1, 2, 3, 4, 5]), (15, [0, 1, 2, 3, 4, 5]), (16, [0, 1]), (17, []), (18, [])]), (1000029, [(0, []), (0, []), (0, []), (0, []), (12, []), (28, []), (0, []), (0, []), (192, []), (448, []), (0, []), (1984, []), (4032, []), (0, []), (16320, []), (32704, []), (65532, []), (131071, []), (262143, [])]), (30, [(0, []), (1, []), (2, []), (3, []), (4, []), (5, []), (6, []), (7, []), (8, []), (9, []), (10, []), (11, []), (12, []), (13, []), (14, []), (15, []), (16, []), (17, []), (18, []), (19, []), (20, []), (21, [0, 1, 2, 3, 4, 5, 6, 7, 8, 9, 10, 11, 12]), (22, [0, 1, 2, 3, 4, 5]), (23, [0, 1, 2, 3, 4, 5]), (24, [0, 1]), (25, []), (26, [])]), (1000030, [(0, []), (0, []), (0, []), (0, []), (12, []), (28, []), (0, []), (0, []), (192, []), (448, []), (0, []), (1984, []), (4032, []), (0, []), (0, []), (0, []), (49152, []), (114688, []), (0, []), (507904, []), (1032192, []), (2088960, []), (4194240, []), (8388544, []), (16777212, []), (33554431, []), (67108863, [])]), (35, [(0, []), (1, []), (2, []), (3, []), (4, []), (5, [3]), (6, []), (7, []), (8, []), (9, []), (10, []), (11, []), (12, []), (13, []), (14, []), (15, []), (16, []), (17, []), (18, []), (19, []), (20, []), (21, []), (22, []), (23, []), (24, []), (25, []), (26, []), (27, []), (28, []), (29, []), (30, []), (31, []), (32, []), (33, []), (34, []), (35, [])]), (1000035, [(0, []), (1, []), (3, []), (7, []), (7, []), (23, []), (63, []), (127, []), (255, []), (511, []), (1023, []), (2047, []), (4095, []), (8191, []), (8191, []), (32767, []), (65535, []), (131071, []), (262143, []), (524287, []), (1048575, []), (2097151, []), (2097151, []), (8388607, []), (16777215, []), (33554431, []), (67108863, []), (134217727, []), (268435455, []), (536870911, []), (1073741823, []), (2147483647, []), (4294967295, []), (8589934591, []), (17179869183, []), (34359738367, [])])]) (hb : b8 < b14) (h8 : m.length ≤ 8) (hin : i < m.length) (hjn : j < m.length) (hij : i ≠ j)
    (hgi : (m.map SW)[i]? = some (.sl m.length (SWc li))) (hgj : (m.map SW)[j]? = some (.sl m.length (SWc lj))) (hli : li.length = m.length) (hlj : lj.length = m.length) (hscl : sc.length = m.length) (hadl : ad.length = m.length)
    (em2 : m.set i (CZ sc) = m2) (em3 : m.set i (CZ ad) = m3)
    (hmu1 : ∀ q (h : q < m.length), PT Try.prog 14 [WX (li[q]'(by omega)).1 (li[q]'(by omega)).2, WC c0] (isV (WC (vc sc q)))) (hmu2 : ∀ q (h : q < m.length), PT Try.prog 14 [WC c0, WX (lj[q]'(by omega)).1 (lj[q]'(by omega)).2] (isV (WC (y3 q))))
    (had2 : ∀ q (h : q < m.length), PT Try.prog 16 [WX (li[q]'(by omega)).1 (li[q]'(by omega)).2, WC (y3 q)] (isV (WC (vc ad q))))
    (hI : ∃ q : Nat, q ≤ m.length ∧ turnsI m m1 d c0 i j b8 b14 cap15 cap16 cap17 rest15 rest16 rest17 sc ad q s) (hQ : ∀ t, turnsE m m1 d c0 i j b8 b14 cap15 cap16 cap17 rest15 rest16 rest17 m2 m3 t → Q (.exit 0) t) : LW Try.prog c (loopN Try.f7 0) Q s := by
  refine LW.ofLoop rfl ?_
  have hSl : (m.map SW).length = m.length := by simp
  have hset0 : ∀ x : PV, ∀ r : List PV, ((m.map SW).set i x ++ r)[i]? = some x := fun x r => set_get x (by omega)
  refine LW.loopG hc ht (by kernel_rfl) (fun t => ∃ q : Nat, q ≤ m.length ∧ turnsI m m1 d c0 i j b8 b14 cap15 cap16 cap17 rest15 rest16 rest17 sc ad q t)
    (fun t => match t.sl 18 with | .val (.int _ x) => m.length - x.toNat | _ => 0) hI ?_
  rintro t ⟨q, hqn, t0, t7, t8, t12, t13, t14, t15, t16, t17, H8, H14, H15, t18, ia, ca, ib, cb, ra, rb, H16, H17, Ha, Hb, hca, hcb, hia, hib, hab, hian, hibn⟩
  by_cases hqe : q = m.length
  · subst hqe
    rw [List.take_of_length_le (by omega)] at Ha Hb
    have hfz1 := frz_SMset (i := i) (id := ia) (n := m.length) (cap := ca) (l := CZ sc) (H := t.H) (r := ra) (D := fun x => decide (x = ia)) (rest := rest16) hin (by simp) Ha (by rw [CZ_len]; exact hscl)
    rw [em2] at hfz1
    have g1 := Gh.frzH (st := t) (id := b14 + 1 + 1) (fun x => decide (x = ia)) 1 H16 (by simp; omega) hfz1
    have Hb' : upd (dropH (fun x => decide (x = ia)) t.H) (b14 + 1 + 1) (some (m2.map SW ++ rest16.map .val)) ib = some (SWc (CZ ad) ++ rb.map .val) := by
      rw [upd_ne _ _ (by omega), dropH_at, if_neg (by simp; omega)]; exact Hb
    have hfz2 := frz_SMset (i := i) (id := ib) (n := m.length) (cap := cb) (l := CZ ad) (r := rb) (D := fun x => decide (x = ib)) (rest := rest17) hin (by simp) Hb' (by rw [CZ_len]; exact hadl)
    rw [em3] at hfz2
    have H17' : upd (dropH (fun x => decide (x = ia)) t.H) (b14 + 1 + 1) (some (m2.map SW ++ rest16.map .val)) (b14 + 1 + 1 + 1) = some ((m.map SW).set i (.ref ib 0 m.length cb 2) ++ rest17.map .val) := by
      rw [upd_ne _ _ (by omega), dropH_at, if_neg (by simp; omega)]; exact H17
    have g2 := Gh.frzH (st := t.withH (upd (dropH (fun x => decide (x = ia)) t.H) (b14 + 1 + 1) (some (m2.map SW ++ rest16.map PV.val))) t.nx) (id := b14 + 1 + 1 + 1) (fun x => decide (x = ib)) 1 H17' (by simp; omega) hfz2
    refine ⟨_, g1.trans g2, ?_⟩
    obtain ⟨HH, eHH⟩ : ∃ HH, upd (dropH (fun x => decide (x = ib)) (upd (dropH (fun x => decide (x = ia)) t.H) (b14 + 1 + 1) (some (m2.map SW ++ rest16.map PV.val)))) (b14 + 1 + 1 + 1) (some (m3.map SW ++ rest17.map PV.val)) = HH := ⟨_, rfl⟩
    have K8 : HH b8 = some [.val (.bool (decide (d < 0))), .sl (D d.natAbs).length ((D d.natAbs).map U)] := by
      rw [← eHH, upd_ne _ _ (by omega), dropH_at, if_neg (by simp; omega), upd_ne _ _ (by omega), dropH_at, if_neg (by simp; omega)]; exact H8
    have K14 : HH b14 = some [.val (.bool (decide (c0 < 0))), .sl (D c0.natAbs).length ((D c0.natAbs).map U)] := by
      rw [← eHH, upd_ne _ _ (by omega), dropH_at, if_neg (by simp; omega), upd_ne _ _ (by omega), dropH_at, if_neg (by simp; omega)]; exact H14
    have K15 : HH (b14 + 1) = some (m1.map SW ++ rest15.map PV.val) := by
      rw [← eHH, upd_ne _ _ (by omega), dropH_at, if_neg (by simp; omega), upd_ne _ _ (by omega), dropH_at, if_neg (by simp; omega)]; exact H15
    have K16 : HH (b14 + 1 + 1) = some (m2.map SW ++ rest16.map PV.val) := by
      rw [← eHH, upd_ne _ _ (by omega), dropH_at, if_neg (by simp; omega), upd_self]
    have K17 : HH (b14 + 1 + 1 + 1) = some (m3.map SW ++ rest17.map PV.val) := by rw [← eHH, upd_self]
    have eSt : ((t.withH (upd (dropH (fun x => decide (x = ia)) t.H) (b14 + 1 + 1) (some (m2.map SW ++ rest16.map PV.val))) t.nx).withH (upd (dropH (fun x => decide (x = ib)) (t.withH (upd (dropH (fun x => decide (x = ia)) t.H) (b14 + 1 + 1) (some (m2.map SW ++ rest16.map PV.val))) t.nx).H) (b14 + 1 + 1 + 1) (some (m3.map SW ++ rest17.map PV.val))) (t.withH (upd (dropH (fun x => decide (x = ia)) t.H) (b14 + 1 + 1) (some (m2.map SW ++ rest16.map PV.val))) t.nx).nx) = t.withH HH t.nx := by rw [← eHH]; rfl
    rw [eSt]
    clear eSt g1 g2 hfz1 hfz2 Hb' H17' H8 H14 H15 H16 H17 Ha Hb
    simp -implicitDefEqProofs (disch := omega) only [go_sem, ht, t0, t7, t8, t12, t13, t14, t15, t16, t17, t18]
    refine hQ _ ⟨by simp -implicitDefEqProofs (disch := omega) only [go_sem, ht, t0], by simp -implicitDefEqProofs (disch := omega) only [go_sem, ht, t7], by simp -implicitDefEqProofs (disch := omega) only [go_sem, ht, t8], by simp -implicitDefEqProofs (disch := omega) only [go_sem, ht, t12], by simp -implicitDefEqProofs (disch := omega) only [go_sem, ht, t13], by simp -implicitDefEqProofs (disch := omega) only [go_sem, ht, t14], by simp -implicitDefEqProofs (disch := omega) only [go_sem, ht, t15], by simp -implicitDefEqProofs (disch := omega) only [go_sem, ht, t16], by simp -implicitDefEqProofs (disch := omega) only [go_sem, ht, t17], by simp -implicitDefEqProofs (disch := omega) only [go_sem, ht, K8], by simp -implicitDefEqProofs (disch := omega) only [go_sem, ht, K14], by simp -implicitDefEqProofs (disch := omega) only [go_sem, ht, K15], by simp -implicitDefEqProofs (disch := omega) only [go_sem, ht, K16], by simp -implicitDefEqProofs (disch := omega) only [go_sem, ht, K17], by simp -implicitDefEqProofs (disch := omega) only [go_sem, ht]; omega⟩
  · have hqlt : q < m.length := by omega
    refine ⟨t, Gh.refl t, ?_⟩
    have hati := SWc_at (l := li) (i := q) (by omega)
    have hatj := SWc_at (l := lj) (i := q) (by omega)
    have mu1 := hmu1 q hqlt
    have mu2 := hmu2 q hqlt
    have ad2 := had2 q hqlt
    have tk1 := CZ_next (z := sc) (q := q) (by omega)
    have tk2 := CZ_next (z := ad) (q := q) (by omega)
    have ln1 : (SWc (CZ (sc.take q))).length = q * 2 := by rw [SWc_len, CZ_len, List.length_take]; omega
    have ln2 : (SWc (CZ (ad.take q))).length = q * 2 := by rw [SWc_len, CZ_len, List.length_take]; omega
    have hg16 := hset0 (.ref ia 0 q ca 2) (rest16.map .val)
    have hg17 := hset0 (.ref ib 0 q cb 2) (rest17.map .val)
    have hsp : ∀ (x y : PV) (r : List PV), spl ((m.map SW).set i x ++ r) i [y] = (m.map SW).set i y ++ r := fun x y r => spl_two' x y (by simpa using hin)
    have hl16 : ∀ x : PV, ((m.map SW).set i x).length = m.length := fun x => by simp
    generalize vc sc q = y1 at *
    generalize vc ad q = y2 at *
    generalize y3 q = y3q at *
    have hiI : ((i : Nat) : Int) < (m.length : Nat) := by omega
    have hjI : ((j : Nat) : Int) < (m.length : Nat) := by omega
    have hqI : ((q : Nat) : Int) < (m.length : Nat) := by omega
    simp -implicitDefEqProofs (disch := omega) only [go_sem, ht, t0, t7, t8, t12, t13, t14, t15, t16, t17, t18, H16, hg16, hgi, hati, H14, hiI, hjI, hqI]

    ((refine pCall_vw (by refine ⟨⟨?_, ?_⟩, ?_, ?_⟩; rotate_left 2; (first | (right; rintro r rfl; rfl) | left); all_goals ((try simp -implicitDefEqProofs (disch := omega) only [t0, t7, t8, t12, t13, t14, t15, t16, t17, t18, H16, hg16, hgi, hati, H14, hiI, hjI, hqI, go_sem, ht]) <;> rfl)) (mu1) ?_; rintro _ nx_1 - rfl hnx_1; simp -implicitDefEqProofs (disch := omega) only [t0, t7, t8, t12, t13, t14, t15, t16, t17, t18, H16, hg16, hgi, hati, H14, hiI, hjI, hqI, go_sem, ht]))
    have hne1 : ia ≠ t.nx := by omega
    (refine append_ownSX (by refine ⟨?_, ?_, ?_, ?_, ?_, ?_, ?_, ?_⟩ <;> (simp -implicitDefEqProofs (disch := omega) only [srcP_ref, srcP_sl, srcP_nil, Option.isSome_some, Ha, go_sem, ht] <;> rfl)) (by rfl) (by first | omega | (simp <;> omega)) (by first | assumption | (simp <;> omega)) (by first | rfl | simp) (by first | omega | (simp <;> omega)) ?_; intro id1 cap1 rest1 H1 nx1 hH1 hcap1 hid1 hnx1 hfr1 hfs1; simp only [put_nx, withH_nx, put_H, withH_H] at hid1 hnx1 hfr1 hfs1)
    rw [tk1] at hH1
    have F16 : H1 (b14 + 1 + 1) = some ((m.map SW).set i (.ref ia 0 q ca 2) ++ rest16.map .val) := by rw [hfr1 _ (by omega) (by omega)]; simp -implicitDefEqProofs (disch := omega) only [go_sem, ht, H16]
    have F17 : H1 (b14 + 1 + 1 + 1) = some ((m.map SW).set i (.ref ib 0 q cb 2) ++ rest17.map .val) := by rw [hfr1 _ (by omega) (by omega)]; simp -implicitDefEqProofs (disch := omega) only [go_sem, ht, H17]
    have F14 : H1 b14 = some [.val (.bool (decide (c0 < 0))), .sl (D c0.natAbs).length ((D c0.natAbs).map U)] := by rw [hfr1 _ (by omega) (by omega)]; simp -implicitDefEqProofs (disch := omega) only [go_sem, ht, H14]
    have F8 : H1 b8 = some [.val (.bool (decide (d < 0))), .sl (D d.natAbs).length ((D d.natAbs).map U)] := by rw [hfr1 _ (by omega) (by omega)]; simp -implicitDefEqProofs (disch := omega) only [go_sem, ht, H8]
    have F15 : H1 (b14 + 1) = some (m1.map SW ++ rest15.map .val) := by rw [hfr1 _ (by omega) (by omega)]; simp -implicitDefEqProofs (disch := omega) only [go_sem, ht, H15]
    have Fb : H1 ib = some (SWc (CZ (ad.take q)) ++ rb.map .val) := by rw [hfr1 _ (by omega) (by omega)]; simp -implicitDefEqProofs (disch := omega) only [go_sem, ht, Hb]
    simp -implicitDefEqProofs (disch := omega) only [go_sem, ht, t0, t7, t8, t12, t13, t14, t15, t16, t17, t18, F16, F17, F14, hsp, hg17, hgi, hgj, hati, hatj, hiI, hjI, hqI]
    refine ⟨by simp; omega, ?_⟩
    ((refine pCall_vw (by refine ⟨⟨?_, ?_⟩, ?_, ?_⟩; rotate_left 2; (first | (right; rintro r rfl; rfl) | left); all_goals ((try simp -implicitDefEqProofs (disch := omega) only [t0, t7, t8, t12, t13, t14, t15, t16, t17, t18, F16, F17, F14, hsp, hg17, hgi, hgj, hati, hatj, hiI, hjI, hqI, go_sem, ht]) <;> rfl)) (mu2) ?_; rintro _ nx_2 - rfl hnx_2; simp -implicitDefEqProofs (disch := omega) only [t0, t7, t8, t12, t13, t14, t15, t16, t17, t18, F16, F17, F14, hsp, hg17, hgi, hgj, hati, hatj, hiI, hjI, hqI, go_sem, ht]); (refine pCall_vw (by refine ⟨⟨?_, ?_⟩, ?_, ?_⟩; rotate_left 2; (first | (right; rintro r rfl; rfl) | left); all_goals ((try simp -implicitDefEqProofs (disch := omega) only [t0, t7, t8, t12, t13, t14, t15, t16, t17, t18, F16, F17, F14, hsp, hg17, hgi, hgj, hati, hatj, hiI, hjI, hqI, go_sem, ht]) <;> rfl)) (ad2) ?_; rintro _ nx_3 - rfl hnx_3; simp -implicitDefEqProofs (disch := omega) only [t0, t7, t8, t12, t13, t14, t15, t16, t17, t18, F16, F17, F14, hsp, hg17, hgi, hgj, hati, hatj, hiI, hjI, hqI, go_sem, ht]))
    have hne2 : ib ≠ t.nx := by omega
    have hb2 : ib ≠ b14 + 1 + 1 := by omega
    (refine append_ownSX (by refine ⟨?_, ?_, ?_, ?_, ?_, ?_, ?_, ?_⟩ <;> (simp -implicitDefEqProofs (disch := omega) only [srcP_ref, srcP_sl, srcP_nil, Option.isSome_some, Fb, upd_ne, go_sem, ht] <;> rfl)) (by rfl) (by first | omega | (simp <;> omega)) (by first | assumption | (simp <;> omega)) (by first | rfl | simp) (by first | omega | (simp <;> omega)) ?_; intro id2 cap2 rest2 H2 nx2 hH2 hcap2 hid2 hnx2 hfr2 hfs2; simp only [put_nx, withH_nx, put_H, withH_H] at hid2 hnx2 hfr2 hfs2)
    rw [tk2] at hH2
    have G16 : H2 (b14 + 1 + 1) = some ((m.map SW).set i (.ref id1 0 (q + 1) cap1 2) ++ rest16.map .val) := by rw [hfr2 _ (by omega) (by omega)]; simp -implicitDefEqProofs (disch := omega) only [go_sem, ht, upd_self]
    have G17 : H2 (b14 + 1 + 1 + 1) = some ((m.map SW).set i (.ref ib 0 q cb 2) ++ rest17.map .val) := by rw [hfr2 _ (by omega) (by omega)]; simp -implicitDefEqProofs (disch := omega) only [go_sem, ht, F17]
    have G14 : H2 b14 = some [.val (.bool (decide (c0 < 0))), .sl (D c0.natAbs).length ((D c0.natAbs).map U)] := by rw [hfr2 _ (by omega) (by omega)]; simp -implicitDefEqProofs (disch := omega) only [go_sem, ht, F14]
    have G8 : H2 b8 = some [.val (.bool (decide (d < 0))), .sl (D d.natAbs).length ((D d.natAbs).map U)] := by rw [hfr2 _ (by omega) (by omega)]; simp -implicitDefEqProofs (disch := omega) only [go_sem, ht, F8]
    have G15 : H2 (b14 + 1) = some (m1.map SW ++ rest15.map .val) := by rw [hfr2 _ (by omega) (by omega)]; simp -implicitDefEqProofs (disch := omega) only [go_sem, ht, F15]
    have Ga : H2 id1 = some (SWc (CZ (sc.take (q + 1))) ++ rest1.map .val) := by rw [hfr2 _ (by omega) (by omega)]; simp -implicitDefEqProofs (disch := omega) only [go_sem, ht, hH1]
    simp -implicitDefEqProofs (disch := omega) only [go_sem, ht, t0, t7, t8, t12, t13, t14, t15, t16, t17, t18, G16, G17, G14, hsp]
    refine ⟨by simp; omega, ⟨q + 1, by omega, ?_⟩, by omega⟩
    unfold turnsI
    refine ⟨by simp -implicitDefEqProofs (disch := omega) only [go_sem, ht, t0], by simp -implicitDefEqProofs (disch := omega) only [go_sem, ht, t7], by simp -implicitDefEqProofs (disch := omega) only [go_sem, ht, t8], by simp -implicitDefEqProofs (disch := omega) only [go_sem, ht, t12], by simp -implicitDefEqProofs (disch := omega) only [go_sem, ht, t13], by simp -implicitDefEqProofs (disch := omega) only [go_sem, ht, t14], by simp -implicitDefEqProofs (disch := omega) only [go_sem, ht, t15], by simp -implicitDefEqProofs (disch := omega) only [go_sem, ht, t16], by simp -implicitDefEqProofs (disch := omega) only [go_sem, ht, t17], by simp -implicitDefEqProofs (disch := omega) only [go_sem, ht, G8], by simp -implicitDefEqProofs (disch := omega) only [go_sem, ht, G14], by simp -implicitDefEqProofs (disch := omega) only [go_sem, ht, G15], by first | rfl | simp -implicitDefEqProofs (disch := omega) only [go_sem, ht], id1, cap1, id2, cap2, rest1, rest2, by simp -implicitDefEqProofs (disch := omega) only [go_sem, ht, G16], by simp -implicitDefEqProofs (disch := omega) only [go_sem, ht, upd_self], ?_, ?_, by omega, by omega, by omega, by omega, by omega, by (simp -implicitDefEqProofs (disch := omega) only [go_sem, ht]; omega), by (simp -implicitDefEqProofs (disch := omega) only [go_sem, ht]; omega)⟩
    · simp -implicitDefEqProofs (disch := omega) only [go_sem, ht, Ga]
    · simp -implicitDefEqProofs (disch := omega) only [go_sem, ht, hH2]
end
end Go.Proofs.Ytfjdfnlkobeehaa
end

section
set_option maxRecDepth 100000
set_option linter.unusedVariables false
set_option linter.unusedSimpArgs false
namespace Go.Proofs.Ytfjdfnlkobeehaa
section
variable {m m1 m2 m3 : List (List (Bool × List Nat))} {li lj : List (Bool × List Nat)} {sc ad : List Int} {d c0 y2 b2 rr sx e2 bn wn : Int} {i j q0 ln k2l : Nat} {y3 : Nat → Int}
set_option maxHeartbeats 64000000 in
theorem turns_walk (hn2 : 2 ≤ m.length) (h8 : m.length ≤ 8) (hin : i < m.length) (hjn : j < m.length) (hij : i ≠ j) (hln : ln ≤ 1500) (hlr : PT Try.prog 12 [SM m] (isV (.val (.int .i64 (ln : Nat)))))
    (hft : PT Try.prog 13 [SM m, .val (.int .i64 (m.length : Nat))] (isV (.val (.bool true)))) (hd : PT Try.prog 30 [SM m, .val (.int .i64 (m.length : Nat))] (isV (.tup [WC d, .val (.int .i64 0)])))
    (hr : PT Try.prog 22 [SM m, .val (.int .i64 (m.length : Nat))] (isV (.tup [.val (.int .i64 rr), .val (.int .i64 0)]))) (hsg : PT Try.prog 33 [WC d] (isV (.val (.int .i64 sx))))
    (hbn : (decide (sx = 0) != decide (rr < (m.length : Int))) = false) (hq : bitsV .and .i64 wn 4611686018427387903 = some (.int .i64 (q0 : Nat))) (ei : q0 % m.length = i) (ej : (i + 1) % m.length = j) (hrem : binP Try.prog .rem 3 (.val (.int .i64 bn)) (.val (.int .i64 1000)) = some (.val (.int .i64 c0)))
    (of1 : PT Try.prog 15 [.val (.int .i64 c0)] (isV (WC c0))) (hgi : (m.map SW)[i]? = some (.sl m.length (SWc li))) (hgj : (m.map SW)[j]? = some (.sl m.length (SWc lj))) (hli : li.length = m.length) (hlj : lj.length = m.length) (hscl : sc.length = m.length) (hadl : ad.length = m.length)
    (em1 : (m.set i lj).set j li = m1) (em2 : m.set i (CZ sc) = m2) (em3 : m.set i (CZ ad) = m3) (hm1l : m1.length = m.length) (hm2l : m2.length = m.length) (hm3l : m3.length = m.length)
    (d1 : PT Try.prog 30 [.sl m.length (m1.map SW), .val (.int .i64 (m.length : Nat))] (isV (.tup [WC (-d), .val (.int .i64 0)]))) (d2 : PT Try.prog 30 [.sl m.length (m2.map SW), .val (.int .i64 (m.length : Nat))] (isV (.tup [WC y2, .val (.int .i64 b2)])))
    (d3 : PT Try.prog 30 [.sl m.length (m3.map SW), .val (.int .i64 (m.length : Nat))] (isV (.tup [WC d, .val (.int .i64 0)]))) (mm : PT Try.prog 14 [WC d, WC c0] (isV (WC e2))) (ng : PT Try.prog 35 [WC d] (isV (WC (-d))))
    (sm1 : PT Try.prog 32 [WC (-d), WC (-d)] (isV (.val (.bool true)))) (sm3 : PT Try.prog 32 [WC d, WC d] (isV (.val (.bool true))))
    (hyb : (b2 = 0 ∧ PT Try.prog 32 [WC y2, WC e2] (isV (.val (.bool true)))) ∨ (b2 = 2 ∧ PT Try.prog 36 [WC e2] (isV (.val (.int .i64 (k2l : Nat)))) ∧ 32 < k2l))
    (hmu1 : ∀ q (h : q < m.length), PT Try.prog 14 [WX (li[q]'(by omega)).1 (li[q]'(by omega)).2, WC c0] (isV (WC (vc sc q)))) (hmu2 : ∀ q (h : q < m.length), PT Try.prog 14 [WC c0, WX (lj[q]'(by omega)).1 (lj[q]'(by omega)).2] (isV (WC (y3 q))))
    (had2 : ∀ q (h : q < m.length), PT Try.prog 16 [WX (li[q]'(by omega)).1 (li[q]'(by omega)).2, WC (y3 q)] (isV (WC (vc ad q)))) :
    PT Try.prog 7 [SM m, .val (.int .i64 bn), .val (.int .i64 wn)] (isV (.val (.bool true))) := by
  have hk2i : ¬ ((m.length : Nat) : Int) < 2 := by omega
  have hk2 : ¬ m.length < 2 := by omega
  refine PCalls.enter (n := 247) (rs := [.tmp 6]) (tb := [(15, [(0, []), (1, []), (2, []), (3, []), (4, [3]), (5, []), (6, []), (7, []), (8, []), (9, []), (10, []), (11, []), (12, []), (13, []), (14, []), (15, []), (16, []), (17, [11]), (18, []), (19, []), (20, []), (21, [])]), (1000015, [(0, []), (1, []), (3, []), (7, []), (7, []), (31, []), (63, []), (127, []), (255, []), (511, []), (1023, []), (2047, []), (2047, []), (6143, []), (14335, []), (30719, []), (63487, []), (129023, []), (262143, []), (524287, []), (1048575, []), (2097151, [])]), (29, [(0, []), (1, []), (2, []), (3, []), (4, []), (5, []), (6, []), (7, []), (8, []), (9, []), (10, []), (11, []), (12, []), (13, []), (14, [0, 1, 2, 3, 4, 5]), (15, [0, 1, 2, 3, 4, 5]), (16, [0, 1]), (17, []), (18, [])]), (1000029, [(0, []), (0, []), (0, []), (0, []), (12, []), (28, []), (0, []), (0, []), (192, []), (448, []), (0, []), (1984, []), (4032, []), (0, []), (16320, []), (32704, []), (65532, []), (131071, []), (262143, [])]), (30, [(0, []), (1, []), (2, []), (3, []), (4, []), (5, []), (6, []), (7, []), (8, []), (9, []), (10, []), (11, []), (12, []), (13, []), (14, []), (15, []), (16, []), (17, []), (18, []), (19, []), (20, []), (21, [0, 1, 2, 3, 4, 5, 6, 7, 8, 9, 10, 11, 12]), (22, [0, 1, 2, 3, 4, 5]), (23, [0, 1, 2, 3, 4, 5]), (24, [0, 1]), (25, []), (26, [])]), (1000030, [(0, []), (0, []), (0, []), (0, []), (12, []), (28, []), (0, []), (0, []), (192, []), (448, []), (0, []), (1984, []), (4032, []), (0, []), (0, []), (0, []), (49152, []), (114688, []), (0, []), (507904, []), (1032192, []), (2088960, []), (4194240, []), (8388544, []), (16777212, []), (33554431, []), (67108863, [])]), (35, [(0, []), (1, []), (2, []), (3, []), (4, []), (5, [3]), (6, []), (7, []), (8, []), (9, []), (10, []), (11, []), (12, []), (13, []), (14, []), (15, []), (16, []), (17, []), (18, []), (19, []), (20, []), (21, []), (22, []), (23, []), (24, []), (25, []), (26, []), (27, []), (28, []), (29, []), (30, []), (31, []), (32, []), (33, []), (34, []), (35, [])]), (1000035, [(0, []), (1, []), (3, []), (7, []), (7, []), (23, []), (63, []), (127, []), (255, []), (511, []), (1023, []), (2047, []), (4095, []), (8191, []), (8191, []), (32767, []), (65535, []), (131071, []), (262143, []), (524287, []), (1048575, []), (2097151, []), (2097151, []), (8388607, []), (16777215, []), (33554431, []), (67108863, []), (134217727, []), (268435455, []), (536870911, []), (1073741823, []), (2147483647, []), (4294967295, []), (8589934591, []), (17179869183, []), (34359738367, [])])]) Try.func7 rfl rfl rfl (by kernel_rfl) (by kernel_rfl) (by simp) fun c hc ht => ?_
  simp -implicitDefEqProofs (disch := omega) only [go_sem, ht]
  ((refine pCall_vw (by refine ⟨⟨?_, ?_⟩, ?_, ?_⟩; rotate_left 2; (first | (right; rintro r rfl; rfl) | left); all_goals ((try simp -implicitDefEqProofs (disch := omega) only [go_sem, ht]) <;> rfl)) (awake_matrix) ?_; rintro _ nx_1 - rfl hnx_1; simp -implicitDefEqProofs (disch := omega) only [go_sem, ht]))
  ((refine pCall_vw (by refine ⟨⟨?_, ?_⟩, ?_, ?_⟩; rotate_left 2; (first | (right; rintro r rfl; rfl) | left); all_goals ((try simp -implicitDefEqProofs (disch := omega) only [hbn, hk2, hk2i, hq, ei, ej, hrem, hgi, hgj, go_sem, ht]) <;> rfl)) (hlr) ?_; rintro _ nx_2 - rfl hnx_2; simp -implicitDefEqProofs (disch := omega) only [hbn, hk2, hk2i, hq, ei, ej, hrem, hgi, hgj, go_sem, ht]); (refine pCall_vw (by refine ⟨⟨?_, ?_⟩, ?_, ?_⟩; rotate_left 2; (first | (right; rintro r rfl; rfl) | left); all_goals ((try simp -implicitDefEqProofs (disch := omega) only [hbn, hk2, hk2i, hq, ei, ej, hrem, hgi, hgj, go_sem, ht]) <;> rfl)) (hft) ?_; rintro _ nx_3 - rfl hnx_3; simp -implicitDefEqProofs (disch := omega) only [hbn, hk2, hk2i, hq, ei, ej, hrem, hgi, hgj, go_sem, ht]); (refine pCall_vw (by refine ⟨⟨?_, ?_⟩, ?_, ?_⟩; rotate_left 2; (first | (right; rintro r rfl; rfl) | left); all_goals ((try simp -implicitDefEqProofs (disch := omega) only [hbn, hk2, hk2i, hq, ei, ej, hrem, hgi, hgj, go_sem, ht]) <;> rfl)) (hd) ?_; rintro _ nx_4 - rfl hnx_4; simp -implicitDefEqProofs (disch := omega) only [hbn, hk2, hk2i, hq, ei, ej, hrem, hgi, hgj, go_sem, ht]); (refine pCall_vw (by refine ⟨⟨?_, ?_⟩, ?_, ?_⟩; rotate_left 2; (first | (right; rintro r rfl; rfl) | left); all_goals ((try simp -implicitDefEqProofs (disch := omega) only [hbn, hk2, hk2i, hq, ei, ej, hrem, hgi, hgj, go_sem, ht]) <;> rfl)) (hr) ?_; rintro _ nx_5 - rfl hnx_5; simp -implicitDefEqProofs (disch := omega) only [hbn, hk2, hk2i, hq, ei, ej, hrem, hgi, hgj, go_sem, ht]); (refine pCall_vw (by refine ⟨⟨?_, ?_⟩, ?_, ?_⟩; rotate_left 2; (first | (right; rintro r rfl; rfl) | left); all_goals ((try simp -implicitDefEqProofs (disch := omega) only [hbn, hk2, hk2i, hq, ei, ej, hrem, hgi, hgj, go_sem, ht]) <;> rfl)) (hsg) ?_; rintro _ nx_6 - rfl hnx_6; simp -implicitDefEqProofs (disch := omega) only [hbn, hk2, hk2i, hq, ei, ej, hrem, hgi, hgj, go_sem, ht]))
  ((refine pCall_vw (by refine ⟨⟨?_, ?_⟩, ?_, ?_⟩; rotate_left 2; (first | (right; rintro r rfl; rfl) | left); all_goals ((try simp -implicitDefEqProofs (disch := omega) only [hq, ei, ej, hrem, hgi, hgj, go_sem, ht]) <;> rfl)) (of1) ?_; rintro _ nx_7 - rfl hnx_7; simp -implicitDefEqProofs (disch := omega) only [hq, ei, ej, hrem, hgi, hgj, go_sem, ht]))
  have hSl : (m.map SW).length = m.length := by simp
  refine append_nil (e := 27) (b := 24) (m := m.length) (z := .slice none 0 0) (ys := m.map SW) T22_elem rfl T27_size T27_bytes T27_zero (by simp -implicitDefEqProofs (disch := omega) only [go_sem, ht, srcP_sl]) (one_SM m) (by omega) (fun h00 => by omega) (fun cap15 rest15 hcap15 hpos15 => ?_)
  have hs1 := set_SM (m := m) (i := i) (l := lj) (n := m.length) (rest15.map .val) hin hlj.symm
  have hs2 := set_SM (m := m.set i lj) (i := j) (l := li) (n := m.length) (rest15.map .val) (by simpa using hjn) hli.symm
  rw [em1] at hs2
  have hl1 : ((m.set i lj).map SW).length = m.length := by simp
  have hle15 : i + 1 ≤ m.length + rest15.length := by omega
  have hle15j : j + 1 ≤ m.length + rest15.length := by omega
  simp -implicitDefEqProofs (disch := omega) only [go_sem, ht, hgi, hgj, hs1, hs2, ei, ej]
  refine ⟨by rw [List.length_set]; omega, ?_⟩
  refine append_nil (e := 27) (b := 24) (m := m.length) (z := .slice none 0 0) (ys := m.map SW) T22_elem rfl T27_size T27_bytes T27_zero (by simp -implicitDefEqProofs (disch := omega) only [go_sem, ht, srcP_sl]) (one_SM m) (by omega) (fun h00 => by omega) (fun cap16 rest16 hcap16 hpos16 => ?_)
  simp -implicitDefEqProofs (disch := omega) only [go_sem, ht, hgi, hgj, ei, ej]
  refine append_nil (e := 27) (b := 24) (m := m.length) (z := .slice none 0 0) (ys := m.map SW) T22_elem rfl T27_size T27_bytes T27_zero (by simp -implicitDefEqProofs (disch := omega) only [go_sem, ht, srcP_sl]) (one_SM m) (by omega) (fun h00 => by omega) (fun cap17 rest17 hcap17 hpos17 => ?_)
  have hs16 := spl_one (l := m.map SW) (r := rest16.map .val) (i := i) (.val (.slice none 0 0)) (by omega)
  have hs17 := spl_one (l := m.map SW) (r := rest17.map .val) (i := i) (.val (.slice none 0 0)) (by omega)
  simp -implicitDefEqProofs (disch := omega) only [go_sem, ht, hgi, hgj, ei, ej, hs16, hs17]
  have hset0 : ∀ x : PV, ∀ r : List PV, ((m.map SW).set i x ++ r)[i]? = some x := fun x r => set_get x (by omega)
  have hss : ∀ (x y : PV) (r : List PV), ((m.map SW).set i x ++ r).set i y = (m.map SW).set i y ++ r := fun x y r => by
    rw [List.set_append_left _ _ (by simpa using hin), List.set_set]
  refine LW.ghost (Gh.trans (Gh.nilC (id := nx_7 + 1 + 1) (i := i) (cs := (m.map SW).set i (.val (.slice none 0 0)) ++ rest16.map .val) 2 (by simp -implicitDefEqProofs (disch := omega) only [go_sem, ht, upd_self]) (hset0 _ _)) (Gh.nilC (id := nx_7 + 1 + 1 + 1) (i := i) (cs := (m.map SW).set i (.val (.slice none 0 0)) ++ rest17.map .val) 2 (by simp -implicitDefEqProofs (disch := omega) only [go_sem, ht, upd_self]) (hset0 _ _))) ?_
  refine turns_loop (m1 := m1) (d := d) (b8 := nx_4) (b14 := nx_7) (cap15 := cap15) (cap16 := cap16) (cap17 := cap17) (rest15 := rest15) (rest16 := rest16) (rest17 := rest17) (m2 := m2) (m3 := m3) (li := li) (lj := lj) hc ht (by omega) h8 hin hjn hij hgi hgj hli hlj hscl hadl em2 em3 hmu1 hmu2 had2 ⟨0, Nat.zero_le _, ?_⟩ ?_
  · unfold turnsI
    refine ⟨by simp -implicitDefEqProofs (disch := omega) only [go_sem, ht, upd_self, hss, ei, ej], by simp -implicitDefEqProofs (disch := omega) only [go_sem, ht, upd_self, hss, ei, ej], by simp -implicitDefEqProofs (disch := omega) only [go_sem, ht, upd_self, hss, ei, ej], by simp -implicitDefEqProofs (disch := omega) only [go_sem, ht, upd_self, hss, ei, ej], by simp -implicitDefEqProofs (disch := omega) only [go_sem, ht, upd_self, hss, ei, ej], by simp -implicitDefEqProofs (disch := omega) only [go_sem, ht, upd_self, hss, ei, ej], by simp -implicitDefEqProofs (disch := omega) only [go_sem, ht, upd_self, hss, ei, ej], by simp -implicitDefEqProofs (disch := omega) only [go_sem, ht, upd_self, hss, ei, ej], by simp -implicitDefEqProofs (disch := omega) only [go_sem, ht, upd_self, hss, ei, ej], by simp -implicitDefEqProofs (disch := omega) only [go_sem, ht, upd_self, hss, ei, ej], by simp -implicitDefEqProofs (disch := omega) only [go_sem, ht, upd_self, hss, ei, ej], by simp -implicitDefEqProofs (disch := omega) only [go_sem, ht, upd_self, hss, ei, ej], by first | rfl | simp -implicitDefEqProofs (disch := omega) only [go_sem, ht, upd_self, hss, ei, ej], nx_7 + 1 + 1 + 1 + 1, 0, nx_7 + 1 + 1 + 1 + 1 + 1, 0, [], [], by simp -implicitDefEqProofs (disch := omega) only [go_sem, ht, upd_self, hss, ei, ej], by simp -implicitDefEqProofs (disch := omega) only [go_sem, ht, upd_self, hss, ei, ej], by (simp -implicitDefEqProofs (disch := omega) only [go_sem, ht, upd_self, hss, ei, ej]; rfl), by (simp -implicitDefEqProofs (disch := omega) only [go_sem, ht, upd_self, hss, ei, ej]; rfl), rfl, rfl, by omega, by omega, by omega, ?_, ?_⟩
    all_goals simp -implicitDefEqProofs (disch := omega) only [go_sem, ht, upd_self, hss, ei, ej]
    all_goals omega
  · rintro t ⟨t0, t7, t8, t12, t13, t14, t15, t16, t17, K8, K14, K15, K16, K17, hbt⟩
    have htk : ∀ (m' : List (List (Bool × List Nat))) (r : List Value), m'.length = m.length → List.take m.length (m'.map SW ++ r.map PV.val) = m'.map SW := fun m' r h => by
      rw [List.take_append_of_le_length (by simp; omega), List.take_of_length_le (by simp; omega)]
    have htk1 := htk m1 rest15 hm1l
    have htk2 := htk m2 rest16 hm2l
    have htk3 := htk m3 rest17 hm3l
    have hfl := fun (m' : List (List (Bool × List Nat))) (D : Nat → Bool) (H : Nat → Option (List PV)) => frzL_flat D H 0 (SM_flat m')
    have hle1 : ∀ (m' : List (List (Bool × List Nat))) (r : List Value), m'.length = m.length → m.length ≤ m'.length + r.length := fun m' r h => by omega
    have l1 := hle1 m1 rest15 hm1l
    have l2 := hle1 m2 rest16 hm2l
    have l3 := hle1 m3 rest17 hm3l
    simp -implicitDefEqProofs (disch := omega) only [go_sem, ht, t0, t7, t8, t12, t13, t14, t15, t16, t17]
    (refine pCall_frz (fun x => decide (x = nx_7 + 1)) 1 (by simp -implicitDefEqProofs (disch := omega) only [dropH_at, decide_eq_true_eq, t0, t7, t8, t12, t13, t14, t15, t16, t17, K15, htk1, hfl, l1, go_sem, ht] <;> rfl) (by simp -implicitDefEqProofs (disch := omega) only [dropH_at, decide_eq_true_eq, t0, t7, t8, t12, t13, t14, t15, t16, t17, K15, htk1, hfl, l1, go_sem, ht]) (by simp -implicitDefEqProofs (disch := omega) only [dropH_at, decide_eq_true_eq, t0, t7, t8, t12, t13, t14, t15, t16, t17, K15, htk1, hfl, l1, go_sem, ht] <;> rfl) (by simp -implicitDefEqProofs (disch := omega) only [dropH_at, decide_eq_true_eq, t0, t7, t8, t12, t13, t14, t15, t16, t17, K15, htk1, hfl, l1, go_sem, ht]) (d1) ?_; rintro _ nx - rfl hnx; (try simp only [put_nx, withH_nx, begP_nx] at hnx); simp -implicitDefEqProofs (disch := omega) only [dropH_at, decide_eq_true_eq, t0, t7, t8, t12, t13, t14, t15, t16, t17, K15, htk1, hfl, l1, go_sem, ht])
    have f1 : ¬ nx = nx_7 + 1 + 1 := by omega
    have f2 : ¬ nx = nx_7 + 1 + 1 + 1 := by omega
    have k1 : ¬ nx_4 = nx_7 + 1 := by omega
    have k2 : ¬ nx_4 = nx_7 + 1 + 1 := by omega
    have k3 : ¬ nx_4 = nx_7 + 1 + 1 + 1 := by omega
    have k4 : ¬ nx_7 + 1 = nx_7 := by omega
    have k5 : ¬ nx_7 + 1 + 1 = nx_7 := by omega
    have k6 : ¬ nx_7 + 1 + 1 + 1 = nx_7 := by omega
    have k7 : ¬ nx_7 = nx_7 + 1 := by omega
    have k8 : ¬ nx_7 = nx_7 + 1 + 1 := by omega
    have k9 : ¬ nx_7 = nx_7 + 1 + 1 + 1 := by omega
    (refine pCall_frz (fun x => decide (x = nx_7 + 1 + 1)) 1 (by simp -implicitDefEqProofs (disch := omega) only [dropH_at, decide_eq_true_eq, t0, t7, t8, t12, t13, t14, t15, t16, t17, dropH_at, decide_eq_true_eq, k1, k2, k3, k4, k5, k6, k7, k8, k9, K16, htk2, hfl, l2, go_sem, ht] <;> rfl) (by simp -implicitDefEqProofs (disch := omega) only [dropH_at, decide_eq_true_eq, t0, t7, t8, t12, t13, t14, t15, t16, t17, dropH_at, decide_eq_true_eq, k1, k2, k3, k4, k5, k6, k7, k8, k9, K16, htk2, hfl, l2, go_sem, ht]) (by simp -implicitDefEqProofs (disch := omega) only [dropH_at, decide_eq_true_eq, t0, t7, t8, t12, t13, t14, t15, t16, t17, dropH_at, decide_eq_true_eq, k1, k2, k3, k4, k5, k6, k7, k8, k9, K16, htk2, hfl, l2, go_sem, ht] <;> rfl) (by simp -implicitDefEqProofs (disch := omega) only [dropH_at, decide_eq_true_eq, t0, t7, t8, t12, t13, t14, t15, t16, t17, dropH_at, decide_eq_true_eq, k1, k2, k3, k4, k5, k6, k7, k8, k9, K16, htk2, hfl, l2, go_sem, ht]) (d2) ?_; rintro _ nx - rfl hnx; (try simp only [put_nx, withH_nx, begP_nx] at hnx); simp -implicitDefEqProofs (disch := omega) only [dropH_at, decide_eq_true_eq, t0, t7, t8, t12, t13, t14, t15, t16, t17, dropH_at, decide_eq_true_eq, k1, k2, k3, k4, k5, k6, k7, k8, k9, K16, htk2, hfl, l2, go_sem, ht])
    have f3 : ¬ nx = nx_7 + 1 + 1 + 1 := by omega
    (refine pCall_frz (fun x => decide (x = nx_7 + 1 + 1 + 1)) 1 (by simp -implicitDefEqProofs (disch := omega) only [dropH_at, decide_eq_true_eq, t0, t7, t8, t12, t13, t14, t15, t16, t17, dropH_at, decide_eq_true_eq, k1, k2, k3, k4, k5, k6, k7, k8, k9, f1, f2, f3, K17, htk3, hfl, l3, K8, K14, go_sem, ht] <;> rfl) (by simp -implicitDefEqProofs (disch := omega) only [dropH_at, decide_eq_true_eq, t0, t7, t8, t12, t13, t14, t15, t16, t17, dropH_at, decide_eq_true_eq, k1, k2, k3, k4, k5, k6, k7, k8, k9, f1, f2, f3, K17, htk3, hfl, l3, K8, K14, go_sem, ht]) (by simp -implicitDefEqProofs (disch := omega) only [dropH_at, decide_eq_true_eq, t0, t7, t8, t12, t13, t14, t15, t16, t17, dropH_at, decide_eq_true_eq, k1, k2, k3, k4, k5, k6, k7, k8, k9, f1, f2, f3, K17, htk3, hfl, l3, K8, K14, go_sem, ht] <;> rfl) (by simp -implicitDefEqProofs (disch := omega) only [dropH_at, decide_eq_true_eq, t0, t7, t8, t12, t13, t14, t15, t16, t17, dropH_at, decide_eq_true_eq, k1, k2, k3, k4, k5, k6, k7, k8, k9, f1, f2, f3, K17, htk3, hfl, l3, K8, K14, go_sem, ht]) (d3) ?_; rintro _ nx - rfl hnx; (try simp only [put_nx, withH_nx, begP_nx] at hnx); simp -implicitDefEqProofs (disch := omega) only [dropH_at, decide_eq_true_eq, t0, t7, t8, t12, t13, t14, t15, t16, t17, dropH_at, decide_eq_true_eq, k1, k2, k3, k4, k5, k6, k7, k8, k9, f1, f2, f3, K17, htk3, hfl, l3, K8, K14, go_sem, ht])
    rcases hyb with ⟨rfl, sm2⟩ | ⟨rfl, lm, h32c⟩
    · ((refine pCall_vw (by refine ⟨⟨?_, ?_⟩, ?_, ?_⟩; rotate_left 2; (first | (right; rintro r rfl; rfl) | left); all_goals ((try simp -implicitDefEqProofs (disch := omega) only [t0, t7, t8, t12, t13, t14, t15, t16, t17, dropH_at, decide_eq_true_eq, k1, k2, k3, k4, k5, k6, k7, k8, k9, f1, f2, f3, K8, K14, go_sem, ht]) <;> rfl)) (mm) ?_; rintro _ nx_8 - rfl hnx_8; simp -implicitDefEqProofs (disch := omega) only [t0, t7, t8, t12, t13, t14, t15, t16, t17, dropH_at, decide_eq_true_eq, k1, k2, k3, k4, k5, k6, k7, k8, k9, f1, f2, f3, K8, K14, go_sem, ht]); (refine pCall_vw (by refine ⟨⟨?_, ?_⟩, ?_, ?_⟩; rotate_left 2; (first | (right; rintro r rfl; rfl) | left); all_goals ((try simp -implicitDefEqProofs (disch := omega) only [t0, t7, t8, t12, t13, t14, t15, t16, t17, dropH_at, decide_eq_true_eq, k1, k2, k3, k4, k5, k6, k7, k8, k9, f1, f2, f3, K8, K14, go_sem, ht]) <;> rfl)) (ng) ?_; rintro _ nx_9 - rfl hnx_9; simp -implicitDefEqProofs (disch := omega) only [t0, t7, t8, t12, t13, t14, t15, t16, t17, dropH_at, decide_eq_true_eq, k1, k2, k3, k4, k5, k6, k7, k8, k9, f1, f2, f3, K8, K14, go_sem, ht]); (refine pCall_vw (by refine ⟨⟨?_, ?_⟩, ?_, ?_⟩; rotate_left 2; (first | (right; rintro r rfl; rfl) | left); all_goals ((try simp -implicitDefEqProofs (disch := omega) only [t0, t7, t8, t12, t13, t14, t15, t16, t17, dropH_at, decide_eq_true_eq, k1, k2, k3, k4, k5, k6, k7, k8, k9, f1, f2, f3, K8, K14, go_sem, ht]) <;> rfl)) (sm1) ?_; rintro _ nx_10 - rfl hnx_10; simp -implicitDefEqProofs (disch := omega) only [t0, t7, t8, t12, t13, t14, t15, t16, t17, dropH_at, decide_eq_true_eq, k1, k2, k3, k4, k5, k6, k7, k8, k9, f1, f2, f3, K8, K14, go_sem, ht]); (refine pCall_vw (by refine ⟨⟨?_, ?_⟩, ?_, ?_⟩; rotate_left 2; (first | (right; rintro r rfl; rfl) | left); all_goals ((try simp -implicitDefEqProofs (disch := omega) only [t0, t7, t8, t12, t13, t14, t15, t16, t17, dropH_at, decide_eq_true_eq, k1, k2, k3, k4, k5, k6, k7, k8, k9, f1, f2, f3, K8, K14, go_sem, ht]) <;> rfl)) (sm3) ?_; rintro _ nx_11 - rfl hnx_11; simp -implicitDefEqProofs (disch := omega) only [t0, t7, t8, t12, t13, t14, t15, t16, t17, dropH_at, decide_eq_true_eq, k1, k2, k3, k4, k5, k6, k7, k8, k9, f1, f2, f3, K8, K14, go_sem, ht]); (refine pCall_vw (by refine ⟨⟨?_, ?_⟩, ?_, ?_⟩; rotate_left 2; (first | (right; rintro r rfl; rfl) | left); all_goals ((try simp -implicitDefEqProofs (disch := omega) only [t0, t7, t8, t12, t13, t14, t15, t16, t17, dropH_at, decide_eq_true_eq, k1, k2, k3, k4, k5, k6, k7, k8, k9, f1, f2, f3, K8, K14, go_sem, ht]) <;> rfl)) (sm2) ?_; rintro _ nx_12 - rfl hnx_12; simp -implicitDefEqProofs (disch := omega) only [t0, t7, t8, t12, t13, t14, t15, t16, t17, dropH_at, decide_eq_true_eq, k1, k2, k3, k4, k5, k6, k7, k8, k9, f1, f2, f3, K8, K14, go_sem, ht]))
      (refine end_treeW 0 ?_; simp -implicitDefEqProofs (disch := omega) only [go_sem, ht])
    · have h32ci : (32 : Int) < (k2l : Nat) := by omega
      ((refine pCall_vw (by refine ⟨⟨?_, ?_⟩, ?_, ?_⟩; rotate_left 2; (first | (right; rintro r rfl; rfl) | left); all_goals ((try simp -implicitDefEqProofs (disch := omega) only [t0, t7, t8, t12, t13, t14, t15, t16, t17, dropH_at, decide_eq_true_eq, k1, k2, k3, k4, k5, k6, k7, k8, k9, f1, f2, f3, K8, K14, h32c, h32ci, go_sem, ht]) <;> rfl)) (mm) ?_; rintro _ nx_13 - rfl hnx_13; simp -implicitDefEqProofs (disch := omega) only [t0, t7, t8, t12, t13, t14, t15, t16, t17, dropH_at, decide_eq_true_eq, k1, k2, k3, k4, k5, k6, k7, k8, k9, f1, f2, f3, K8, K14, h32c, h32ci, go_sem, ht]); (refine pCall_vw (by refine ⟨⟨?_, ?_⟩, ?_, ?_⟩; rotate_left 2; (first | (right; rintro r rfl; rfl) | left); all_goals ((try simp -implicitDefEqProofs (disch := omega) only [t0, t7, t8, t12, t13, t14, t15, t16, t17, dropH_at, decide_eq_true_eq, k1, k2, k3, k4, k5, k6, k7, k8, k9, f1, f2, f3, K8, K14, h32c, h32ci, go_sem, ht]) <;> rfl)) (ng) ?_; rintro _ nx_14 - rfl hnx_14; simp -implicitDefEqProofs (disch := omega) only [t0, t7, t8, t12, t13, t14, t15, t16, t17, dropH_at, decide_eq_true_eq, k1, k2, k3, k4, k5, k6, k7, k8, k9, f1, f2, f3, K8, K14, h32c, h32ci, go_sem, ht]); (refine pCall_vw (by refine ⟨⟨?_, ?_⟩, ?_, ?_⟩; rotate_left 2; (first | (right; rintro r rfl; rfl) | left); all_goals ((try simp -implicitDefEqProofs (disch := omega) only [t0, t7, t8, t12, t13, t14, t15, t16, t17, dropH_at, decide_eq_true_eq, k1, k2, k3, k4, k5, k6, k7, k8, k9, f1, f2, f3, K8, K14, h32c, h32ci, go_sem, ht]) <;> rfl)) (sm1) ?_; rintro _ nx_15 - rfl hnx_15; simp -implicitDefEqProofs (disch := omega) only [t0, t7, t8, t12, t13, t14, t15, t16, t17, dropH_at, decide_eq_true_eq, k1, k2, k3, k4, k5, k6, k7, k8, k9, f1, f2, f3, K8, K14, h32c, h32ci, go_sem, ht]); (refine pCall_vw (by refine ⟨⟨?_, ?_⟩, ?_, ?_⟩; rotate_left 2; (first | (right; rintro r rfl; rfl) | left); all_goals ((try simp -implicitDefEqProofs (disch := omega) only [t0, t7, t8, t12, t13, t14, t15, t16, t17, dropH_at, decide_eq_true_eq, k1, k2, k3, k4, k5, k6, k7, k8, k9, f1, f2, f3, K8, K14, h32c, h32ci, go_sem, ht]) <;> rfl)) (sm3) ?_; rintro _ nx_16 - rfl hnx_16; simp -implicitDefEqProofs (disch := omega) only [t0, t7, t8, t12, t13, t14, t15, t16, t17, dropH_at, decide_eq_true_eq, k1, k2, k3, k4, k5, k6, k7, k8, k9, f1, f2, f3, K8, K14, h32c, h32ci, go_sem, ht]); (refine pCall_vw (by refine ⟨⟨?_, ?_⟩, ?_, ?_⟩; rotate_left 2; (first | (right; rintro r rfl; rfl) | left); all_goals ((try simp -implicitDefEqProofs (disch := omega) only [t0, t7, t8, t12, t13, t14, t15, t16, t17, dropH_at, decide_eq_true_eq, k1, k2, k3, k4, k5, k6, k7, k8, k9, f1, f2, f3, K8, K14, h32c, h32ci, go_sem, ht]) <;> rfl)) (lm) ?_; rintro _ nx_17 - rfl hnx_17; simp -implicitDefEqProofs (disch := omega) only [t0, t7, t8, t12, t13, t14, t15, t16, t17, dropH_at, decide_eq_true_eq, k1, k2, k3, k4, k5, k6, k7, k8, k9, f1, f2, f3, K8, K14, h32c, h32ci, go_sem, ht]))
      (refine end_treeW 0 ?_; simp -implicitDefEqProofs (disch := omega) only [go_sem, ht])
end
end Go.Proofs.Ytfjdfnlkobeehaa
end

section
set_option maxRecDepth 100000
set_option linter.unusedVariables false
set_option linter.unusedSimpArgs false
namespace Go.Proofs.Ytfjdfnlkobeehaa
section
variable {m : List (List (Bool × List Nat))}
set_option maxHeartbeats 64000000 in
theorem turns_main {bn wn : Int} (hm : ∀ l ∈ m, ∀ p ∈ l, Lm p.2) (lo : -9223372036854775808 ≤ bn) (hi : bn ≤ 9223372036854775807) (lo2 : -9223372036854775808 ≤ wn) (hi2 : wn ≤ 9223372036854775807) (hl : ¬ 1500 < lenM m) (hw' : wrongM m m.length = false) (h8 : ¬ 8 < m.length) (h32 : ¬ 32 < (D (detZ (m.map vals) m.length).natAbs).length) (hn2 : 2 ≤ m.length) :
    PT Try.prog 7 [SM m, .val (.int .i64 bn), .val (.int .i64 wn)] (isV (.val (.bool true))) := by
  have hk2 : ¬ m.length < 2 := by omega
  have hlr := len_rows (m := m) (by omega)
  have hml := lenM_len m
  have hMx : Mx m 1500 := ⟨hm, by omega, by omega⟩
  have hft := fits_calls (m := m) (cn := m.length) (by omega)
  rw [hw', Bool.not_false] at hft
  obtain ⟨k, ek, hn32, hm64, hlc⟩ := wrongM_false hw'
  obtain rfl : m.length = k := by omega
  have hWl : (m.map vals).length = m.length := by simp
  have hWc : ∀ z ∈ m.map vals, z.length = m.length := fun z hz => by
    obtain ⟨l, hl, rfl⟩ := List.mem_map.1 hz
    rw [vals_len]; exact hlc l hl
  have hd := mdet_calls hMx (cn := m.length)
  have hr := mrank_calls hMx (cn := m.length)
  have e1 : mDet m m.length = if 32 < (D (detZ (m.map vals) m.length).natAbs).length then (0, 2) else (detZ (m.map vals) m.length, 0) := by unfold mDet; rw [hw', Int.toNat_natCast]; simp
  have e2 : mRank m m.length = (((echW (m.map vals) m.length).2.length : Int), 0) := by unfold mRank; rw [hw', Int.toNat_natCast]; rfl
  rw [e1] at hd
  rw [e2] at hr
  have hdr := det_rank hWl hWc
  have hrle := ech_le hWl hWc
  clear e1 e2
  rw [if_neg h32] at hd
  have hZd : Z 32 (detZ (m.map vals) m.length) := D_len_le.1 (by omega)
  have hWc2 : ∀ i, i < m.length → ((m.map vals).getD i []).length = m.length := fun i hi => hWc _ (getD_mem (by omega))
  have hkk : m.length ≤ 8 := by omega
  have hWv : ∀ i, i < m.length → (m.map vals).getD i [] = vals (m.getD i []) := fun i hi => getD_vals (by omega)
  have hsg := signW (Wn.C hZd (by omega))
  have hbb : decide (cZ (detZ (m.map vals) m.length) 0 = 0) = decide ((echW (m.map vals) m.length).2.length < m.length) := by
    have hc0 : ∀ s : Int, cZ s 0 = 0 ↔ s = 0 := fun s => by unfold cZ; split <;> (try split) <;> omega
    rw [Bool.eq_iff_iff, decide_eq_true_iff, decide_eq_true_iff, hc0]; exact hdr
  have hbi : decide (((echW (m.map vals) m.length).2.length : Int) < (m.length : Int)) = decide (cZ (detZ (m.map vals) m.length) 0 = 0) := by
    rw [hbb, Bool.eq_iff_iff, decide_eq_true_iff, decide_eq_true_iff]; omega
  obtain ⟨q0, hq, hq2⟩ := and_int wn
  obtain ⟨i, ei⟩ : ∃ i, q0 % m.length = i := ⟨_, rfl⟩
  obtain ⟨j, ej⟩ : ∃ j, (i + 1) % m.length = j := ⟨_, rfl⟩
  have hin : i < m.length := by rw [← ei]; exact Nat.mod_lt _ (by omega)
  have hjn : j < m.length := by rw [← ej]; exact Nat.mod_lt _ (by omega)
  have hij : i ≠ j := by
    rw [← ej]
    by_cases h : i + 1 < m.length
    · rw [Nat.mod_eq_of_lt h]; omega
    · rw [show i + 1 = m.length by omega, Nat.mod_self]; omega
  have hrem := rem_int (P := Try.prog) 3 bn
  obtain ⟨c0, ec⟩ : ∃ c0, bn.tmod 1000 = c0 := ⟨_, rfl⟩
  have hc0 : -1000 < c0 ∧ c0 < 1000 := by
    rw [← ec, Int.tmod_eq_emod]
    have h1 := Int.emod_nonneg bn (show (1000 : Int) ≠ 0 by decide)
    have h2 := Int.emod_lt_of_pos bn (show (0 : Int) < 1000 by decide)
    split <;> simp <;> omega
  rw [ec] at hrem
  have of1 := wof_v (x := c0) (by omega) (by omega)
  have hZc : Z 1 c0 := Z2 (by omega)
  obtain ⟨li, eli⟩ : ∃ l, m.getD i [] = l := ⟨_, rfl⟩
  obtain ⟨lj, elj⟩ : ∃ l, m.getD j [] = l := ⟨_, rfl⟩
  have hmi : li ∈ m := eli ▸ getD_mem hin
  have hmj : lj ∈ m := elj ▸ getD_mem hjn
  have hli := hlc li hmi
  have hlj := hlc lj hmj
  have hRi := hMx.rn hmi
  have hRj := hMx.rn hmj
  have hgi := get_SM' (m := m) hin
  have hgj := get_SM' (m := m) hjn
  rw [eli, SW_def, hli] at hgi
  rw [elj, SW_def, hlj] at hgj
  obtain ⟨sc, esc⟩ : ∃ z, (vals li).map (c0 * ·) = z := ⟨_, rfl⟩
  obtain ⟨ad, ead⟩ : ∃ z, List.zipWith (fun x y => x + c0 * y) (vals li) (vals lj) = z := ⟨_, rfl⟩
  have hscl : sc.length = m.length := by rw [← esc, List.length_map, vals_len]; exact hli
  have hadl : ad.length = m.length := by rw [← ead, List.length_zipWith, vals_len, vals_len]; omega
  have hscv : ∀ k, vc sc k = c0 * vc (vals li) k := fun k => by rw [← esc]; exact mulL_vc c0 _ k
  have hadv : ∀ k, vc ad k = vc (vals li) k + c0 * vc (vals lj) k := fun k => by
    by_cases hk : k < m.length
    · rw [vc_lt (by omega), vc_lt (by rw [vals_len]; omega), vc_lt (by rw [vals_len]; omega)]
      simp [← ead]
    · rw [vc_ge (by omega), vc_ge (by rw [vals_len]; omega), vc_ge (by rw [vals_len]; omega)]; simp
  have hscz : ∀ x ∈ sc, Z 1502 x := fun x hx => by
    obtain ⟨k, hk, rfl⟩ := List.mem_iff_getElem.1 hx
    rw [← vc_lt hk, hscv]
    exact (hZc.mul (vc_z hRi.z k)).mono (by omega)
  have hadz : ∀ x ∈ ad, Z 1502 x := fun x hx => by
    obtain ⟨k, hk, rfl⟩ := List.mem_iff_getElem.1 hx
    rw [← vc_lt hk, hadv]
    exact ((vc_z hRi.z k).mono (show 1500 ≤ 1501 by omega)).add ((hZc.mul (vc_z hRj.z k)).mono (by omega))
  
  have hset3 : ∀ z : List Int, z.length = m.length → (∀ x ∈ z, Z 1502 x) → Mx (m.set i (CZ z)) 20000 ∧ (∀ l ∈ m.set i (CZ z), l.length = m.length) ∧ (m.set i (CZ z)).map vals = (m.map vals).set i z := fun z hz hzz => by
    refine ⟨⟨fun l hl p hp => ?_, ?_, by omega⟩, fun l hl => ?_, by rw [List.map_set, vals_CZ]⟩
    · rcases List.mem_or_eq_of_mem_set hl with hl | rfl
      · exact hm l hl p hp
      · exact CZ_lm z p hp
    · have h1 := lenW_CZ hzz
      have h2 : lenM (m.set i (CZ z)) + lenW (m.getD i []) = lenM m + lenW (CZ z) := by
        have e := List.take_append_drop i m
        unfold lenM
        rw [List.set_eq_take_append_cons_drop, if_pos hin]
        conv => rhs; rw [← List.take_append_drop i m, List.drop_eq_getElem_cons hin]
        simp only [List.map_append, List.map_cons, List.sum_append, List.sum_cons]
        rw [show m.getD i [] = m[i] by simp [hin]]
        omega
      have h3 : z.length * 1503 ≤ 8 * 1503 := Nat.mul_le_mul_right _ (by omega)
      omega
    · rcases List.mem_or_eq_of_mem_set hl with hl | rfl
      · exact hlc l hl
      · rw [CZ_len]; exact hz
  have hwf : ∀ m' : List (List (Bool × List Nat)), m'.length = m.length → (∀ l ∈ m', l.length = m.length) → wrongM m' m.length = false := fun m' h1 h2 => decide_eq_false (by
    rintro (h | h | h | ⟨l, hl, hne⟩)
    · omega
    · omega
    · omega
    · exact hne (by rw [h2 l hl]))
  obtain ⟨m1, em1⟩ : ∃ m1, (m.set i lj).set j li = m1 := ⟨_, rfl⟩
  obtain ⟨m2, em2⟩ : ∃ m2, m.set i (CZ sc) = m2 := ⟨_, rfl⟩
  obtain ⟨m3, em3⟩ : ∃ m3, m.set i (CZ ad) = m3 := ⟨_, rfl⟩
  have hm1l : m1.length = m.length := by rw [← em1]; simp
  have hm2l : m2.length = m.length := by rw [← em2]; simp
  have hm3l : m3.length = m.length := by rw [← em3]; simp
  have hm1c : ∀ l ∈ m1, l ∈ m := fun l hl => by
    rw [← em1] at hl
    rcases List.mem_or_eq_of_mem_set hl with hl | rfl
    · rcases List.mem_or_eq_of_mem_set hl with hl | rfl
      · exact hl
      · exact hmj
    · exact hmi
  have hM1 : Mx m1 20000 := by
    refine ⟨fun l hl p hp => hm l (hm1c l hl) p hp, ?_, by omega⟩
    have : ∀ (ms : List (List (Bool × List Nat))), (∀ l ∈ ms, l ∈ m) → lenM ms ≤ ms.length * 1501 := by
      intro ms
      induction ms with
      | nil => intro _; simp [lenM]
      | cons l ms ih =>
        intro hl
        have h1 := ih fun x hx => hl x (List.mem_cons_of_mem _ hx)
        have h2 := lenM_mem (hl l (List.mem_cons_self ..))
        have e : lenM (l :: ms) = 1 + lenW l + lenM ms := by simp [lenM]
        rw [e, List.length_cons, Nat.succ_mul]; omega
    have h1 := this m1 hm1c
    have h2 : m1.length * 1501 ≤ 8 * 1501 := Nat.mul_le_mul_right _ (by omega)
    omega
  obtain ⟨hM2, hc2, hv2⟩ := hset3 sc hscl hscz
  obtain ⟨hM3, hc3, hv3⟩ := hset3 ad hadl hadz
  rw [em2] at hM2 hc2 hv2
  rw [em3] at hM3 hc3 hv3
  have hWi : (m.map vals).getD i [] = vals li := by rw [hWv i hin, eli]
  have hWj : (m.map vals).getD j [] = vals lj := by rw [hWv j hjn, elj]
  have D1 : detZ (m1.map vals) m.length = -detZ (m.map vals) m.length := by
    rw [← em1, List.map_set, List.map_set, ← hWi, ← hWj]
    exact det_swap hWl hin hjn hij
  have D2 : detZ (m2.map vals) m.length = c0 * detZ (m.map vals) m.length := by
    rw [hv2]
    exact det_scale hWl hin fun k => by rw [hscv, hWi]
  have D3 : detZ (m3.map vals) m.length = detZ (m.map vals) m.length := by
    rw [hv3]
    exact det_add (t := c0) hWl hin hjn hij fun k => by rw [hadv, hWi, hWj]
  have mD : ∀ m' : List (List (Bool × List Nat)), m'.length = m.length → wrongM m' m.length = false → mDet m' m.length = if 32 < (D (detZ (m'.map vals) m.length).natAbs).length then (0, 2) else (detZ (m'.map vals) m.length, 0) := fun m' h1 h2 => by
    unfold mDet
    rw [h2, Int.toNat_natCast, h1]; simp
  have d1 := mdet_calls hM1 (cn := m.length)
  have d2 := mdet_calls hM2 (cn := m.length)
  have d3 := mdet_calls hM3 (cn := m.length)
  rw [mD m1 hm1l (hwf m1 hm1l fun l hl => hlc l (hm1c l hl)), D1, Int.natAbs_neg, if_neg h32, SM_def, hm1l] at d1
  rw [mD m2 hm2l (hwf m2 hm2l hc2), D2, SM_def, hm2l] at d2
  rw [mD m3 hm3l (hwf m3 hm3l hc3), D3, if_neg h32, SM_def, hm3l] at d3
  have mm := mulW (Wn.C hZd (by omega)) (Wn.C hZc (by omega))
  have hZm := hZd.mul hZc
  rw [Int.mul_comm] at mm hZm
  have lm := limbsW (Wn.C hZm (by omega))
  rw [Ref.limbs_eq] at lm
  have ng := negW (Wn.C hZd (by omega))
  have sm1 := sameT hZd.neg (by omega) (rfl : -detZ (m.map vals) m.length = -detZ (m.map vals) m.length)
  have sm2 := sameT hZm (by omega) (rfl : c0 * detZ (m.map vals) m.length = c0 * detZ (m.map vals) m.length)
  have sm3 := sameT hZd (by omega) (rfl : detZ (m.map vals) m.length = detZ (m.map vals) m.length)
  clear D1 D2 D3 mD hset3 hdr hbb hWc2 hWc hWv hWi hWj hWl hM1 hM2 hM3 hc2 hc3 hv2 hv3 hwf
  generalize (echW (m.map vals) m.length).2.length = rr at *
  generalize cZ (detZ (m.map vals) m.length) 0 = sx at *
  generalize detZ (m.map vals) m.length = d at *
  have hbn : (decide (sx = 0) != decide ((rr : Int) < (m.length : Int))) = false := by rw [← hbi]; simp
  obtain ⟨y2, b2, e2, hyb⟩ : ∃ y2 b2 : Int, (if 32 < (D (c0 * d).natAbs).length then ((0, 2) : Int × Int) else (c0 * d, 0)) = (y2, b2) ∧ ((b2 = 0 ∧ y2 = c0 * d) ∨ (b2 = 2 ∧ 32 < (D (c0 * d).natAbs).length)) := by
    by_cases h : 32 < (D (c0 * d).natAbs).length
    · exact ⟨0, 2, if_pos h, .inr ⟨rfl, h⟩⟩
    · exact ⟨c0 * d, 0, if_neg h, .inl ⟨rfl, rfl⟩⟩
  rw [e2] at d2
  refine turns_walk (ln := lenM m) (k2l := (D (c0 * d).natAbs).length) (y3 := fun q => c0 * vc (vals lj) q) hn2 (by omega) hin hjn hij (by omega) hlr hft hd hr hsg hbn hq ei ej hrem of1 hgi hgj hli hlj hscl hadl em1 em2 em3 hm1l hm2l hm3l d1 d2 d3 mm ng sm1 sm3 ?_ (fun q hq => ?_) (fun q hq => ?_) fun q hq => ?_
  · rcases hyb with ⟨h1, h2⟩ | ⟨h1, h2⟩
    · exact .inl ⟨h1, by rw [h2]; exact sm2⟩
    · exact .inr ⟨h1, lm, h2⟩
  · have w1 := hRi.wn (show q < li.length by omega)
    have := mulW w1 (Wn.C hZc (by omega))
    rwa [Int.mul_comm (vc (vals li) q) c0, ← hscv q] at this
  · exact mulW (Wn.C hZc (by omega)) (hRj.wn (show q < lj.length by omega))
  · have w1 := hRi.wn (show q < li.length by omega)
    have w2 := hRj.wn (show q < lj.length by omega)
    have zc2 : Z 1501 (c0 * vc (vals lj) q) := (hZc.mul w2.z).mono (by omega)
    have := addW (w1.mono (show 1500 ≤ 1501 by omega) (by omega)) (Wn.C zc2 (by omega))
    rwa [← hadv q] at this
theorem turns_law {bn wn : Int} (hm : ∀ l ∈ m, ∀ p ∈ l, Lm p.2) (hb : lenM m + 1 ≤ 1048576) (lo : -9223372036854775808 ≤ bn) (hi : bn ≤ 9223372036854775807) (lo2 : -9223372036854775808 ≤ wn) (hi2 : wn ≤ 9223372036854775807) :
    PT Try.prog 7 [SM m, .val (.int .i64 bn), .val (.int .i64 wn)] (isV (.val (.bool true))) := by
  have hlr := len_rows (m := m) (by omega)
  have hml := lenM_len m
  by_cases hl : 1500 < lenM m
  · refine PCalls.enter (n := 247) (rs := [.tmp 6]) (tb := [(15, [(0, []), (1, []), (2, []), (3, []), (4, [3]), (5, []), (6, []), (7, []), (8, []), (9, []), (10, []), (11, []), (12, []), (13, []), (14, []), (15, []), (16, []), (17, [11]), (18, []), (19, []), (20, []), (21, [])]), (1000015, [(0, []), (1, []), (3, []), (7, []), (7, []), (31, []), (63, []), (127, []), (255, []), (511, []), (1023, []), (2047, []), (2047, []), (6143, []), (14335, []), (30719, []), (63487, []), (129023, []), (262143, []), (524287, []), (1048575, []), (2097151, [])]), (29, [(0, []), (1, []), (2, []), (3, []), (4, []), (5, []), (6, []), (7, []), (8, []), (9, []), (10, []), (11, []), (12, []), (13, []), (14, [0, 1, 2, 3, 4, 5]), (15, [0, 1, 2, 3, 4, 5]), (16, [0, 1]), (17, []), (18, [])]), (1000029, [(0, []), (0, []), (0, []), (0, []), (12, []), (28, []), (0, []), (0, []), (192, []), (448, []), (0, []), (1984, []), (4032, []), (0, []), (16320, []), (32704, []), (65532, []), (131071, []), (262143, [])]), (30, [(0, []), (1, []), (2, []), (3, []), (4, []), (5, []), (6, []), (7, []), (8, []), (9, []), (10, []), (11, []), (12, []), (13, []), (14, []), (15, []), (16, []), (17, []), (18, []), (19, []), (20, []), (21, [0, 1, 2, 3, 4, 5, 6, 7, 8, 9, 10, 11, 12]), (22, [0, 1, 2, 3, 4, 5]), (23, [0, 1, 2, 3, 4, 5]), (24, [0, 1]), (25, []), (26, [])]), (1000030, [(0, []), (0, []), (0, []), (0, []), (12, []), (28, []), (0, []), (0, []), (192, []), (448, []), (0, []), (1984, []), (4032, []), (0, []), (0, []), (0, []), (49152, []), (114688, []), (0, []), (507904, []), (1032192, []), (2088960, []), (4194240, []), (8388544, []), (16777212, []), (33554431, []), (67108863, [])]), (35, [(0, []), (1, []), (2, []), (3, []), (4, []), (5, [3]), (6, []), (7, []), (8, []), (9, []), (10, []), (11, []), (12, []), (13, []), (14, []), (15, []), (16, []), (17, []), (18, []), (19, []), (20, []), (21, []), (22, []), (23, []), (24, []), (25, []), (26, []), (27, []), (28, []), (29, []), (30, []), (31, []), (32, []), (33, []), (34, []), (35, [])]), (1000035, [(0, []), (1, []), (3, []), (7, []), (7, []), (23, []), (63, []), (127, []), (255, []), (511, []), (1023, []), (2047, []), (4095, []), (8191, []), (8191, []), (32767, []), (65535, []), (131071, []), (262143, []), (524287, []), (1048575, []), (2097151, []), (2097151, []), (8388607, []), (16777215, []), (33554431, []), (67108863, []), (134217727, []), (268435455, []), (536870911, []), (1073741823, []), (2147483647, []), (4294967295, []), (8589934591, []), (17179869183, []), (34359738367, [])])]) Try.func7 rfl rfl rfl (by kernel_rfl) (by kernel_rfl) (by simp) fun c hc ht => ?_
    simp -implicitDefEqProofs (disch := omega) only [go_sem, ht]
    ((refine pCall_vw (by refine ⟨⟨?_, ?_⟩, ?_, ?_⟩; rotate_left 2; (first | (right; rintro r rfl; rfl) | left); all_goals ((try simp -implicitDefEqProofs (disch := omega) only [go_sem, ht]) <;> rfl)) (awake_matrix) ?_; rintro _ nx_1 - rfl hnx_1; simp -implicitDefEqProofs (disch := omega) only [go_sem, ht]); (refine pCall_vw (by refine ⟨⟨?_, ?_⟩, ?_, ?_⟩; rotate_left 2; (first | (right; rintro r rfl; rfl) | left); all_goals ((try simp -implicitDefEqProofs (disch := omega) only [go_sem, ht]) <;> rfl)) (hlr) ?_; rintro _ nx_2 - rfl hnx_2; simp -implicitDefEqProofs (disch := omega) only [go_sem, ht]))
    (refine end_treeW 0 ?_; simp -implicitDefEqProofs (disch := omega) only [go_sem, ht])
  have hft := fits_calls (m := m) (cn := m.length) (by omega)
  by_cases hw : wrongM m m.length = true
  · rw [hw, Bool.not_true] at hft
    refine PCalls.enter (n := 247) (rs := [.tmp 6]) (tb := [(15, [(0, []), (1, []), (2, []), (3, []), (4, [3]), (5, []), (6, []), (7, []), (8, []), (9, []), (10, []), (11, []), (12, []), (13, []), (14, []), (15, []), (16, []), (17, [11]), (18, []), (19, []), (20, []), (21, [])]), (1000015, [(0, []), (1, []), (3, []), (7, []), (7, []), (31, []), (63, []), (127, []), (255, []), (511, []), (1023, []), (2047, []), (2047, []), (6143, []), (14335, []), (30719, []), (63487, []), (129023, []), (262143, []), (524287, []), (1048575, []), (2097151, [])]), (29, [(0, []), (1, []), (2, []), (3, []), (4, []), (5, []), (6, []), (7, []), (8, []), (9, []), (10, []), (11, []), (12, []), (13, []), (14, [0, 1, 2, 3, 4, 5]), (15, [0, 1, 2, 3, 4, 5]), (16, [0, 1]), (17, []), (18, [])]), (1000029, [(0, []), (0, []), (0, []), (0, []), (12, []), (28, []), (0, []), (0, []), (192, []), (448, []), (0, []), (1984, []), (4032, []), (0, []), (16320, []), (32704, []), (65532, []), (131071, []), (262143, [])]), (30, [(0, []), (1, []), (2, []), (3, []), (4, []), (5, []), (6, []), (7, []), (8, []), (9, []), (10, []), (11, []), (12, []), (13, []), (14, []), (15, []), (16, []), (17, []), (18, []), (19, []), (20, []), (21, [0, 1, 2, 3, 4, 5, 6, 7, 8, 9, 10, 11, 12]), (22, [0, 1, 2, 3, 4, 5]), (23, [0, 1, 2, 3, 4, 5]), (24, [0, 1]), (25, []), (26, [])]), (1000030, [(0, []), (0, []), (0, []), (0, []), (12, []), (28, []), (0, []), (0, []), (192, []), (448, []), (0, []), (1984, []), (4032, []), (0, []), (0, []), (0, []), (49152, []), (114688, []), (0, []), (507904, []), (1032192, []), (2088960, []), (4194240, []), (8388544, []), (16777212, []), (33554431, []), (67108863, [])]), (35, [(0, []), (1, []), (2, []), (3, []), (4, []), (5, [3]), (6, []), (7, []), (8, []), (9, []), (10, []), (11, []), (12, []), (13, []), (14, []), (15, []), (16, []), (17, []), (18, []), (19, []), (20, []), (21, []), (22, []), (23, []), (24, []), (25, []), (26, []), (27, []), (28, []), (29, []), (30, []), (31, []), (32, []), (33, []), (34, []), (35, [])]), (1000035, [(0, []), (1, []), (3, []), (7, []), (7, []), (23, []), (63, []), (127, []), (255, []), (511, []), (1023, []), (2047, []), (4095, []), (8191, []), (8191, []), (32767, []), (65535, []), (131071, []), (262143, []), (524287, []), (1048575, []), (2097151, []), (2097151, []), (8388607, []), (16777215, []), (33554431, []), (67108863, []), (134217727, []), (268435455, []), (536870911, []), (1073741823, []), (2147483647, []), (4294967295, []), (8589934591, []), (17179869183, []), (34359738367, [])])]) Try.func7 rfl rfl rfl (by kernel_rfl) (by kernel_rfl) (by simp) fun c hc ht => ?_
    simp -implicitDefEqProofs (disch := omega) only [go_sem, ht]
    ((refine pCall_vw (by refine ⟨⟨?_, ?_⟩, ?_, ?_⟩; rotate_left 2; (first | (right; rintro r rfl; rfl) | left); all_goals ((try simp -implicitDefEqProofs (disch := omega) only [go_sem, ht]) <;> rfl)) (awake_matrix) ?_; rintro _ nx_3 - rfl hnx_3; simp -implicitDefEqProofs (disch := omega) only [go_sem, ht]); (refine pCall_vw (by refine ⟨⟨?_, ?_⟩, ?_, ?_⟩; rotate_left 2; (first | (right; rintro r rfl; rfl) | left); all_goals ((try simp -implicitDefEqProofs (disch := omega) only [go_sem, ht]) <;> rfl)) (hlr) ?_; rintro _ nx_4 - rfl hnx_4; simp -implicitDefEqProofs (disch := omega) only [go_sem, ht]); (refine pCall_vw (by refine ⟨⟨?_, ?_⟩, ?_, ?_⟩; rotate_left 2; (first | (right; rintro r rfl; rfl) | left); all_goals ((try simp -implicitDefEqProofs (disch := omega) only [go_sem, ht]) <;> rfl)) (hft) ?_; rintro _ nx_5 - rfl hnx_5; simp -implicitDefEqProofs (disch := omega) only [go_sem, ht]))
    (refine end_treeW 0 ?_; simp -implicitDefEqProofs (disch := omega) only [go_sem, ht])
  have hw' : wrongM m m.length = false := by simpa using hw
  rw [hw', Bool.not_false] at hft
  by_cases h8 : 8 < m.length
  · refine PCalls.enter (n := 247) (rs := [.tmp 6]) (tb := [(15, [(0, []), (1, []), (2, []), (3, []), (4, [3]), (5, []), (6, []), (7, []), (8, []), (9, []), (10, []), (11, []), (12, []), (13, []), (14, []), (15, []), (16, []), (17, [11]), (18, []), (19, []), (20, []), (21, [])]), (1000015, [(0, []), (1, []), (3, []), (7, []), (7, []), (31, []), (63, []), (127, []), (255, []), (511, []), (1023, []), (2047, []), (2047, []), (6143, []), (14335, []), (30719, []), (63487, []), (129023, []), (262143, []), (524287, []), (1048575, []), (2097151, [])]), (29, [(0, []), (1, []), (2, []), (3, []), (4, []), (5, []), (6, []), (7, []), (8, []), (9, []), (10, []), (11, []), (12, []), (13, []), (14, [0, 1, 2, 3, 4, 5]), (15, [0, 1, 2, 3, 4, 5]), (16, [0, 1]), (17, []), (18, [])]), (1000029, [(0, []), (0, []), (0, []), (0, []), (12, []), (28, []), (0, []), (0, []), (192, []), (448, []), (0, []), (1984, []), (4032, []), (0, []), (16320, []), (32704, []), (65532, []), (131071, []), (262143, [])]), (30, [(0, []), (1, []), (2, []), (3, []), (4, []), (5, []), (6, []), (7, []), (8, []), (9, []), (10, []), (11, []), (12, []), (13, []), (14, []), (15, []), (16, []), (17, []), (18, []), (19, []), (20, []), (21, [0, 1, 2, 3, 4, 5, 6, 7, 8, 9, 10, 11, 12]), (22, [0, 1, 2, 3, 4, 5]), (23, [0, 1, 2, 3, 4, 5]), (24, [0, 1]), (25, []), (26, [])]), (1000030, [(0, []), (0, []), (0, []), (0, []), (12, []), (28, []), (0, []), (0, []), (192, []), (448, []), (0, []), (1984, []), (4032, []), (0, []), (0, []), (0, []), (49152, []), (114688, []), (0, []), (507904, []), (1032192, []), (2088960, []), (4194240, []), (8388544, []), (16777212, []), (33554431, []), (67108863, [])]), (35, [(0, []), (1, []), (2, []), (3, []), (4, []), (5, [3]), (6, []), (7, []), (8, []), (9, []), (10, []), (11, []), (12, []), (13, []), (14, []), (15, []), (16, []), (17, []), (18, []), (19, []), (20, []), (21, []), (22, []), (23, []), (24, []), (25, []), (26, []), (27, []), (28, []), (29, []), (30, []), (31, []), (32, []), (33, []), (34, []), (35, [])]), (1000035, [(0, []), (1, []), (3, []), (7, []), (7, []), (23, []), (63, []), (127, []), (255, []), (511, []), (1023, []), (2047, []), (4095, []), (8191, []), (8191, []), (32767, []), (65535, []), (131071, []), (262143, []), (524287, []), (1048575, []), (2097151, []), (2097151, []), (8388607, []), (16777215, []), (33554431, []), (67108863, []), (134217727, []), (268435455, []), (536870911, []), (1073741823, []), (2147483647, []), (4294967295, []), (8589934591, []), (17179869183, []), (34359738367, [])])]) Try.func7 rfl rfl rfl (by kernel_rfl) (by kernel_rfl) (by simp) fun c hc ht => ?_
    simp -implicitDefEqProofs (disch := omega) only [go_sem, ht]
    ((refine pCall_vw (by refine ⟨⟨?_, ?_⟩, ?_, ?_⟩; rotate_left 2; (first | (right; rintro r rfl; rfl) | left); all_goals ((try simp -implicitDefEqProofs (disch := omega) only [go_sem, ht]) <;> rfl)) (awake_matrix) ?_; rintro _ nx_6 - rfl hnx_6; simp -implicitDefEqProofs (disch := omega) only [go_sem, ht]); (refine pCall_vw (by refine ⟨⟨?_, ?_⟩, ?_, ?_⟩; rotate_left 2; (first | (right; rintro r rfl; rfl) | left); all_goals ((try simp -implicitDefEqProofs (disch := omega) only [go_sem, ht]) <;> rfl)) (hlr) ?_; rintro _ nx_7 - rfl hnx_7; simp -implicitDefEqProofs (disch := omega) only [go_sem, ht]); (refine pCall_vw (by refine ⟨⟨?_, ?_⟩, ?_, ?_⟩; rotate_left 2; (first | (right; rintro r rfl; rfl) | left); all_goals ((try simp -implicitDefEqProofs (disch := omega) only [go_sem, ht]) <;> rfl)) (hft) ?_; rintro _ nx_8 - rfl hnx_8; simp -implicitDefEqProofs (disch := omega) only [go_sem, ht]))
    (refine end_treeW 0 ?_; simp -implicitDefEqProofs (disch := omega) only [go_sem, ht])
  by_cases h32 : 32 < (D (detZ (m.map vals) m.length).natAbs).length
  · exact turns_big hm lo hi lo2 hi2 hl hw' h8 h32
  by_cases hk2 : m.length < 2
  · exact turns_small hm lo hi lo2 hi2 hl hw' h8 h32 hk2
  · exact turns_main hm lo hi lo2 hi2 hl hw' h8 h32 (by omega)
end
end Go.Proofs.Ytfjdfnlkobeehaa
end
