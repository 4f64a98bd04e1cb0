/- Part 41 of the way to the statement: the walk and what it needs. -/
import Derived.Test.YtfjdfnlkobeehaaKMkF35
import Derived.Test.YtfjdfnlkobeehaaKMkF36
import Derived.Test.YtfjdfnlkobeehaaKMkF37
import Derived.Test.YtfjdfnlkobeehaaKMkF38
import Derived.Test.YtfjdfnlkobeehaaKMkF39
import Derived.Test.YtfjdfnlkobeehaaKMkF40
section
set_option maxRecDepth 100000
set_option linter.unusedVariables false
set_option linter.unusedSimpArgs false
namespace Go.Proofs.Ytfjdfnlkobeehaa.Ref

end Go.Proofs.Ytfjdfnlkobeehaa.Ref

namespace Go.Proofs.Ytfjdfnlkobeehaa.Ref


end Go.Proofs.Ytfjdfnlkobeehaa.Ref
end

section
set_option maxRecDepth 100000
set_option linter.unusedVariables false
set_option linter.unusedSimpArgs false
namespace Go.Proofs.Ytfjdfnlkobeehaa.Ref


def QZ (p : Int) (d : Nat) : PV := .agg [.val (.bool (decide (p < 0))), .sl (D p.natAbs).length ((D p.natAbs).map I), .val (.bool false), .sl (D d).length ((D d).map I)]
theorem QZ_def (p : Int) (d : Nat) : QZ p d = .agg [.val (.bool (decide (p < 0))), .sl (D p.natAbs).length ((D p.natAbs).map I), .val (.bool false), .sl (D d).length ((D d).map I)] := rfl
attribute [go_sem] QZ_def
section
variable {α : Type} (a b c d w x y z : α)
theorem spl_404 : spl [a, b, c, d] 0 [w, x, y, z] = [w, x, y, z] := rfl
theorem spl_402 : spl [a, b, c, d] 0 [x, y] = [x, y, c, d] := rfl
theorem spl_422 : spl [a, b, c, d] 2 [x, y] = [a, b, x, y] := rfl
theorem take_44 : [a, b, c, d].take 4 = [a, b, c, d] := rfl
theorem take_42 : [a, b, c, d].take 2 = [a, b] := rfl
theorem drop_42 : [a, b, c, d].drop 2 = [c, d] := rfl
end
attribute [go_sem] spl_404 spl_402 spl_422 take_44 take_42 drop_42
end Go.Proofs.Ytfjdfnlkobeehaa.Ref

namespace Go.Proofs.Ytfjdfnlkobeehaa.Ref

end Go.Proofs.Ytfjdfnlkobeehaa.Ref

namespace Go.Proofs.Ytfjdfnlkobeehaa.Ref

end Go.Proofs.Ytfjdfnlkobeehaa.Ref
end

section
set_option maxRecDepth 100000
set_option linter.unusedVariables false
set_option linter.unusedSimpArgs false
namespace Go.Proofs.Ytfjdfnlkobeehaa


namespace Ref
open Ytfjdfnlkobeehaa (SWc SW WX WC WV vals SM Rn vc canZ combZ primZ upZ gcdL gcdF sgF SW_def cZ)


def SNc (zs : List Int) : List PV := zs.flatMap fun z => [.val (.bool (decide (z < 0))), SI (D z.natAbs)]
def SN (zs : List Int) : PV := .sl zs.length (SNc zs)
theorem SN_def (zs : List Int) : SN zs = .sl zs.length (SNc zs) := rfl
theorem SNc_cons (z : Int) (zs : List Int) : SNc (z :: zs) = .val (.bool (decide (z < 0))) :: SI (D z.natAbs) :: SNc zs := rfl
theorem SNc_flat (zs : List Int) : flatL (SNc zs) = true := by
  induction zs with
  | nil => rfl
  | cons z zs ih => rw [SNc_cons]; simp only [flatL, flat_SI, ih, Ytfjdfnlkobeehaa.flat_val, Bool.and_self]
theorem frzL_SNc (D : Nat → Bool) (H : Nat → Option (List PV)) (d : Nat) (zs : List Int) : (SNc zs).mapM (Ytfjdfnlkobeehaa.frz D H d) = some (SNc zs) := Ytfjdfnlkobeehaa.frzL_flat D H d (SNc_flat zs)
attribute [go_sem] SN_def SNc_flat frzL_SNc
end Ref
end Go.Proofs.Ytfjdfnlkobeehaa
end

section
set_option maxRecDepth 100000
set_option linter.unusedVariables false
set_option linter.unusedSimpArgs false
namespace Go.Proofs.Ytfjdfnlkobeehaa.Ref
open Ytfjdfnlkobeehaa (SWc SW WX WC WV vals vals_len SM lenM Rn vc vc_lt canZ canZ_len combZ combZ_len combZ_take primZ upZ upZ_len SW_def SM_def cZ get_SM' getD_take getD_mem insR insB zeroB getD_vals wrongM)

end Go.Proofs.Ytfjdfnlkobeehaa.Ref
namespace Go.Proofs.Ytfjdfnlkobeehaa
end Go.Proofs.Ytfjdfnlkobeehaa
namespace Go.Proofs.Ytfjdfnlkobeehaa.Ref
open Ytfjdfnlkobeehaa (SWc SW WX WC WV vals vals_len SM lenM Rn vc vc_lt canZ canZ_len combZ combZ_len combZ_take primZ upZ upZ_len SW_def SM_def cZ get_SM' getD_take getD_mem insR insB zeroB getD_vals wrongM)

def SNM (W : List (List Int)) : PV := .sl W.length (W.map SN)
theorem SNM_def (W : List (List Int)) : SNM W = .sl W.length (W.map SN) := rfl
theorem SNM_flat (W : List (List Int)) : flatL (W.map SN) = true := by
  induction W with
  | nil => rfl
  | cons l m ih => simp only [List.map_cons, flatL, SN_def, flat, SNc_flat, ih, Bool.and_self]
theorem get_SNM {W : List (List Int)} {i : Nat} (r : List PV) (h : i < W.length) : (W.map SN ++ r)[i]? = some (SN (W.getD i [])) := by
  rw [List.getElem?_append_left (by simpa using h)]
  simp [h]
attribute [go_sem] SNM_def SNM_flat get_SNM
end Go.Proofs.Ytfjdfnlkobeehaa.Ref
end

section
set_option maxRecDepth 100000
set_option linter.unusedVariables false
set_option linter.unusedSimpArgs false
namespace Go.Proofs.Ytfjdfnlkobeehaa

end Go.Proofs.Ytfjdfnlkobeehaa
end

section
set_option maxRecDepth 100000
set_option linter.unusedVariables false
set_option linter.unusedSimpArgs false
namespace Go.Proofs.Ytfjdfnlkobeehaa

def loopsC : Code → List Code
  | .seq x y => loopsC x ++ loopsC y
  | .cond _ x y => loopsC x ++ loopsC y
  | .block _ x => loopsC x
  | .scope x => loopsC x
  | .loop x => .loop x :: loopsC x
  | _ => []
def loopN (fn : Func) (k : Nat) : Code := ((fn.body.map loopsC).getD []).getD k .skip
theorem LW.ofLoop {P : Program} {fn : Func} {k : Nat} {x : Code} {c : Cx} {Q : Exit → PS → Prop} {s : PS} (h : loopN fn k = Code.loop x) (hw : LW P c (.loop x) Q s) : LW P c (loopN fn k) Q s := h ▸ hw
end Go.Proofs.Ytfjdfnlkobeehaa
end

section
set_option maxRecDepth 100000
set_option linter.unusedVariables false
set_option linter.unusedSimpArgs false
namespace Go.Proofs.Ytfjdfnlkobeehaa


def augL (m : List (List (Bool × List Nat))) (r : List (Bool × List Nat)) : List (List (Bool × List Nat)) := List.zipWith (fun l p => l ++ [p]) m r
theorem augL_len {m : List (List (Bool × List Nat))} {r : List (Bool × List Nat)} (h : r.length = m.length) : (augL m r).length = m.length := by simp [augL, h]
theorem augL_get {m : List (List (Bool × List Nat))} {r : List (Bool × List Nat)} (h : r.length = m.length) {i : Nat} (hi : i < m.length) : (augL m r).getD i [] = m.getD i [] ++ [r[i]'(by omega)] := by
  have h2 : i < r.length := by omega
  have hl : i < (augL m r).length := by rw [augL_len h]; exact hi
  rw [show (augL m r).getD i [] = (augL m r)[i] by simp [hl], show m.getD i [] = m[i] by simp [hi]]
  simp only [augL, List.getElem_zipWith]
theorem lenM_aug : ∀ {m : List (List (Bool × List Nat))} {r : List (Bool × List Nat)}, lenM (augL m r) ≤ lenM m + lenW r
  | [], _ => by simp [augL, lenM]
  | _ :: _, [] => by simp [augL, lenM]
  | l :: m, p :: r => by
    have ih := lenM_aug (m := m) (r := r)
    have e : lenM (augL (l :: m) (p :: r)) = (1 + lenW (l ++ [p])) + lenM (augL m r) := by simp [augL, lenM]
    have e2 : lenM (l :: m) = (1 + lenW l) + lenM m := by simp [lenM]
    rw [e, e2, lenW_app]
    simp only [lenW]
    omega
section
variable {m : List (List (Bool × List Nat))} {r : List (Bool × List Nat)} {n : Nat}
theorem one_SWc (l : List (Bool × List Nat)) : (SWc l).all oneP = true := by
  induction l with
  | nil => rfl
  | cons p l ih => rw [SWc_cons]; simp only [List.all_cons, ih, Bool.and_true]; rfl
theorem mapM_app {α β : Type} {f : α → Option β} : ∀ {l m : List α} {a b : List β}, l.mapM f = some a → m.mapM f = some b → (l ++ m).mapM f = some (a ++ b)
  | [], m, a, b, h, h' => by
    obtain rfl : a = [] := by simpa using h.symm
    exact h'
  | x :: l, m, a, b, h, h' => by
    rw [List.mapM_cons] at h
    cases hf : f x with
    | none => rw [hf] at h; simp at h
    | some y =>
      cases hg : l.mapM f with
      | none => rw [hf, hg] at h; simp at h
      | some ys =>
        rw [hf, hg] at h
        have e : y :: ys = a := by simpa using h
        subst e
        rw [List.cons_append, List.mapM_cons, hf, mapM_app hg h']; rfl
theorem frz_nils (D : Nat → Bool) (H : Nat → Option (List PV)) (d : Nat) (k : Nat) : (List.replicate k (PV.val (.slice none 0 0))).mapM (Ytfjdfnlkobeehaa.frz D H d) = some (List.replicate k (PV.val (.slice none 0 0))) := frzL_flat D H d (by
  induction k with
  | zero => rfl
  | succ k ih => rw [List.replicate_succ]; simp [flatL, flat, ih])
section
variable {b : Nat} {cx : Cx} {Q : Exit → PS → Prop} {s : PS}
set_option maxHeartbeats 8000000 in
theorem solve0 (hc : cx.n = 118) (ht : cx.tb = [(7, [(0, []), (1, []), (2, []), (3, []), (5, []), (7, []), (8, []), (9, []), (10, []), (4, [0, 1, 5, 7, 8, 9, 10]), (6, [0, 1, 7, 8, 9, 10]), (11, [0, 1, 2, 3, 5]), (12, [0, 1]), (13, []), (14, [])]), (1000007, [(0, []), (0, []), (0, []), (4, []), (12, []), (0, []), (60, []), (0, []), (0, []), (384, []), (896, []), (1920, []), (4092, []), (8191, []), (16383, [])]), (21, [(0, []), (1, []), (2, []), (3, []), (4, []), (5, []), (6, []), (7, []), (8, []), (9, []), (10, []), (11, []), (12, []), (13, []), (14, []), (15, []), (16, [0, 1]), (17, []), (18, []), (19, []), (20, []), (21, [19])]), (1000021, [(0, []), (0, []), (0, []), (0, []), (12, []), (28, []), (0, []), (124, []), (252, []), (0, []), (0, []), (1536, []), (3584, []), (0, []), (15872, []), (32256, []), (65532, []), (131068, []), (262140, []), (262140, []), (524287, []), (1572863, [])])]) (hm : ∀ l ∈ m, (∀ p ∈ l, Lm p.2) ∧ l.length = n) (hr : r.length = m.length) (hml : m.length ≤ 64) (hn : n ≤ 32)
    (hI : s.sl 0 = .sl m.length (m.map SW) ∧ s.sl 1 = .val (.int .i64 n) ∧ s.sl 2 = .sl m.length (SWc r) ∧ s.sl 9 = .ref b 0 m.length m.length 1 ∧ s.sl 33 = .sl m.length (m.map SW) ∧ s.sl 34 = .val (.int .i64 m.length) ∧ b < s.nx ∧ s.sl 35 = .val (.int .i64 (0 : Nat)) ∧ s.H b = some (List.replicate m.length (.val (.slice none 0 0))))
    (hQ : ∀ t : PS, t.sl 1 = .val (.int .i64 n) → t.sl 9 = .ref b 0 m.length m.length 1 → t.H b = some ((augL m r).map SW) → b < t.nx → Q (.exit 0) t) : LW Try.prog cx (loopN Try.f40 0) Q s := by
  refine LW.ofLoop rfl ?_
  refine LW.loopG hc ht (by kernel_rfl) (fun t => t.sl 0 = .sl m.length (m.map SW) ∧ t.sl 1 = .val (.int .i64 n) ∧ t.sl 2 = .sl m.length (SWc r) ∧ t.sl 9 = .ref b 0 m.length m.length 1 ∧ t.sl 33 = .sl m.length (m.map SW) ∧ t.sl 34 = .val (.int .i64 m.length) ∧ b < t.nx ∧ ∃ i : Nat, i ≤ m.length ∧ t.sl 35 = .val (.int .i64 i) ∧
      ∃ (D : Nat → Bool) (cs : List PV), t.H b = some cs ∧ D b = false ∧ cs.mapM (Ytfjdfnlkobeehaa.frz D t.H 1) = some (((augL m r).take i).map SW ++ List.replicate (m.length - i) (.val (.slice none 0 0))))
    (fun t => match t.sl 35 with | .val (.int _ k) => m.length - k.toNat | _ => 0) ?_ ?_
  · obtain ⟨g0, g1, g2, g9, g33, g34, gb, g35, gH⟩ := hI
    exact ⟨g0, g1, g2, g9, g33, g34, gb, 0, Nat.zero_le _, g35, fun _ => false, _, gH, rfl, frz_nils _ _ _ _⟩
  · rintro t ⟨h0, h1, h2, h9, h33, h34, hnx', i, hi, h35, D, cs, hH, hD, hfz⟩
    refine ⟨_, Gh.frzH D 1 hH hD hfz, ?_⟩
    by_cases hil : i = m.length
    · subst hil
      have htA : (augL m r).take m.length = augL m r := List.take_of_length_le (by rw [augL_len hr]; omega)
      rw [htA, Nat.sub_self]
      simp -implicitDefEqProofs (disch := omega) only [go_sem, ht, h0, h1, h2, h9, h33, h34, h35]
      exact hQ _ (by simp -implicitDefEqProofs (disch := omega) only [go_sem, ht, h1]) (by simp -implicitDefEqProofs (disch := omega) only [go_sem, ht, h9]) (by simp -implicitDefEqProofs (disch := omega) only [go_sem, ht, upd_self]; simp) (by simp -implicitDefEqProofs (disch := omega) only [go_sem, ht]; exact hnx')
    · have hlt : i < m.length := by omega
      have hgi := get_SM' hlt
      obtain ⟨g1, g2⟩ := hm _ (getD_mem (d := []) hlt)
      have hat := SWc_at (l := r) (i := i) (by omega)
      have hag := augL_get hr hlt
      rw [SW_def, g2] at hgi
      generalize m.getD i [] = l at *
      simp -implicitDefEqProofs (disch := omega) only [go_sem, ht, h0, h1, h2, h9, h33, h34, h35, hgi, hat]
      have g3 : 2 * l.length = n * 2 := by omega
      have hrp := replW (n + 1)
      have hrl := repl_len (n + 1) [Value.bool false, Value.slice none 0 0]
      have hrn : ((repl (n + 1) [Value.bool false, Value.slice none 0 0]).map PV.val) = [] ++ (repl (n + 1) [Value.bool false, Value.slice none 0 0]).map PV.val := rfl
      rw [hrn] at hrp
      clear hrn
      generalize repl (n + 1) [Value.bool false, Value.slice none 0 0] = rz at *
      rw [List.nil_append] at hrp
      refine append_ownS (cs := []) (rest := rz) (ys := SWc l) (m := n) (sz := 2) T27_elem rfl T30_size T30_bytes T30_zero rfl (by simp -implicitDefEqProofs (disch := omega) only [go_sem, ht, srcP_sl, if_pos g3]) (one_SWc l) (by simp -implicitDefEqProofs (disch := omega) only [go_sem, ht, upd_self, hrp] <;> rfl) rfl (by simp at hrl ⊢; omega) (by rw [SWc_len]; omega) ⟨by omega, by omega⟩ ?_
      intro id1 cap1 rest1 H1 nx1 hH1 hcap1 hid1 hnx1 hfr1 hfs1
      simp only [put_nx, withH_nx, put_H, withH_H] at hid1 hnx1 hfr1 hfs1
      simp -implicitDefEqProofs (disch := omega) only [go_sem, ht, h0, h1, h2, h9, h33, h34, h35, hgi, hat]
      rw [List.nil_append] at hH1
      have hll := SWc_len l
      have hp := SWc_app l [r[i]]
      refine append_ownS (cs := SWc l) (rest := rest1) (ys := [.val (.bool r[i].1), SU r[i].2]) (m := 1) (sz := 2) T27_elem rfl T30_size T30_bytes T30_zero rfl (by simp -implicitDefEqProofs (disch := omega) only [go_sem, ht, srcP_ref] <;> rfl) (by rfl) (by simp -implicitDefEqProofs (disch := omega) only [go_sem, ht, hH1]) (by omega) (by omega) (by rfl) ⟨by omega, by omega⟩ ?_
      intro id2 cap2 rest2 H2 b2 hH2 hcap2 hid2 hnx2 hfr2 hfs2
      simp only [put_nx, withH_nx, put_H, withH_H] at hid2 hnx2 hfr2 hfs2
      simp -implicitDefEqProofs (disch := omega) only [go_sem, ht, h0, h1, h2, h9, h33, h34, h35, hgi, hat]
      have hX : H2 b = some (((augL m r).take i).map SW ++ List.replicate (m.length - i) (.val (.slice none 0 0))) := by
        rw [hfr2 b (by omega) (by omega), upd_ne _ _ (by omega), hfr1 b (by omega) (by omega), upd_ne _ _ (by omega), upd_self]
      have hAl : (((augL m r).take i).map SW).length = i := by rw [List.length_map, List.length_take, augL_len hr]; omega
      have hsp : ∀ x : PV, spl (((augL m r).take i).map SW ++ List.replicate (m.length - i) (.val (.slice none 0 0))) i [x] = ((augL m r).take i).map SW ++ x :: List.replicate (m.length - (i + 1)) (.val (.slice none 0 0)) := fun x => by
        obtain ⟨k, hk⟩ : ∃ k, m.length - i = k + 1 := ⟨m.length - (i + 1), by omega⟩
        rw [hk, show m.length - (i + 1) = k by omega, List.replicate_succ]
        have e1 : List.take i (((augL m r).take i).map SW ++ PV.val (.slice none 0 0) :: List.replicate k (PV.val (.slice none 0 0))) = ((augL m r).take i).map SW := List.take_left' hAl
        have e2 : List.drop (i + 1) (((augL m r).take i).map SW ++ PV.val (.slice none 0 0) :: List.replicate k (PV.val (.slice none 0 0))) = List.replicate k (PV.val (.slice none 0 0)) := by
          rw [List.append_cons, List.drop_left' (by rw [List.length_append, hAl]; rfl)]
        unfold spl
        rw [e1, List.length_singleton, e2]
        rfl
      have hH2n : H2 id2 = some (SWc (l ++ [r[i]]) ++ rest2.map .val) := by rw [hH2, hp]; rfl
      have hlen2 : (SWc (l ++ [r[i]])).length = (n + 1) * 2 := by rw [SWc_len, List.length_append, g2, List.length_singleton]; omega
      have hin2 : id2 ≠ b := by omega
      refine ⟨_, hX, by simp [hAl, augL_len hr]; omega, ⟨by omega, i + 1, by omega, rfl, fun x => decide (x = id2), _, rfl, by simp; omega, ?_⟩, by omega⟩
      rw [hsp]
      have hst := getD_take (l := augL m r) (i := i) (d := []) (by rw [augL_len hr]; exact hlt)
      rw [hag] at hst
      rw [hst, List.map_append, List.append_assoc]
      refine mapM_app (frzL_flat _ _ 1 (SM_flat _)) ?_
      refine mapM_app (l := [_]) (a := [SW (l ++ [r[i]])]) ?_ (frz_nils _ _ _ _)
      have hq : ∀ X, Ytfjdfnlkobeehaa.frz (fun x => decide (x = id2)) (upd H2 b X) 1 (.ref id2 0 (n + 1) cap2 2) = some (SW (l ++ [r[i]])) := fun X => by
        rw [frz_ref, if_pos (by simp), upd_ne _ _ hin2, hH2n, Option.bind_some, if_pos (by simp [hlen2]), List.drop_zero, ← hlen2, List.take_left, frzL_flat _ _ 0 (SWc_flat _)]
        simp [SW_def, g2]
      rw [List.mapM_cons, hq]
      rfl
end
end
end Go.Proofs.Ytfjdfnlkobeehaa
end

section
set_option maxRecDepth 100000
set_option linter.unusedVariables false
set_option linter.unusedSimpArgs false
namespace Go.Proofs.Ytfjdfnlkobeehaa
theorem rlimbsM {b : Bool} {xs ds : List Nat} {q : Rat} {k : Nat} (h : Fn b xs ds q k) : PT Try.prog 81 [FX b xs ds] (isV (.val (.int .i64 (max (D q.num.natAbs).length (D q.den).length : Nat)))) := by
  have t1 := rtrimW h
  have hq := h.zq
  have hk := h.ox.hk
  have s1 := size_calls (ds := D q.den)
  have l1 := limbsW (Wn.C hq.num hk)
  have l2 := limbsW (Wn.N hq.den hk)
  rw [Ref.limbs_eq] at l1 l2
  rw [show Int.natAbs (q.den : Int) = q.den from rfl] at l2
  have o1 := (Z.ok hq.num (by omega)).len
  have o2 := (Ok.D hq.den (by omega)).len
  have hmax : ∀ a c : Nat, (if (c : Int) > (a : Int) then (c : Int) else (a : Int)) = ((max a c : Nat) : Int) := fun a c => by
    split <;> omega
  refine PCalls.enter (n := 13) (rs := [.tmp 2]) (tb := [(2, [(0, []), (1, []), (3, []), (4, []), (2, [3, 4]), (5, []), (6, []), (7, []), (8, [])])]) Try.func81 rfl rfl rfl (by kernel_rfl) (by kernel_rfl) (by simp) fun c hc ht => ?_
  simp -implicitDefEqProofs (disch := omega) only [go_sem, ht]
  ((refine pCall_vw (by refine ⟨⟨?_, ?_⟩, ?_, ?_⟩; rotate_left 2; (first | (right; rintro r rfl; rfl) | left); all_goals ((try simp -implicitDefEqProofs (disch := omega) only [go_sem, ht]) <;> rfl)) (t1) ?_; rintro _ nx_1 - rfl hnx_1; simp -implicitDefEqProofs (disch := omega) only [go_sem, ht]); (refine pCall_vw (by refine ⟨⟨?_, ?_⟩, ?_, ?_⟩; rotate_left 2; (first | (right; rintro r rfl; rfl) | left); all_goals ((try simp -implicitDefEqProofs (disch := omega) only [go_sem, ht]) <;> rfl)) (l1) ?_; rintro _ nx_2 - rfl hnx_2; simp -implicitDefEqProofs (disch := omega) only [go_sem, ht]); (refine pCall_vw (by refine ⟨⟨?_, ?_⟩, ?_, ?_⟩; rotate_left 2; (first | (right; rintro r rfl; rfl) | left); all_goals ((try simp -implicitDefEqProofs (disch := omega) only [go_sem, ht]) <;> rfl)) (s1) ?_; rintro _ nx_3 - rfl hnx_3; simp -implicitDefEqProofs (disch := omega) only [go_sem, ht]); (refine pCall_vw (by refine ⟨⟨?_, ?_⟩, ?_, ?_⟩; rotate_left 2; (first | (right; rintro r rfl; rfl) | left); all_goals ((try simp -implicitDefEqProofs (disch := omega) only [go_sem, ht]) <;> rfl)) (l2) ?_; rintro _ nx_4 - rfl hnx_4; simp -implicitDefEqProofs (disch := omega) only [go_sem, ht]))
  (refine end_treeW 0 ?_; simp -implicitDefEqProofs (disch := omega) only [go_sem, ht, hmax])

def FLc (qs : List Rat) : List PV := qs.flatMap fun q => [.val (.bool (decide (q.num < 0))), .sl (D q.num.natAbs).length ((D q.num.natAbs).map U), .sl (D q.den).length ((D q.den).map U)]
def SF (qs : List Rat) : PV := .sl qs.length (FLc qs)
theorem SF_def (qs : List Rat) : SF qs = .sl qs.length (FLc qs) := rfl
theorem FLc_nil : FLc [] = [] := rfl
theorem FLc_cons (q : Rat) (qs : List Rat) : FLc (q :: qs) = .val (.bool (decide (q.num < 0))) :: .sl (D q.num.natAbs).length ((D q.num.natAbs).map U) :: .sl (D q.den).length ((D q.den).map U) :: FLc qs := rfl
theorem FLc_app (x y : List Rat) : FLc (x ++ y) = FLc x ++ FLc y := by unfold FLc; rw [List.flatMap_append]
theorem FLc_len : ∀ qs : List Rat, (FLc qs).length = qs.length * 3
  | [] => rfl
  | q :: qs => by rw [FLc_cons]; simp only [List.length_cons, FLc_len qs]; omega
theorem FLc_drop : ∀ (qs : List Rat) (c : Nat), (FLc qs).drop (c * 3) = FLc (qs.drop c)
  | qs, 0 => rfl
  | [], c + 1 => by simp [FLc]
  | q :: qs, c + 1 => by
    rw [Nat.succ_mul, FLc_cons]
    exact FLc_drop qs c
theorem FLc_take : ∀ (qs : List Rat) (c : Nat), (FLc qs).take (c * 3) = FLc (qs.take c)
  | qs, 0 => by simp [FLc]
  | [], c + 1 => by simp [FLc]
  | q :: qs, c + 1 => by
    rw [Nat.succ_mul, FLc_cons]
    show _ :: _ :: _ :: (FLc qs).take (c * 3) = _
    rw [FLc_take qs c]; rfl
def fv (qs : List Rat) (k : Nat) : Rat := qs.getD k 0
theorem fv_lt {qs : List Rat} {k : Nat} (h : k < qs.length) : fv qs k = qs[k] := by simp [fv, h]
theorem FLc_at {qs : List Rat} {c : Nat} (r : List PV) (h : c < qs.length) : (FLc qs ++ r).drop (c * 3) = .val (.bool (decide ((fv qs c).num < 0))) :: .sl (D (fv qs c).num.natAbs).length ((D (fv qs c).num.natAbs).map U) :: .sl (D (fv qs c).den).length ((D (fv qs c).den).map U) :: (FLc (qs.drop (c + 1)) ++ r) := by
  rw [List.drop_append_of_le_length (by rw [FLc_len]; omega), FLc_drop, List.drop_eq_getElem_cons h, FLc_cons, fv_lt h]; rfl
theorem FLc_set {qs : List Rat} {c : Nat} (r : List PV) (h : c < qs.length) (q : Rat) : spl (FLc qs ++ r) (c * 3) [.val (.bool (decide (q.num < 0))), .sl (D q.num.natAbs).length ((D q.num.natAbs).map U), .sl (D q.den).length ((D q.den).map U)] = FLc (qs.set c q) ++ r := by
  rw [spl_app (by rw [FLc_len]; simp; omega)]
  congr 1
  unfold spl
  have h4 : c * 3 + 3 = (c + 1) * 3 := by omega
  simp only [List.length_cons, List.length_nil, Nat.zero_add, Nat.reduceAdd]
  rw [FLc_take, h4, FLc_drop, List.set_eq_take_append_cons_drop, if_pos h, FLc_app]; rfl
theorem FLc_flat : ∀ qs : List Rat, flatL (FLc qs) = true
  | [] => rfl
  | q :: qs => by rw [FLc_cons]; simp [flatL, flat, FLc_flat qs, flatL_U]
section
variable {n b : Nat} {cx : Cx} {Q : Exit → PS → Prop} {s : PS} {e p : PV}
theorem rfrom0 : PT Try.prog 41 [.agg [.val (.bool false), .sl 0 []]] (isV (FC 0)) := by
  have h := rfromW (Wn.raw (b := false) (xs := []) (k := 1) (by intro x hx; simp at hx) (by simp) (by omega))
  rw [show WV false [] = 0 from rfl] at h
  exact h
set_option maxHeartbeats 8000000 in
theorem solve1 (hc : cx.n = 118) (ht : cx.tb = [(7, [(0, []), (1, []), (2, []), (3, []), (5, []), (7, []), (8, []), (9, []), (10, []), (4, [0, 1, 5, 7, 8, 9, 10]), (6, [0, 1, 7, 8, 9, 10]), (11, [0, 1, 2, 3, 5]), (12, [0, 1]), (13, []), (14, [])]), (1000007, [(0, []), (0, []), (0, []), (4, []), (12, []), (0, []), (60, []), (0, []), (0, []), (384, []), (896, []), (1920, []), (4092, []), (8191, []), (16383, [])]), (21, [(0, []), (1, []), (2, []), (3, []), (4, []), (5, []), (6, []), (7, []), (8, []), (9, []), (10, []), (11, []), (12, []), (13, []), (14, []), (15, []), (16, [0, 1]), (17, []), (18, []), (19, []), (20, []), (21, [19])]), (1000021, [(0, []), (0, []), (0, []), (0, []), (12, []), (28, []), (0, []), (124, []), (252, []), (0, []), (0, []), (1536, []), (3584, []), (0, []), (15872, []), (32256, []), (65532, []), (131068, []), (262140, []), (262140, []), (524287, []), (1572863, [])])]) (hn : n ≤ 32)
    (hI : s.sl 1 = .val (.int .i64 n) ∧ s.sl 12 = e ∧ s.sl 13 = p ∧ s.sl 14 = .ref b 0 n n 3 ∧ s.sl 65 = .val (.int .i64 n) ∧ s.sl 66 = .val (.int .i64 (0 : Nat)) ∧ b < s.nx ∧ (∃ cs : List PV, s.H b = some cs ∧ cs.length = n * 3))
    (hQ : ∀ t : PS, t.sl 1 = .val (.int .i64 n) → t.sl 12 = e → t.sl 13 = p → t.sl 14 = .ref b 0 n n 3 → t.H b = some (FLc (List.replicate n 0)) → b < t.nx → Q (.exit 2) t) : LW Try.prog cx (loopN Try.f40 1) Q s := by
  refine LW.ofLoop rfl ?_
  refine LW.loopW hc ht (by kernel_rfl) (fun t => t.sl 1 = .val (.int .i64 n) ∧ t.sl 12 = e ∧ t.sl 13 = p ∧ t.sl 14 = .ref b 0 n n 3 ∧ t.sl 65 = .val (.int .i64 n) ∧ b < t.nx ∧ ∃ i : Nat, i ≤ n ∧ t.sl 66 = .val (.int .i64 i) ∧ ∃ cs : List PV, t.H b = some (FLc (List.replicate i 0) ++ cs) ∧ cs.length = (n - i) * 3)
    (fun t => match t.sl 66 with | .val (.int _ k) => n - k.toNat | _ => 0) ?_ ?_
  · obtain ⟨g1, g12, g13, g14, g65, g66, gb, cs, gH, gl⟩ := hI
    exact ⟨g1, g12, g13, g14, g65, gb, 0, Nat.zero_le _, g66, cs, gH, gl⟩
  rintro t ⟨h1, h12, h13, h14, h65, hb, i, hi, h66, cs, hH, hl⟩
  by_cases hie : i = n
  · subst hie
    have : cs = [] := List.eq_nil_of_length_eq_zero (by omega)
    subst this
    rw [List.append_nil] at hH
    simp -implicitDefEqProofs (disch := omega) only [go_sem, ht, h1, h12, h13, h14, h65, h66]
    exact hQ _ (by simp -implicitDefEqProofs (disch := omega) only [go_sem, ht, h1]) (by simp -implicitDefEqProofs (disch := omega) only [go_sem, ht, h12]) (by simp -implicitDefEqProofs (disch := omega) only [go_sem, ht, h13]) (by simp -implicitDefEqProofs (disch := omega) only [go_sem, ht, h14]) hH (by simp -implicitDefEqProofs (disch := omega) only [go_sem, ht]; exact hb)
  · have hlt : i < n := by omega
    obtain ⟨x0, x1, x2, cs', rfl⟩ : ∃ x0 x1 x2 cs', cs = x0 :: x1 :: x2 :: cs' := by
      match cs, hl with
      | [], h => exfalso; simp at h; omega
      | [_], h => exfalso; simp at h; omega
      | [_, _], h => exfalso; simp at h; omega
      | x0 :: x1 :: x2 :: cs', _ => exact ⟨x0, x1, x2, cs', rfl⟩
    have hll : (FLc (List.replicate i 0)).length = i * 3 := by rw [FLc_len, List.length_replicate]
    have hsp : spl (FLc (List.replicate i 0) ++ x0 :: x1 :: x2 :: cs') (i * 3) [.val (.bool (decide ((0 : Rat).num < 0))), .sl (D (0 : Rat).num.natAbs).length ((D (0 : Rat).num.natAbs).map U), .sl (D (0 : Rat).den).length ((D (0 : Rat).den).map U)] = FLc (List.replicate (i + 1) 0) ++ cs' := by
      have e1 : List.take (i * 3) (FLc (List.replicate i 0) ++ x0 :: x1 :: x2 :: cs') = FLc (List.replicate i 0) := List.take_left' hll
      have e2 : List.drop (i * 3 + 3) (FLc (List.replicate i 0) ++ x0 :: x1 :: x2 :: cs') = cs' := by
        rw [← List.drop_drop, List.drop_left' hll]; rfl
      unfold spl
      simp only [List.length_cons, List.length_nil, Nat.zero_add, Nat.reduceAdd]
      rw [e1, e2, List.replicate_succ', FLc_app, List.append_assoc]; rfl
    have hln : (FLc (List.replicate i 0) ++ x0 :: x1 :: x2 :: cs').length = n * 3 := by simp at hl ⊢; omega
    have hf0 := rfrom0
    rw [FC_def] at hf0
    simp -implicitDefEqProofs (disch := omega) only [go_sem, ht, h1, h12, h13, h14, h65, h66, hH]
    ((refine pCall_vw (by refine ⟨⟨?_, ?_⟩, ?_, ?_⟩; rotate_left 2; (first | (right; rintro r rfl; rfl) | left); all_goals ((try simp -implicitDefEqProofs (disch := omega) only [h1, h12, h13, h14, h65, h66, hH, hsp, hln, go_sem, ht]) <;> rfl)) (hf0) ?_; rintro _ nx_5 - rfl hnx_5; simp -implicitDefEqProofs (disch := omega) only [h1, h12, h13, h14, h65, h66, hH, hsp, hln, go_sem, ht]))
    exact ⟨⟨by omega, i + 1, by omega, rfl, cs', rfl, by simp at hl; omega⟩, by omega⟩
end

def solL (T : List (List Int)) (P : List Nat) (n : Nat) : Nat → List Rat
  | 0 => List.replicate n 0
  | k + 1 => (solL T P n k).set (P.getD k 0) (Rat.divInt (vc (T.getD k []) n) (vc (T.getD k []) (P.getD k 0)))
theorem solL_len {T : List (List Int)} {P : List Nat} {n : Nat} : ∀ k, (solL T P n k).length = n
  | 0 => by simp [solL]
  | k + 1 => by rw [solL, List.length_set]; exact solL_len k

def limQ (q : Rat) : Nat := max (D q.num.natAbs).length (D q.den).length
theorem get_CZM {T : List (List Int)} {i : Nat} (h : i < T.length) : ((T.map CZ).map SW)[i]? = some (.sl (T.getD i []).length (SWc (CZ (T.getD i [])))) := by
  simp [h, SW_def, CZ_len]
section
variable {n b K : Nat} {cx : Cx} {Q : Exit → PS → Prop} {s : PS} {T : List (List Int)} {P : List Nat} {x : List Rat}
set_option maxHeartbeats 8000000 in
theorem solve2 (hc : cx.n = 118) (ht : cx.tb = [(7, [(0, []), (1, []), (2, []), (3, []), (5, []), (7, []), (8, []), (9, []), (10, []), (4, [0, 1, 5, 7, 8, 9, 10]), (6, [0, 1, 7, 8, 9, 10]), (11, [0, 1, 2, 3, 5]), (12, [0, 1]), (13, []), (14, [])]), (1000007, [(0, []), (0, []), (0, []), (4, []), (12, []), (0, []), (60, []), (0, []), (0, []), (384, []), (896, []), (1920, []), (4092, []), (8191, []), (16383, [])]), (21, [(0, []), (1, []), (2, []), (3, []), (4, []), (5, []), (6, []), (7, []), (8, []), (9, []), (10, []), (11, []), (12, []), (13, []), (14, []), (15, []), (16, [0, 1]), (17, []), (18, []), (19, []), (20, []), (21, [19])]), (1000021, [(0, []), (0, []), (0, []), (0, []), (12, []), (28, []), (0, []), (124, []), (252, []), (0, []), (0, []), (1536, []), (3584, []), (0, []), (15872, []), (32256, []), (65532, []), (131068, []), (262140, []), (262140, []), (524287, []), (1572863, [])])]) (hn : n ≤ 32) (hP : P.length ≤ 100) (hTl : T.length = P.length) (hT : ∀ k, k < P.length → (T.getD k []).length = n + 1) (hz : ∀ k, k < P.length → ∀ y ∈ T.getD k [], Z K y) (hK : 1 ≤ K) (hK2 : K ≤ 100000)
    (hpc : ∀ k, k < P.length → vc (T.getD k []) (P.getD k 0) ≠ 0) (hpn : ∀ k, k < P.length → P.getD k 0 ≤ n)
    (hI : s.sl 1 = .val (.int .i64 n) ∧ s.sl 12 = .sl T.length ((T.map CZ).map SW) ∧ s.sl 14 = .ref b 0 n n 3 ∧ s.sl 75 = .sl P.length (P.map Ref.I) ∧ s.sl 76 = .val (.int .i64 P.length) ∧ s.sl 77 = .val (.int .i64 (0 : Nat)) ∧ b < s.nx ∧ s.H b = some (FLc (solL T P n 0)))
    (hR : n ∈ P → ∀ t : PS, t.sl 6 = .val (.slice none 0 0) → t.sl 7 = .val (.bool false) → t.sl 8 = .val (.int .i64 0) → Q .ret t)
    (hQ : n ∉ P → ∀ t : PS, t.sl 14 = .ref b 0 n n 3 → t.H b = some (FLc (solL T P n P.length)) → b < t.nx → Q (.exit 4) t) : LW Try.prog cx (loopN Try.f40 2) Q s := by
  refine LW.ofLoop rfl ?_
  refine LW.loopW hc ht (by kernel_rfl) (fun t => t.sl 1 = .val (.int .i64 n) ∧ t.sl 12 = .sl T.length ((T.map CZ).map SW) ∧ t.sl 14 = .ref b 0 n n 3 ∧ t.sl 75 = .sl P.length (P.map Ref.I) ∧ t.sl 76 = .val (.int .i64 P.length) ∧ b < t.nx ∧ ∃ k : Nat, k ≤ P.length ∧ t.sl 77 = .val (.int .i64 k) ∧ (∀ i, i < k → P.getD i 0 ≠ n) ∧ t.H b = some (FLc (solL T P n k)))
    (fun t => match t.sl 77 with | .val (.int _ k) => P.length - k.toNat | _ => 0) ?_ ?_
  · obtain ⟨g1, g12, g14, g75, g76, g77, gb, gH⟩ := hI
    exact ⟨g1, g12, g14, g75, g76, gb, 0, Nat.zero_le _, g77, fun i hi => by omega, gH⟩
  rintro t ⟨h1, h12, h14, h75, h76, hb, k, hk, h77, hno, hH⟩
  by_cases hke : k = P.length
  · subst hke
    have hnm : n ∉ P := fun hm => by
      obtain ⟨i, hi, e⟩ := List.mem_iff_getElem.1 hm
      exact hno i hi (by simp [hi, e])
    simp -implicitDefEqProofs (disch := omega) only [go_sem, ht, h1, h12, h14, h75, h76, h77]
    exact hQ hnm _ (by simp -implicitDefEqProofs (disch := omega) only [go_sem, ht, h14]) hH (by simp -implicitDefEqProofs (disch := omega) only [go_sem, ht]; exact hb)
  · have hlt : k < P.length := by omega
    have hgp : (P.map Ref.I)[k]? = some (.val (.int .i64 (P.getD k 0 : Nat))) := by simp [hlt, Ref.I]
    have hpl : (P.map Ref.I).length = P.length := by simp
    by_cases hpe : P.getD k 0 = n
    · have hm : n ∈ P := hpe ▸ (by simp [hlt])
      rw [hpe] at hgp
      simp -implicitDefEqProofs (disch := omega) only [go_sem, ht, h1, h12, h14, h75, h76, h77, hgp]
      exact hR hm _ (by simp -implicitDefEqProofs (disch := omega) only [go_sem, ht]) (by simp -implicitDefEqProofs (disch := omega) only [go_sem, ht]) (by simp -implicitDefEqProofs (disch := omega) only [go_sem, ht])
    · have hp1 := hpn k hlt
      have hcn : P.getD k 0 < n := by omega
      have hTk := hT k hlt
      have hge := get_CZM (T := T) (i := k) (by omega)
      rw [hTk] at hge
      have hat1 := CZ_at (z := T.getD k []) (c := n) (by omega)
      have hat2 := CZ_at (z := T.getD k []) (c := P.getD k 0) (by omega)
      have z1 := vc_z (hz k hlt) n
      have z2 := vc_z (hz k hlt) (P.getD k 0)
      have hof := rofW (Wn.C z1 (by omega)) (Wn.C z2 (by omega)) (hpc k hlt)
      have hsp := FLc_set (qs := solL T P n k) [] (c := P.getD k 0) (by rw [solL_len]; exact hcn) (Rat.divInt (vc (T.getD k []) n) (vc (T.getD k []) (P.getD k 0)))
      rw [List.append_nil, List.append_nil] at hsp
      have hsol : (solL T P n k).set (P.getD k 0) (Rat.divInt (vc (T.getD k []) n) (vc (T.getD k []) (P.getD k 0))) = solL T P n (k + 1) := rfl
      rw [hsol] at hsp
      have hln : (FLc (solL T P n k)).length = n * 3 := by rw [FLc_len, solL_len]
      have hno2 : ∀ i, i < k + 1 → P.getD i 0 ≠ n := fun i hi => by
        by_cases e : i = k
        · rw [e]; exact hpe
        · exact hno i (by omega)
      have hel : ((T.map CZ).map SW).length = T.length := by simp
      have hwl : (SWc (CZ (T.getD k []))).length = (n + 1) * 2 := by rw [SWc_len, CZ_len, hTk]; omega
      clear hsol hT hz hpc hpn hno
      obtain ⟨s2, es2⟩ : ∃ s, solL T P n (k + 1) = s := ⟨_, rfl⟩
      rw [es2] at hsp
      generalize solL T P n k = s1 at *
      generalize Rat.divInt (vc (T.getD k []) n) (vc (T.getD k []) (P.getD k 0)) = q at *
      generalize vc (T.getD k []) n = y1 at *
      generalize vc (T.getD k []) (P.getD k 0) = y2 at *
      generalize P.getD k 0 = pk at *
      generalize T.getD k [] = tk at *
      have hpe' : ¬ ((pk : Nat) : Int) = (n : Nat) := by omega
      simp -implicitDefEqProofs (disch := omega) only [go_sem, ht, h1, h12, h14, h75, h76, h77, hgp, hge, hat1, hat2, hH, hpe', hpe]
      ((refine pCall_vw (by refine ⟨⟨?_, ?_⟩, ?_, ?_⟩; rotate_left 2; (first | (right; rintro r rfl; rfl) | left); all_goals ((try simp -implicitDefEqProofs (disch := omega) only [h1, h12, h14, h75, h76, h77, hgp, hge, hat1, hat2, hH, hsp, hln, hpe, hpe', go_sem, ht]) <;> rfl)) (hof) ?_; rintro _ nx_6 - rfl hnx_6; simp -implicitDefEqProofs (disch := omega) only [h1, h12, h14, h75, h76, h77, hgp, hge, hat1, hat2, hH, hsp, hln, hpe, hpe', go_sem, ht]))
      exact ⟨⟨by omega, k + 1, by omega, rfl, hno2, by rw [es2]⟩, by omega⟩
set_option maxHeartbeats 8000000 in
theorem solve3 (hc : cx.n = 118) (ht : cx.tb = [(7, [(0, []), (1, []), (2, []), (3, []), (5, []), (7, []), (8, []), (9, []), (10, []), (4, [0, 1, 5, 7, 8, 9, 10]), (6, [0, 1, 7, 8, 9, 10]), (11, [0, 1, 2, 3, 5]), (12, [0, 1]), (13, []), (14, [])]), (1000007, [(0, []), (0, []), (0, []), (4, []), (12, []), (0, []), (60, []), (0, []), (0, []), (384, []), (896, []), (1920, []), (4092, []), (8191, []), (16383, [])]), (21, [(0, []), (1, []), (2, []), (3, []), (4, []), (5, []), (6, []), (7, []), (8, []), (9, []), (10, []), (11, []), (12, []), (13, []), (14, []), (15, []), (16, [0, 1]), (17, []), (18, []), (19, []), (20, []), (21, [19])]), (1000021, [(0, []), (0, []), (0, []), (0, []), (12, []), (28, []), (0, []), (124, []), (252, []), (0, []), (0, []), (1536, []), (3584, []), (0, []), (15872, []), (32256, []), (65532, []), (131068, []), (262140, []), (262140, []), (524287, []), (1572863, [])])]) (hn : n ≤ 32) (hx : x.length = n) (hz : ∀ c, c < n → Zq K (fv x c)) (hK : 1 ≤ K) (hK2 : K ≤ 100000)
    (hI : s.sl 14 = .ref b 0 n n 3 ∧ s.sl 107 = .ref b 0 n n 3 ∧ s.sl 108 = .val (.int .i64 n) ∧ s.sl 109 = .val (.int .i64 (0 : Nat)) ∧ b < s.nx ∧ s.H b = some (FLc x))
    (hR : (∃ c, c < n ∧ 32 < limQ (fv x c)) → ∀ t : PS, t.sl 6 = .val (.slice none 0 0) → t.sl 7 = .val (.bool false) → t.sl 8 = .val (.int .i64 2) → Q .ret t)
    (hQ : (∀ c, c < n → ¬ 32 < limQ (fv x c)) → ∀ t : PS, t.sl 14 = .ref b 0 n n 3 → t.H b = some (FLc x) → b < t.nx → Q (.exit 6) t) : LW Try.prog cx (loopN Try.f40 3) Q s := by
  refine LW.ofLoop rfl ?_
  refine LW.loopW hc ht (by kernel_rfl) (fun t => t.sl 14 = .ref b 0 n n 3 ∧ t.sl 107 = .ref b 0 n n 3 ∧ t.sl 108 = .val (.int .i64 n) ∧ b < t.nx ∧ t.H b = some (FLc x) ∧ ∃ i : Nat, i ≤ n ∧ t.sl 109 = .val (.int .i64 i) ∧ ∀ c, c < i → ¬ 32 < limQ (fv x c))
    (fun t => match t.sl 109 with | .val (.int _ k) => n - k.toNat | _ => 0) ?_ ?_
  · obtain ⟨g14, g107, g108, g109, gb, gH⟩ := hI
    exact ⟨g14, g107, g108, gb, gH, 0, Nat.zero_le _, g109, fun c hc => by omega⟩
  rintro t ⟨h14, h107, h108, hb, hH, i, hi, h109, hno⟩
  by_cases hie : i = n
  · subst hie
    simp -implicitDefEqProofs (disch := omega) only [go_sem, ht, h14, h107, h108, h109]
    exact hQ hno _ (by simp -implicitDefEqProofs (disch := omega) only [go_sem, ht, h14]) hH (by simp -implicitDefEqProofs (disch := omega) only [go_sem, ht]; exact hb)
  · have hlt : i < n := by omega
    have hlm := rlimbsM (Fn.C (hz i hlt) (by omega) hK)
    have hat := FLc_at (qs := x) [] (c := i) (by omega)
    rw [List.append_nil, List.append_nil] at hat
    have hln : (FLc x).length = n * 3 := by rw [FLc_len, hx]
    have hl : limQ (fv x i) = max (D (fv x i).num.natAbs).length (D (fv x i).den).length := rfl
    rw [← hl] at hlm
    have hno2 : ¬ 32 < limQ (fv x i) → ∀ c, c < i + 1 → ¬ 32 < limQ (fv x c) := fun h c hc => by
      by_cases e : c = i
      · rw [e]; exact h
      · exact hno c (by omega)
    have hex : 32 < limQ (fv x i) → ∃ c, c < n ∧ 32 < limQ (fv x c) := fun h => ⟨i, hlt, h⟩
    clear hl hno hz
    generalize limQ (fv x i) = lq at *
    generalize fv x i = q at *
    by_cases h32 : 32 < lq
    · have h32i : (32 : Int) < (lq : Nat) := by omega
      simp -implicitDefEqProofs (disch := omega) only [go_sem, ht, h14, h107, h108, h109, hH, hat]
      ((refine pCall_vw (by refine ⟨⟨?_, ?_⟩, ?_, ?_⟩; rotate_left 2; (first | (right; rintro r rfl; rfl) | left); all_goals ((try simp -implicitDefEqProofs (disch := omega) only [h14, h107, h108, h109, hH, hat, h32, h32i, go_sem, ht]) <;> rfl)) (hlm) ?_; rintro _ nx_7 - rfl hnx_7; simp -implicitDefEqProofs (disch := omega) only [h14, h107, h108, h109, hH, hat, h32, h32i, go_sem, ht]))
      exact hR (hex h32) _ (by simp -implicitDefEqProofs (disch := omega) only [go_sem, ht]) (by simp -implicitDefEqProofs (disch := omega) only [go_sem, ht]) (by simp -implicitDefEqProofs (disch := omega) only [go_sem, ht])
    · have h32i : ¬ (32 : Int) < (lq : Nat) := by omega
      simp -implicitDefEqProofs (disch := omega) only [go_sem, ht, h14, h107, h108, h109, hH, hat]
      ((refine pCall_vw (by refine ⟨⟨?_, ?_⟩, ?_, ?_⟩; rotate_left 2; (first | (right; rintro r rfl; rfl) | left); all_goals ((try simp -implicitDefEqProofs (disch := omega) only [h14, h107, h108, h109, hH, hat, h32, h32i, go_sem, ht]) <;> rfl)) (hlm) ?_; rintro _ nx_8 - rfl hnx_8; simp -implicitDefEqProofs (disch := omega) only [h14, h107, h108, h109, hH, hat, h32, h32i, go_sem, ht]))
      exact ⟨⟨by omega, i + 1, by omega, rfl, hno2 h32⟩, by omega⟩
end
end Go.Proofs.Ytfjdfnlkobeehaa
end

section
set_option maxRecDepth 100000
set_option linter.unusedVariables false
set_option linter.unusedSimpArgs false
namespace Go.Proofs.Ytfjdfnlkobeehaa
section
variable {M A : List (List Int)} {y : List Int} {n : Nat}

structure Aug (M A : List (List Int)) (n : Nat) : Prop where
  len : A.length = M.length
  row : ∀ i, i < M.length → (M.getD i []).length = n
  ent : ∀ i, i < M.length → ∀ j, j < n → vc (A.getD i []) j = vc (M.getD i []) j
theorem Aug.proj (h : Aug M A n) {u : Vc} (hu : Sp (rowsOf A) u) : Sp (rowsOf M) fun j => if j < n then u j else 0 := by
  induction hu with
  | zero hz => exact .zero fun j => by split <;> simp [hz]
  | @mem r hr =>
    obtain ⟨i, hi, rfl⟩ := hr
    rw [h.len] at hi
    have e : (fun j => if j < n then vc (A.getD i []) j else 0) = vc (M.getD i []) := by
      funext j
      by_cases hj : j < n
      · rw [if_pos hj]; exact h.ent i hi j hj
      · rw [if_neg hj, vc_ge (by rw [h.row i hi]; omega)]
    rw [e]
    exact .mem ⟨i, hi, rfl⟩
  | @comb u v w a b g _ _ hg hw ih1 ih2 =>
    refine .comb (a := a) (b := b) ih1 ih2 hg fun j => ?_
    by_cases hj : j < n
    · simp only [if_pos hj]; exact hw j
    · simp only [if_neg hj]; omega
theorem Aug.lift (h : Aug M A n) {u : Vc} (hu : Sp (rowsOf M) u) : ∃ (k : Int) (v : Vc), k ≠ 0 ∧ Sp (rowsOf A) v ∧ ∀ j, j < n → v j = k * u j := by
  induction hu with
  | zero hz => exact ⟨1, fun _ => 0, by decide, .zero fun _ => rfl, fun j _ => by rw [hz]; rfl⟩
  | @mem r hr =>
    obtain ⟨i, hi, rfl⟩ := hr
    exact ⟨1, vc (A.getD i []), by decide, .mem ⟨i, by rw [h.len]; exact hi, rfl⟩, fun j hj => by rw [h.ent i hi j hj]; omega⟩
  | @comb u v w a b g _ _ hg hw ih1 ih2 =>
    obtain ⟨k1, u', hk1, hu', e1⟩ := ih1
    obtain ⟨k2, v', hk2, hv', e2⟩ := ih2
    refine ⟨g * k1 * k2, fun j => (a * k2) * u' j + (b * k1) * v' j, ?_, .comb (a := a * k2) (b := b * k1) (g := 1) hu' hv' (by decide) fun j => by omega, fun j hj => ?_⟩
    · exact Int.mul_ne_zero (Int.mul_ne_zero hg hk1) hk2
    · show a * k2 * u' j + b * k1 * v' j = _
      rw [e1 j hj, e2 j hj]
      have := hw j
      grind
variable {T T' : List (List Int)} {P P' : List Nat}
theorem Aug.piv (h : Aug M A n) (h1 : RE T P n) (s1 : ∀ r, rowsOf T r → Sp (rowsOf M) r) (s2 : ∀ r, rowsOf M r → Sp (rowsOf T) r) (h2 : RE T' P' (n + 1)) (s3 : ∀ r, rowsOf T' r → Sp (rowsOf A) r) (s4 : ∀ r, rowsOf A r → Sp (rowsOf T') r) {c : Nat} (hc : c < n) : c ∈ P ↔ c ∈ P' := by
  constructor
  · intro hm
    obtain ⟨i, hi, rfl⟩ := List.mem_iff_getElem.1 hm
    have hu := s1 _ ⟨i, by rw [h1.len]; exact hi, rfl⟩
    obtain ⟨k, v, hk, hv, e⟩ := h.lift hu
    refine h2.first (Sp.trans s4 hv) (c := P[i]) ?_ fun j hj => ?_
    · rw [e _ hc]
      have := h1.pos i hi
      exact Int.mul_ne_zero hk (by omega)
    · rw [e j (by omega), h1.lead i hi j hj, Int.mul_zero]
  · intro hm
    obtain ⟨i, hi, rfl⟩ := List.mem_iff_getElem.1 hm
    have hu := h.proj (s3 _ ⟨i, by rw [h2.len]; exact hi, rfl⟩)
    refine h1.first (Sp.trans s2 hu) (c := P'[i]) ?_ fun j hj => ?_
    · simp only [if_pos hc]
      have := h2.pos i hi
      omega
    · have := h2.lead i hi j hj
      simp only [show j < n by omega, if_true]; exact this
theorem Aug.rank (h : Aug M A n) (h1 : RE T P n) (s1 : ∀ r, rowsOf T r → Sp (rowsOf M) r) (s2 : ∀ r, rowsOf M r → Sp (rowsOf T) r) (h2 : RE T' P' (n + 1)) (s3 : ∀ r, rowsOf T' r → Sp (rowsOf A) r) (s4 : ∀ r, rowsOf A r → Sp (rowsOf T') r) : P'.length = if n ∈ P' then P.length + 1 else P.length := by
  have hp := fun c (hc : c < n) => h.piv h1 s1 s2 h2 s3 s4 hc
  split
  · rename_i hn
    have e : P' = P ++ [n] := by
      refine sorted_eq h2.inc (fun i j hi hj hij => ?_) fun x => ?_
      · rw [List.length_append, List.length_singleton] at hj
        by_cases hj2 : j < P.length
        · rw [List.getElem_append_left (by omega), List.getElem_append_left hj2]
          exact h1.inc i j (by omega) hj2 hij
        · rw [List.getElem_append_left (by omega), List.getElem_append_right (by omega)]
          simp only [List.getElem_singleton]
          exact h1.col _ (List.getElem_mem _)
      · rw [List.mem_append, List.mem_singleton]
        constructor
        · intro hx
          have := h2.col x hx
          by_cases hxn : x = n
          · exact .inr hxn
          · exact .inl ((hp x (by omega)).2 hx)
        · rintro (hx | rfl)
          · exact (hp x (h1.col x hx)).1 hx
          · exact hn
    rw [e, List.length_append]; rfl
  · rename_i hn
    have e : P' = P := by
      refine sorted_eq h2.inc h1.inc fun x => ?_
      constructor
      · intro hx
        have := h2.col x hx
        have hxn : x ≠ n := fun e => hn (e ▸ hx)
        exact (hp x (by omega)).2 hx
      · intro hx
        exact (hp x (h1.col x hx)).1 hx
    rw [e]
end

def sumQ (f : Nat → Rat) : Nat → Rat
  | 0 => 0
  | n + 1 => sumQ f n + f n
theorem sumQ_congr {f g : Nat → Rat} : ∀ {n : Nat}, (∀ k, k < n → f k = g k) → sumQ f n = sumQ g n
  | 0, _ => rfl
  | n + 1, h => by rw [sumQ, sumQ, sumQ_congr fun k hk => h k (by omega), h n (by omega)]
theorem sumQ_zero {f : Nat → Rat} : ∀ {n : Nat}, (∀ k, k < n → f k = 0) → sumQ f n = 0
  | 0, _ => rfl
  | n + 1, h => by rw [sumQ, sumQ_zero fun k hk => h k (by omega), h n (by omega)]; grind
theorem sumQ_one {f : Nat → Rat} {i : Nat} : ∀ {n : Nat}, i < n → (∀ k, k < n → k ≠ i → f k = 0) → sumQ f n = f i
  | 0, h, _ => by omega
  | n + 1, h, hz => by
    rw [sumQ]
    by_cases hi : i = n
    · subst hi
      rw [sumQ_zero fun k hk => hz k (by omega) (by omega)]; grind
    · rw [sumQ_one (by omega) fun k hk hne => hz k (by omega) hne, hz n (by omega) (by omega)]; grind
theorem sumQ_lin {f g : Nat → Rat} {a b : Rat} : ∀ n, sumQ (fun k => a * f k + b * g k) n = a * sumQ f n + b * sumQ g n
  | 0 => by rw [sumQ, sumQ, sumQ]; grind
  | n + 1 => by rw [sumQ, sumQ, sumQ, sumQ_lin n]; grind
section
variable {T : List (List Int)} {P : List Nat} {n : Nat}
theorem solL_no {c : Nat} : ∀ k, (∀ i, i < k → P.getD i 0 ≠ c) → fv (solL T P n k) c = 0
  | 0, _ => by
    unfold solL fv
    by_cases h : c < n
    · simp [h]
    · simp [h]
  | k + 1, h => by
    have ih := solL_no (c := c) k fun i hi => h i (by omega)
    have hne := h k (by omega)
    unfold fv at ih ⊢
    rw [solL, List.getD_eq_getElem?_getD, List.getElem?_set_ne hne]
    rwa [List.getD_eq_getElem?_getD] at ih
theorem solL_at (hinj : ∀ i j, i < P.length → j < P.length → P.getD i 0 = P.getD j 0 → i = j) (hb : ∀ i, i < P.length → P.getD i 0 < n) {i : Nat} : ∀ k, k ≤ P.length → i < k → fv (solL T P n k) (P.getD i 0) = Rat.divInt (vc (T.getD i []) n) (vc (T.getD i []) (P.getD i 0))
  | 0, _, h => by omega
  | k + 1, hk, h => by
    unfold fv
    rw [solL, List.getD_eq_getElem?_getD]
    by_cases hik : i = k
    · subst hik
      rw [List.getElem?_set_self (by rw [solL_len]; exact hb i (by omega))]; rfl
    · have hne : P.getD k 0 ≠ P.getD i 0 := fun e => hik (hinj k i (by omega) (by omega) e).symm
      rw [List.getElem?_set_ne hne]
      have ih := solL_at hinj hb k (by omega) (show i < k by omega)
      unfold fv at ih
      rwa [List.getD_eq_getElem?_getD] at ih

theorem sol_row (h : RE T P (n + 1)) (hn : n ∉ P) {u : Vc} (hu : Sp (rowsOf T) u) : sumQ (fun c => (u c : Rat) * fv (solL T P n P.length) c) n = (u n : Rat) := by
  have hP : ∀ i (hi : i < P.length), P.getD i 0 = P[i] := fun i hi => by simp [hi]
  have hinj : ∀ i j, i < P.length → j < P.length → P.getD i 0 = P.getD j 0 → i = j := fun i j hi hj e => by
    rw [hP i hi, hP j hj] at e
    rcases Nat.lt_trichotomy i j with h1 | h1 | h1
    · have := h.inc i j hi hj h1; omega
    · exact h1
    · have := h.inc j i hj hi h1; omega
  have hb : ∀ i, i < P.length → P.getD i 0 < n := fun i hi => by
    rw [hP i hi]
    have h1 := h.col _ (List.getElem_mem hi)
    have h2 : P[i] ≠ n := fun e => hn (e ▸ List.getElem_mem hi)
    omega
  induction hu with
  | zero hz =>
    rw [hz n, sumQ_zero fun k _ => by rw [hz k]; simp]; simp
  | @mem r hr =>
    obtain ⟨i, hi, rfl⟩ := hr
    rw [h.len] at hi
    rw [sumQ_one (hb i hi) fun k hk hne => ?_]
    · rw [solL_at hinj hb _ (Nat.le_refl _) hi, hP i hi, Rat.divInt_eq_div]
      have hp := h.pos i hi
      have hp' : (vc (T.getD i []) P[i] : Rat) ≠ 0 := fun e => by
        have : vc (T.getD i []) P[i] = 0 := by exact_mod_cast e
        omega
      grind
    · by_cases hk2 : ∃ j, j < P.length ∧ P.getD j 0 = k
      · obtain ⟨j, hj, rfl⟩ := hk2
        have hji : j ≠ i := fun e => hne (by rw [e])
        have : vc (T.getD i []) (P.getD j 0) = 0 := by
          rw [hP j hj]
          exact Classical.byContradiction fun e => hji ((h.piv i j hj hi).1 e)
        rw [this]; simp
      · rw [solL_no _ fun i hi e => hk2 ⟨i, hi, e⟩]; simp
  | @comb u v w a b g _ _ hg hw ih1 ih2 =>
    have hg' : (g : Rat) ≠ 0 := fun e => hg (by exact_mod_cast e)
    have e1 : ∀ j, (g : Rat) * (w j : Rat) = (a : Rat) * (u j : Rat) + (b : Rat) * (v j : Rat) := fun j => by exact_mod_cast hw j
    have e2 : (g : Rat) * sumQ (fun c => (w c : Rat) * fv (solL T P n P.length) c) n = (a : Rat) * (u n : Rat) + (b : Rat) * (v n : Rat) := by
      rw [← ih1, ← ih2, ← sumQ_lin]
      have h0 := sumQ_lin (f := fun c => (w c : Rat) * fv (solL T P n P.length) c) (g := fun _ => 0) (a := (g : Rat)) (b := 0) n
      have h00 : sumQ (fun k => (g : Rat) * ((w k : Rat) * fv (solL T P n P.length) k) + 0 * 0) n = (g : Rat) * sumQ (fun c => (w c : Rat) * fv (solL T P n P.length) c) n := by rw [h0]; grind
      rw [← h00]
      refine sumQ_congr fun k _ => ?_
      have := e1 k
      grind
    have e3 := e1 n
    grind
end

def cntQ (x : List Rat) : Nat → Nat
  | 0 => 0
  | c + 1 => cntQ x c + if (fv x c).num = 0 then 0 else 1
theorem countP_lt (c : Nat) : ∀ P : List Nat, P.countP (fun p => decide (p < c + 1)) = P.countP (fun p => decide (p < c)) + P.count c
  | [] => rfl
  | p :: P => by
    rw [List.countP_cons, List.countP_cons, List.count_cons, countP_lt c P]
    by_cases h : p < c
    · have : ¬ p = c := by omega
      simp [h, this, show p < c + 1 by omega]; omega
    · by_cases h2 : p = c
      · subst h2; simp; omega
      · simp [h, h2, show ¬ p < c + 1 by omega]
theorem cntQ_le {x : List Rat} {P : List Nat} (h : ∀ c, (fv x c).num ≠ 0 → c ∈ P) : ∀ c, cntQ x c ≤ P.countP (fun p => decide (p < c))
  | 0 => by simp [cntQ]
  | c + 1 => by
    have ih := cntQ_le h c
    rw [cntQ, countP_lt]
    split
    · omega
    · rename_i hx
      have := List.count_pos_iff.2 (h c hx)
      omega
end Go.Proofs.Ytfjdfnlkobeehaa
end

section
set_option maxRecDepth 100000
set_option linter.unusedVariables false
set_option linter.unusedSimpArgs false
namespace Go.Proofs.Ytfjdfnlkobeehaa
theorem solL_zq {T : List (List Int)} {P : List Nat} {n K : Nat} (hK : 1 ≤ K) (hz : ∀ k, k < P.length → ∀ j, Z K (vc (T.getD k []) j)) (hp : ∀ k, k < P.length → vc (T.getD k []) (P.getD k 0) ≠ 0) (c : Nat) : ∀ k, k ≤ P.length → Zq K (fv (solL T P n k) c)
  | 0, _ => by
    have h0 : fv (solL T P n 0) c = 0 := solL_no 0 fun i hi => by omega
    rw [h0]
    exact ⟨Nat.pow_pos (by decide), Nat.one_lt_pow (by omega) (by decide)⟩
  | k + 1, hk => by
    have ih := solL_zq (n := n) hK hz hp c k (by omega)
    unfold fv at ih ⊢
    rw [solL, List.getD_eq_getElem?_getD]
    rw [List.getD_eq_getElem?_getD] at ih
    by_cases hc : P.getD k 0 = c
    · rw [hc]
      by_cases hl : c < (solL T P n k).length
      · rw [List.getElem?_set_self hl]
        show Zq K (Rat.divInt _ _)
        rw [← rat_over (by rw [← hc]; exact hp k (by omega))]
        refine .of hK ?_ (hz k (by omega) c)
        split
        · exact (hz k (by omega) n).neg
        · exact hz k (by omega) n
      · rw [List.getElem?_eq_none (by rw [List.length_set]; omega)]
        rw [List.getElem?_eq_none (by omega)] at ih
        exact ih
    · rw [List.getElem?_set_ne hc]; exact ih
section
variable {m : List (List (Bool × List Nat))} {r : List (Bool × List Nat)} {B : Nat}

def mSol (m : List (List (Bool × List Nat))) (cn : Int) (r : List (Bool × List Nat)) : List Rat × Bool × Int :=
  if wrongM m cn || decide (r.length ≠ m.length) then ([], false, 1) else
    if cn.toNat ∈ (echW ((augL m r).map vals) (cn.toNat + 1)).2 then ([], false, 0) else
      if ∃ c, c < cn.toNat ∧ 32 < limQ (fv (solL (echT ((augL m r).map vals) (cn.toNat + 1)) (echW ((augL m r).map vals) (cn.toNat + 1)).2 cn.toNat (echW ((augL m r).map vals) (cn.toNat + 1)).2.length) c) then ([], false, 2) else
        (solL (echT ((augL m r).map vals) (cn.toNat + 1)) (echW ((augL m r).map vals) (cn.toNat + 1)).2 cn.toNat (echW ((augL m r).map vals) (cn.toNat + 1)).2.length, true, 0)
theorem aug_mx (hm : Mx m B) (hr : Rn r B) (hl : r.length = m.length) (hB : lenM m + lenW r ≤ B) : Mx (augL m r) B := by
  refine ⟨fun l hl p hp => ?_, ?_, hm.hB⟩
  · obtain ⟨i, hi, rfl⟩ := List.mem_iff_getElem.1 hl
    have hi' : i < m.length := by rw [augL_len (by assumption)] at hi; exact hi
    have e := augL_get (by assumption) hi'
    have e2 : (augL m r).getD i [] = (augL m r)[i] := by simp [hi]
    rw [← e2, e] at hp
    rcases List.mem_append.1 hp with hp | hp
    · exact hm.lm _ (getD_mem hi') p hp
    · have : p = r[i]'(by omega) := by simpa using hp
      rw [this]
      exact (hr.ok _ (List.getElem_mem _)).1
  · have := lenM_aug (m := m) (r := r)
    omega
theorem aug_row (hl : r.length = m.length) {n : Nat} (hc : ∀ l ∈ m, l.length = n) : ∀ l ∈ augL m r, l.length = n + 1 := fun l h => by
  obtain ⟨i, hi, rfl⟩ := List.mem_iff_getElem.1 h
  have hi' : i < m.length := by rw [augL_len hl] at hi; exact hi
  have e := augL_get hl hi'
  have e2 : (augL m r).getD i [] = (augL m r)[i] := by simp [hi]
  rw [← e2, e, List.length_append, hc _ (getD_mem hi')]; rfl
set_option maxHeartbeats 16000000 in
theorem solve_calls (hA : r.length = m.length → Mx (augL m r) B) (hm : ∀ l ∈ m, ∀ p ∈ l, Lm p.2) (hB : B ≤ 2000) {cn : Int} :
    PT Try.prog 40 [SM m, .val (.int .i64 cn), SW r] (isV (.tup [SF (mSol m cn r).1, .val (.bool (mSol m cn r).2.1), .val (.int .i64 (mSol m cn r).2.2)])) := by
  have hw := wrong_calls (m := m) (cn := cn)
  unfold mSol
  by_cases hb : wrongM m cn = true
  · rw [hb] at hw
    rw [hb, Bool.true_or, if_pos rfl]
    refine PCalls.enter (n := 118) (rs := [.tmp 6, .tmp 7, .tmp 8]) (tb := [(7, [(0, []), (1, []), (2, []), (3, []), (5, []), (7, []), (8, []), (9, []), (10, []), (4, [0, 1, 5, 7, 8, 9, 10]), (6, [0, 1, 7, 8, 9, 10]), (11, [0, 1, 2, 3, 5]), (12, [0, 1]), (13, []), (14, [])]), (1000007, [(0, []), (0, []), (0, []), (4, []), (12, []), (0, []), (60, []), (0, []), (0, []), (384, []), (896, []), (1920, []), (4092, []), (8191, []), (16383, [])]), (21, [(0, []), (1, []), (2, []), (3, []), (4, []), (5, []), (6, []), (7, []), (8, []), (9, []), (10, []), (11, []), (12, []), (13, []), (14, []), (15, []), (16, [0, 1]), (17, []), (18, []), (19, []), (20, []), (21, [19])]), (1000021, [(0, []), (0, []), (0, []), (0, []), (12, []), (28, []), (0, []), (124, []), (252, []), (0, []), (0, []), (1536, []), (3584, []), (0, []), (15872, []), (32256, []), (65532, []), (131068, []), (262140, []), (262140, []), (524287, []), (1572863, [])])]) Try.func40 rfl rfl rfl (by kernel_rfl) (by kernel_rfl) (by simp) fun c hc ht => ?_
    simp -implicitDefEqProofs (disch := omega) only [go_sem, ht]
    (refine pCall_vw (by refine ⟨⟨?_, ?_⟩, ?_, ?_⟩; rotate_left 2; (first | (right; rintro r rfl; rfl) | left); all_goals ((try simp -implicitDefEqProofs (disch := omega) only [go_sem, ht]) <;> rfl)) (hw) ?_; rintro _ nx - rfl hnx; simp -implicitDefEqProofs (disch := omega) only [go_sem, ht])
    (refine end_treeM 2 ?_; simp -implicitDefEqProofs (disch := omega) only [go_sem, ht, SF_def, FLc_nil])
  have hb' : wrongM m cn = false := by simpa using hb
  rw [hb'] at hw
  by_cases hrl : r.length = m.length
  · obtain ⟨n, rfl, hn, hml, hlc⟩ := wrongM_false hb'
    have hA := hA hrl
    have hac := aug_row hrl hlc
    have hac' : ∀ z ∈ (augL m r).map vals, z.length = n + 1 := fun z hz => by
      obtain ⟨l, hl, rfl⟩ := List.mem_map.1 hz
      rw [vals_len]; exact hac l hl
    have hec := hA.ech hac (by omega) (by rw [augL_len hrl]; omega)
    have hEW := (EW.all hac' (n + 1)).tle
    obtain ⟨hRE, hs1, hs2⟩ := echT_RE hA hac
    have hzz := hA.echZ hac
    rw [hb', Bool.false_or, if_neg (by simp [hrl]), Int.toNat_natCast]
    have hal := augL_len hrl
    rw [List.length_map, hal] at hEW
    rw [SM_def, hal] at hec
    generalize echT ((augL m r).map vals) (n + 1) = T at *
    generalize (echW ((augL m r).map vals) (n + 1)).2 = P at *
    have hTl := hRE.len
    have hT : ∀ k, k < P.length → (T.getD k []).length = n + 1 := fun k hk => hRE.row k (by omega)
    have hz : ∀ k, k < P.length → ∀ y ∈ T.getD k [], Z (B + 1) y := fun k hk y hy => hzz _ (getD_mem (by omega)) y hy
    have hPg : ∀ k (hk : k < P.length), P.getD k 0 = P[k] := fun k hk => by simp [hk]
    have hpc : ∀ k, k < P.length → vc (T.getD k []) (P.getD k 0) ≠ 0 := fun k hk => by
      rw [hPg k hk]
      have := hRE.pos k hk
      omega
    have hpn : ∀ k, k < P.length → P.getD k 0 ≤ n := fun k hk => by
      rw [hPg k hk]
      have := hRE.col _ (List.getElem_mem hk)
      omega
    have hxz := fun c => solL_zq (n := n) (K := B + 1) (by omega) (fun k hk => vc_z (hz k hk)) hpc c P.length (Nat.le_refl _)
    have hxl := solL_len (T := T) (P := P) (n := n) P.length
    have hm2 : ∀ l ∈ m, (∀ p ∈ l, Lm p.2) ∧ l.length = n := fun l hl => ⟨hm l hl, hlc l hl⟩
    clear hs1 hs2 hzz hac hA hRE hac' hPg
    refine PCalls.enter (n := 118) (rs := [.tmp 6, .tmp 7, .tmp 8]) (tb := [(7, [(0, []), (1, []), (2, []), (3, []), (5, []), (7, []), (8, []), (9, []), (10, []), (4, [0, 1, 5, 7, 8, 9, 10]), (6, [0, 1, 7, 8, 9, 10]), (11, [0, 1, 2, 3, 5]), (12, [0, 1]), (13, []), (14, [])]), (1000007, [(0, []), (0, []), (0, []), (4, []), (12, []), (0, []), (60, []), (0, []), (0, []), (384, []), (896, []), (1920, []), (4092, []), (8191, []), (16383, [])]), (21, [(0, []), (1, []), (2, []), (3, []), (4, []), (5, []), (6, []), (7, []), (8, []), (9, []), (10, []), (11, []), (12, []), (13, []), (14, []), (15, []), (16, [0, 1]), (17, []), (18, []), (19, []), (20, []), (21, [19])]), (1000021, [(0, []), (0, []), (0, []), (0, []), (12, []), (28, []), (0, []), (124, []), (252, []), (0, []), (0, []), (1536, []), (3584, []), (0, []), (15872, []), (32256, []), (65532, []), (131068, []), (262140, []), (262140, []), (524287, []), (1572863, [])])]) Try.func40 rfl rfl rfl (by kernel_rfl) (by kernel_rfl) (by simp) fun c hc ht => ?_
    simp -implicitDefEqProofs (disch := omega) only [go_sem, ht]
    (refine pCall_vw (by refine ⟨⟨?_, ?_⟩, ?_, ?_⟩; rotate_left 2; (first | (right; rintro r rfl; rfl) | left); all_goals ((try simp -implicitDefEqProofs (disch := omega) only [hrl, go_sem, ht]) <;> rfl)) (hw) ?_; rintro _ nx - rfl hnx; simp -implicitDefEqProofs (disch := omega) only [hrl, go_sem, ht])
    refine solve0 (m := m) (r := r) (n := n) (b := nx) hc ht hm2 hrl hml hn ⟨by simp -implicitDefEqProofs (disch := omega) only [go_sem, ht], by simp -implicitDefEqProofs (disch := omega) only [go_sem, ht], by simp -implicitDefEqProofs (disch := omega) only [go_sem, ht], by simp -implicitDefEqProofs (disch := omega) only [go_sem, ht], by simp -implicitDefEqProofs (disch := omega) only [go_sem, ht], by simp -implicitDefEqProofs (disch := omega) only [go_sem, ht], by first | omega | (simp -implicitDefEqProofs (disch := omega) only [go_sem, ht]; done) | (simp -implicitDefEqProofs (disch := omega) only [go_sem, ht]; omega), by simp -implicitDefEqProofs (disch := omega) only [go_sem, ht] <;> rfl, by simp -implicitDefEqProofs (disch := omega) only [go_sem, ht, upd_self, repl_one]⟩ ?_
    intro t h1 h9 hH hbn
    have hml2 : ((augL m r).map SW).length = m.length := by rw [List.length_map, hal]
    have htk : List.take m.length ((augL m r).map SW) = (augL m r).map SW := List.take_of_length_le (by omega)
    have hle : m.length ≤ ((augL m r).map SW).length := by omega
    have hfl := frzL_flat (fun _ => true) t.H 0 (SM_flat (augL m r))
    have hle2 : m.length ≤ (augL m r).length := by omega
    have hfl0 := SM_flat (augL m r)
    simp -implicitDefEqProofs (disch := omega) only [go_sem, ht, h1, h9]
    (refine pCall_frz (fun _ => true) 1 (by simp -implicitDefEqProofs (disch := omega) only [hH, htk, hle, hfl, hle2, hfl0, go_sem, ht] <;> rfl) (by simp -implicitDefEqProofs (disch := omega) only [hH, htk, hle, hfl, hle2, hfl0, go_sem, ht]) (by simp -implicitDefEqProofs (disch := omega) only [hH, htk, hle, hfl, hle2, hfl0, go_sem, ht] <;> rfl) (by simp -implicitDefEqProofs (disch := omega) only [hH, htk, hle, hfl, hle2, hfl0, go_sem, ht]) (hec) ?_; rintro _ nx - rfl hnx; (try simp only [put_nx, withH_nx, begP_nx] at hnx); simp -implicitDefEqProofs (disch := omega) only [hH, htk, hle, hfl, hle2, hfl0, go_sem, ht])
    simp -implicitDefEqProofs (disch := omega) only [go_sem, ht, h1, h9]
    have hrl3 : (repl n [PV.val (.bool false), PV.val (.slice none 0 0), PV.val (.slice none 0 0)]).length = n * 3 := by unfold repl; simp
    obtain ⟨b, eb⟩ : ∃ b, nx = b := ⟨_, rfl⟩
    rw [eb]
    refine solve1 (n := n) (b := b) (e := .sl T.length ((T.map CZ).map SW)) (p := .sl P.length (P.map Ref.I)) hc ht hn ⟨by simp -implicitDefEqProofs (disch := omega) only [go_sem, ht, h1], by simp -implicitDefEqProofs (disch := omega) only [go_sem, ht] <;> rfl, by simp -implicitDefEqProofs (disch := omega) only [go_sem, ht] <;> rfl, by simp -implicitDefEqProofs (disch := omega) only [go_sem, ht], by simp -implicitDefEqProofs (disch := omega) only [go_sem, ht], by simp -implicitDefEqProofs (disch := omega) only [go_sem, ht] <;> rfl, by first | omega | (simp -implicitDefEqProofs (disch := omega) only [go_sem, ht]; done) | (simp -implicitDefEqProofs (disch := omega) only [go_sem, ht]; omega), ⟨_, by simp -implicitDefEqProofs (disch := omega) only [go_sem, ht, upd_self] <;> rfl, hrl3⟩⟩ ?_
    intro t2 g1 g12 g13 g14 gH gb
    simp -implicitDefEqProofs (disch := omega) only [go_sem, ht, g1, g12, g13, g14]
    refine solve2 (n := n) (b := b) (K := B + 1) (T := T) (P := P) hc ht hn (by omega) hTl hT hz (by omega) (by omega) hpc hpn ⟨by simp -implicitDefEqProofs (disch := omega) only [go_sem, ht, g1], by simp -implicitDefEqProofs (disch := omega) only [go_sem, ht, g12], by simp -implicitDefEqProofs (disch := omega) only [go_sem, ht, g14], by simp -implicitDefEqProofs (disch := omega) only [go_sem, ht, g13], by simp -implicitDefEqProofs (disch := omega) only [go_sem, ht] <;> simp, by simp -implicitDefEqProofs (disch := omega) only [go_sem, ht] <;> rfl, by simp -implicitDefEqProofs (disch := omega) only [go_sem, ht]; exact gb, gH⟩ ?_ ?_
    · intro hm t3 u6 u7 u8
      rw [if_pos hm]
      (refine end_treeM 2 ?_; simp -implicitDefEqProofs (disch := omega) only [go_sem, ht, u6, u7, u8, SF_def, FLc_nil])
    · intro hm t3 u14 uH ub
      rw [if_neg hm]
      simp -implicitDefEqProofs (disch := omega) only [go_sem, ht, u14]
      refine solve3 (n := n) (b := b) (K := B + 1) (x := solL T P n P.length) hc ht hn hxl (fun c _ => hxz c) (by omega) (by omega) ⟨by simp -implicitDefEqProofs (disch := omega) only [go_sem, ht, u14], by simp -implicitDefEqProofs (disch := omega) only [go_sem, ht], by simp -implicitDefEqProofs (disch := omega) only [go_sem, ht], by simp -implicitDefEqProofs (disch := omega) only [go_sem, ht] <;> rfl, by simp -implicitDefEqProofs (disch := omega) only [go_sem, ht]; exact ub, uH⟩ ?_ ?_
      · intro hx t4 u6 u7 u8
        rw [if_pos hx]
        (refine end_treeM 2 ?_; simp -implicitDefEqProofs (disch := omega) only [go_sem, ht, u6, u7, u8, SF_def, FLc_nil])
      · intro hx t4 v14 vH vb
        rw [if_neg (by rintro ⟨c, h1, h2⟩; exact hx c h1 h2)]
        generalize solL T P n P.length = x at *
        have hfl := frzL_flat (fun _ => true) t4.H 0 (FLc_flat x)
        have hfl0 := FLc_flat x
        have hlx := FLc_len x
        have htk : List.take (n * 3) (FLc x) = FLc x := List.take_of_length_le (by rw [hlx, hxl]; omega)
        have hle : n * 3 ≤ (FLc x).length := by rw [hlx, hxl]; omega
        simp -implicitDefEqProofs (disch := omega) only [go_sem, ht, v14]
        (refine end_treeM 2 ?_; simp -implicitDefEqProofs (disch := omega) only [go_sem, ht, v14, vH, htk, hle, hfl, hfl0, SF_def, hxl])
  · rw [if_pos (by simp [hrl])]
    refine PCalls.enter (n := 118) (rs := [.tmp 6, .tmp 7, .tmp 8]) (tb := [(7, [(0, []), (1, []), (2, []), (3, []), (5, []), (7, []), (8, []), (9, []), (10, []), (4, [0, 1, 5, 7, 8, 9, 10]), (6, [0, 1, 7, 8, 9, 10]), (11, [0, 1, 2, 3, 5]), (12, [0, 1]), (13, []), (14, [])]), (1000007, [(0, []), (0, []), (0, []), (4, []), (12, []), (0, []), (60, []), (0, []), (0, []), (384, []), (896, []), (1920, []), (4092, []), (8191, []), (16383, [])]), (21, [(0, []), (1, []), (2, []), (3, []), (4, []), (5, []), (6, []), (7, []), (8, []), (9, []), (10, []), (11, []), (12, []), (13, []), (14, []), (15, []), (16, [0, 1]), (17, []), (18, []), (19, []), (20, []), (21, [19])]), (1000021, [(0, []), (0, []), (0, []), (0, []), (12, []), (28, []), (0, []), (124, []), (252, []), (0, []), (0, []), (1536, []), (3584, []), (0, []), (15872, []), (32256, []), (65532, []), (131068, []), (262140, []), (262140, []), (524287, []), (1572863, [])])]) Try.func40 rfl rfl rfl (by kernel_rfl) (by kernel_rfl) (by simp) fun c hc ht => ?_
    simp -implicitDefEqProofs (disch := omega) only [go_sem, ht]
    (refine pCall_vw (by refine ⟨⟨?_, ?_⟩, ?_, ?_⟩; rotate_left 2; (first | (right; rintro r rfl; rfl) | left); all_goals ((try simp -implicitDefEqProofs (disch := omega) only [hrl, go_sem, ht]) <;> rfl)) (hw) ?_; rintro _ nx - rfl hnx; simp -implicitDefEqProofs (disch := omega) only [hrl, go_sem, ht])
    (refine end_treeM 2 ?_; simp -implicitDefEqProofs (disch := omega) only [go_sem, ht, SF_def, FLc_nil])
end
end Go.Proofs.Ytfjdfnlkobeehaa
end

section
set_option maxRecDepth 100000
set_option linter.unusedVariables false
set_option linter.unusedSimpArgs false
namespace Go.Proofs.Ytfjdfnlkobeehaa

def fc (q : Rat) : List PV := [.val (.bool (decide (q.num < 0))), .sl (D q.num.natAbs).length ((D q.num.natAbs).map U), .sl (D q.den).length ((D q.den).map U)]
theorem Z_zero {k : Nat} : Z k 0 := Nat.pow_pos (by decide)
theorem Z_one {k : Nat} (h : 1 ≤ k) : Z k 1 := (Z2 (by decide)).mono h
theorem Zq_over {k : Nat} {x y : Int} (hx : Z k x) (hy : Z k y) (hk : 1 ≤ k) (h0 : y ≠ 0) : Zq k (Rat.divInt x y) := by
  rw [← rat_over h0]
  refine .of hk ?_ hy
  split
  · exact hx.neg
  · exact hx
theorem Zq_int {k : Nat} {z : Int} (h : Z k z) (hk : 1 ≤ k) : Zq k (z : Rat) := ⟨by rw [Rat.num_intCast]; exact h, by rw [Rat.den_intCast]; exact Nat.one_lt_pow (by omega) (by decide)⟩

def dotX (u : Vc) (x : List Rat) (n : Nat) : Rat := sumQ (fun c => (u c : Rat) * fv x c) n
theorem dotX_z {u : Vc} {x : List Rat} (hu : ∀ j, Z 1500 (u j)) (hx : ∀ c, Zq 32 (fv x c)) : ∀ n, ∃ (N D : Int), dotX u x n = Rat.divInt N D ∧ D ≠ 0 ∧ Z (1533 + 33 * n) N ∧ Z (1 + 32 * n) D
  | 0 => ⟨0, 1, by unfold dotX; rw [sumQ, Rat.divInt_eq_div]; simp; grind, by decide, Z_zero, Z_one (by omega)⟩
  | n + 1 => by
    obtain ⟨N, D, e, h0, hN, hD⟩ := dotX_z hu hx n
    have h1 := hx n
    have hq0 : ((fv x n).den : Int) ≠ 0 := by have := (fv x n).den_pos; omega
    have zq : Z 32 ((fv x n).den : Int) := h1.den
    refine ⟨N * (fv x n).den + u n * (fv x n).num * D, D * (fv x n).den, ?_, Int.mul_ne_zero h0 hq0, ?_, ?_⟩
    · have e2 : dotX u x (n + 1) = dotX u x n + (u n : Rat) * fv x n := rfl
      rw [e2, e]
      have e4 : fv x n = ((fv x n).num : Rat) / (((fv x n).den : Int) : Rat) := by rw [← Rat.divInt_eq_div, Rat.num_divInt_den]
      have hD' : (D : Rat) ≠ 0 := fun e => h0 (by exact_mod_cast e)
      have hq' : (((fv x n).den : Int) : Rat) ≠ 0 := fun e => hq0 (by exact_mod_cast e)
      rw [Rat.divInt_eq_div, Rat.divInt_eq_div, Rat.intCast_add, Rat.intCast_mul, Rat.intCast_mul, Rat.intCast_mul, Rat.intCast_mul]
      generalize ((fv x n).num : Rat) = a at *
      generalize (((fv x n).den : Int) : Rat) = b at *
      rw [e4]
      grind
    · have a1 := hN.mul zq
      have a2 := ((hu n).mul h1.num).mul hD
      exact ((a1.mono (show 1533 + 33 * n + 32 ≤ 1565 + 33 * n by omega)).add (a2.mono (by omega))).mono (by omega)
    · exact (hD.mul zq).mono (by omega)
theorem dotX_zq {u : Vc} {x : List Rat} (hu : ∀ j, Z 1500 (u j)) (hx : ∀ c, Zq 32 (fv x c)) {n : Nat} (hn : n ≤ 32) : Zq 2600 (dotX u x n) := by
  obtain ⟨N, D, e, h0, hN, hD⟩ := dotX_z hu hx n
  rw [e]
  exact Zq_over (hN.mono (by omega)) (hD.mono (by omega)) (by omega) h0
section
variable {n i bs : Nat} {cx : Cx} {Q : Exit → PS → Prop} {s : PS} {m : List (List (Bool × List Nat))} {r : List (Bool × List Nat)} {x : List Rat} {k4 : PV}

def MK (m : List (List (Bool × List Nat))) (r : List (Bool × List Nat)) (n : Nat) (x : List Rat) (k4 : PV) (t : PS) : Prop :=
  t.sl 0 = .sl m.length (m.map SW) ∧ t.sl 1 = .val (.int .i64 n) ∧ t.sl 2 = .sl m.length (SWc r) ∧ t.sl 7 = .sl n (FLc x) ∧ t.sl 8 = .val (.bool true) ∧ t.sl 12 = k4
set_option maxHeartbeats 8000000 in
theorem makes2 (hc : cx.n = 188) (ht : cx.tb = [(12, [(0, []), (1, []), (2, []), (3, []), (4, []), (6, []), (7, []), (8, []), (9, []), (5, [0, 6, 7, 8, 9]), (10, [0, 1, 2, 3, 4]), (11, [0]), (12, [0]), (13, []), (14, [])]), (1000012, [(0, []), (0, []), (0, []), (6, []), (14, []), (30, []), (0, []), (0, []), (192, []), (448, []), (960, []), (2046, []), (4094, []), (8191, []), (16383, [])]), (28, [(0, []), (1, []), (2, []), (3, []), (4, []), (5, []), (6, []), (7, []), (9, []), (10, []), (11, []), (12, []), (8, [0, 9, 10, 11, 12]), (13, [0]), (14, []), (15, [])]), (1000028, [(0, []), (0, []), (0, []), (6, []), (14, []), (0, []), (62, []), (126, []), (254, []), (0, []), (0, []), (1536, []), (3584, []), (8190, []), (16383, []), (32767, [])]), (29, [(0, []), (1, []), (2, []), (3, []), (4, []), (5, [0]), (6, []), (7, [])])]) (hn : n ≤ 32) (hi : i < m.length) (hm : Mx m 1500) (hl : (m.getD i []).length = n) (hxl : x.length = n) (hx : ∀ c, Zq 32 (fv x c))
    (hI : MK m r n x k4 s ∧ s.sl 16 = .val (.int .i64 i) ∧ s.sl 17 = .ptr bs 0 ∧ s.sl 18 = .val (.int .i64 (0 : Nat)) ∧ bs < s.nx ∧ s.H bs = some (fc 0))
    (hQ : ∀ t : PS, MK m r n x k4 t ∧ t.sl 16 = .val (.int .i64 i) ∧ t.sl 17 = .ptr bs 0 ∧ bs < t.nx ∧ t.H bs = some (fc (dotX (vc (vals (m.getD i []))) x n)) → Q (.exit 4) t) : LW Try.prog cx (loopN Try.f10 2) Q s := by
  refine LW.ofLoop rfl ?_
  refine LW.loopW hc ht (by kernel_rfl) (fun t => MK m r n x k4 t ∧ t.sl 16 = .val (.int .i64 i) ∧ t.sl 17 = .ptr bs 0 ∧ bs < t.nx ∧ ∃ c : Nat, c ≤ n ∧ t.sl 18 = .val (.int .i64 c) ∧ t.H bs = some (fc (dotX (vc (vals (m.getD i []))) x c)))
    (fun t => match t.sl 18 with | .val (.int _ k) => n - k.toNat | _ => 0) ?_ ?_
  · obtain ⟨g, g16, g17, g18, gb, gH⟩ := hI
    exact ⟨g, g16, g17, gb, 0, Nat.zero_le _, g18, gH⟩
  rintro t ⟨⟨h0, h1, h2, h7, h8, h12⟩, h16, h17, hb, c, hc', h18, hH⟩
  by_cases hce : c = n
  · subst hce
    simp -implicitDefEqProofs (disch := omega) only [go_sem, ht, h0, h1, h2, h7, h8, h12, h16, h17, h18]
    exact hQ _ ⟨⟨by simp -implicitDefEqProofs (disch := omega) only [go_sem, ht, h0], by simp -implicitDefEqProofs (disch := omega) only [go_sem, ht, h1], by simp -implicitDefEqProofs (disch := omega) only [go_sem, ht, h2], by simp -implicitDefEqProofs (disch := omega) only [go_sem, ht, h7], by simp -implicitDefEqProofs (disch := omega) only [go_sem, ht, h8], by simp -implicitDefEqProofs (disch := omega) only [go_sem, ht, h12]⟩, by simp -implicitDefEqProofs (disch := omega) only [go_sem, ht, h16], by simp -implicitDefEqProofs (disch := omega) only [go_sem, ht, h17], by simp -implicitDefEqProofs (disch := omega) only [go_sem, ht]; exact hb, hH⟩
  · have hlt : c < n := by omega
    have hgi := get_SM' (m := m) hi
    rw [SW_def, hl] at hgi
    have hmem := getD_mem (d := []) hi
    have hR := hm.rn hmem
    have hat := SWc_at (l := m.getD i []) (i := c) (by omega)
    have hw := hR.wn (show c < (m.getD i []).length by omega)
    have hf := rfromW hw
    have hu : ∀ j, Z 1500 (vc (vals (m.getD i [])) j) := fun j => vc_z hR.z j
    have hatx := FLc_at (qs := x) [] (c := c) (by omega)
    rw [List.append_nil, List.append_nil] at hatx
    have hZa : Zq 1501 ((vc (vals (m.getD i [])) c : Rat)) := Zq_int ((hu c).mono (by omega)) (by omega)
    have hZx : Zq 1501 (fv x c) := (hx c).mono (by omega)
    have hmu := rmulW (Fn.C hZa (by omega) (by omega)) (Fn.C hZx (by omega) (by omega)) (by omega)
    have hZm : Zq 3002 ((vc (vals (m.getD i [])) c : Rat) * fv x c) := Zq.mul (Fn.C hZa (by omega) (by omega)) (Fn.C hZx (by omega) (by omega))
    have hZs : Zq 3002 (dotX (vc (vals (m.getD i []))) x c) := (dotX_zq hu hx (by omega)).mono (by omega)
    have had := raddW (Fn.C hZs (by omega) (by omega)) (Fn.C hZm (by omega) (by omega)) (by omega)
    have hnx : dotX (vc (vals (m.getD i []))) x c + (vc (vals (m.getD i [])) c : Rat) * fv x c = dotX (vc (vals (m.getD i []))) x (c + 1) := rfl
    rw [hnx] at had
    have hxln : (FLc x).length = n * 3 := by rw [FLc_len, hxl]
    have hsl : (SWc (m.getD i [])).length = n * 2 := by rw [SWc_len, hl]; omega
    have hmsl : (m.map SW).length = m.length := by simp
    obtain ⟨d1, ed1⟩ : ∃ d, dotX (vc (vals (m.getD i []))) x (c + 1) = d := ⟨_, rfl⟩
    rw [ed1] at had
    clear hnx hZs hZm hZx hZa hu hw hR hmem hm hx
    generalize dotX (vc (vals (m.getD i []))) x c = d0 at *
    generalize (vc (vals (m.getD i [])) c : Rat) * fv x c = q1 at *
    generalize (vc (vals (m.getD i [])) c : Rat) = q2 at *
    generalize fv x c = q3 at *
    unfold fc at hH
    simp -implicitDefEqProofs (disch := omega) only [go_sem, ht, h0, h1, h2, h7, h8, h12, h16, h17, h18, hH, hgi, hat, hatx]
    ((refine pCall_vw (by refine ⟨⟨?_, ?_⟩, ?_, ?_⟩; rotate_left 2; (first | (right; rintro r rfl; rfl) | left); all_goals ((try simp -implicitDefEqProofs (disch := omega) only [h0, h1, h2, h7, h8, h12, h16, h17, h18, hH, hgi, hat, hatx, hxln, hsl, go_sem, ht]) <;> rfl)) (hf) ?_; rintro _ nx_1 - rfl hnx_1; simp -implicitDefEqProofs (disch := omega) only [h0, h1, h2, h7, h8, h12, h16, h17, h18, hH, hgi, hat, hatx, hxln, hsl, go_sem, ht]); (refine pCall_vw (by refine ⟨⟨?_, ?_⟩, ?_, ?_⟩; rotate_left 2; (first | (right; rintro r rfl; rfl) | left); all_goals ((try simp -implicitDefEqProofs (disch := omega) only [h0, h1, h2, h7, h8, h12, h16, h17, h18, hH, hgi, hat, hatx, hxln, hsl, go_sem, ht]) <;> rfl)) (hmu) ?_; rintro _ nx_2 - rfl hnx_2; simp -implicitDefEqProofs (disch := omega) only [h0, h1, h2, h7, h8, h12, h16, h17, h18, hH, hgi, hat, hatx, hxln, hsl, go_sem, ht]); (refine pCall_vw (by refine ⟨⟨?_, ?_⟩, ?_, ?_⟩; rotate_left 2; (first | (right; rintro r rfl; rfl) | left); all_goals ((try simp -implicitDefEqProofs (disch := omega) only [h0, h1, h2, h7, h8, h12, h16, h17, h18, hH, hgi, hat, hatx, hxln, hsl, go_sem, ht]) <;> rfl)) (had) ?_; rintro _ nx_3 - rfl hnx_3; simp -implicitDefEqProofs (disch := omega) only [h0, h1, h2, h7, h8, h12, h16, h17, h18, hH, hgi, hat, hatx, hxln, hsl, go_sem, ht]))
    exact ⟨⟨⟨by simp -implicitDefEqProofs (disch := omega) only [go_sem, ht, h0], by simp -implicitDefEqProofs (disch := omega) only [go_sem, ht, h1], by simp -implicitDefEqProofs (disch := omega) only [go_sem, ht, h2], by simp -implicitDefEqProofs (disch := omega) only [go_sem, ht, h7], by simp -implicitDefEqProofs (disch := omega) only [go_sem, ht, h8], by simp -implicitDefEqProofs (disch := omega) only [go_sem, ht, h12]⟩, by omega, c + 1, by omega, rfl, by rw [ed1]; rfl⟩, by omega⟩
set_option maxHeartbeats 8000000 in
theorem makes1 (hc : cx.n = 188) (ht : cx.tb = [(12, [(0, []), (1, []), (2, []), (3, []), (4, []), (6, []), (7, []), (8, []), (9, []), (5, [0, 6, 7, 8, 9]), (10, [0, 1, 2, 3, 4]), (11, [0]), (12, [0]), (13, []), (14, [])]), (1000012, [(0, []), (0, []), (0, []), (6, []), (14, []), (30, []), (0, []), (0, []), (192, []), (448, []), (960, []), (2046, []), (4094, []), (8191, []), (16383, [])]), (28, [(0, []), (1, []), (2, []), (3, []), (4, []), (5, []), (6, []), (7, []), (9, []), (10, []), (11, []), (12, []), (8, [0, 9, 10, 11, 12]), (13, [0]), (14, []), (15, [])]), (1000028, [(0, []), (0, []), (0, []), (6, []), (14, []), (0, []), (62, []), (126, []), (254, []), (0, []), (0, []), (1536, []), (3584, []), (8190, []), (16383, []), (32767, [])]), (29, [(0, []), (1, []), (2, []), (3, []), (4, []), (5, [0]), (6, []), (7, [])])]) (hn : n ≤ 32) (hm : Mx m 1500) (hr : Rn r 1500) (hrl : r.length = m.length) (hl : ∀ l ∈ m, l.length = n) (hml : m.length ≤ 64) (hxl : x.length = n) (hx : ∀ c, Zq 32 (fv x c))
    (hsum : ∀ i, i < m.length → dotX (vc (vals (m.getD i []))) x n = (vc (vals r) i : Rat))
    (hI : MK m r n x k4 s ∧ s.sl 16 = .val (.int .i64 (0 : Nat)))
    (hQ : ∀ t : PS, MK m r n x k4 t → Q (.exit 2) t) : LW Try.prog cx (loopN Try.f10 1) Q s := by
  refine LW.ofLoop rfl ?_
  refine LW.loopW hc ht (by kernel_rfl) (fun t => MK m r n x k4 t ∧ ∃ i : Nat, i ≤ m.length ∧ t.sl 16 = .val (.int .i64 i))
    (fun t => match t.sl 16 with | .val (.int _ k) => m.length - k.toNat | _ => 0) ?_ ?_
  · obtain ⟨g, g16⟩ := hI
    exact ⟨g, 0, Nat.zero_le _, g16⟩
  rintro t ⟨⟨h0, h1, h2, h7, h8, h12⟩, i, hi, h16⟩
  have hml1 : (m.map SW).length = m.length := by simp
  by_cases hie : i = m.length
  · subst hie
    simp -implicitDefEqProofs (disch := omega) only [go_sem, ht, h0, h1, h2, h7, h8, h12, h16]
    exact hQ _ ⟨by simp -implicitDefEqProofs (disch := omega) only [go_sem, ht, h0], by simp -implicitDefEqProofs (disch := omega) only [go_sem, ht, h1], by simp -implicitDefEqProofs (disch := omega) only [go_sem, ht, h2], by simp -implicitDefEqProofs (disch := omega) only [go_sem, ht, h7], by simp -implicitDefEqProofs (disch := omega) only [go_sem, ht, h8], by simp -implicitDefEqProofs (disch := omega) only [go_sem, ht, h12]⟩
  · have hlt : i < m.length := by omega
    have hmem := getD_mem (d := []) hlt
    have hln := hl _ hmem
    have hs := hsum i hlt
    have hf0 := rfrom0
    rw [FC_def] at hf0
    have hat := SWc_at (l := r) (i := i) (by omega)
    have hw := hr.wn (show i < r.length by omega)
    have hf := rfromW hw
    have hzr : Z 1500 (vc (vals r) i) := vc_z hr.z i
    have hZr : Zq 2600 ((vc (vals r) i : Rat)) := Zq_int (hzr.mono (by omega)) (by omega)
    have hcm := rcmpW (Fn.C hZr (by omega) (by omega)) (Fn.C hZr (by omega) (by omega)) (by omega)
    rw [cR_eq rfl] at hcm
    have hrsl : (SWc r).length = m.length * 2 := by rw [SWc_len, hrl]; omega
    clear hZr hzr hsum hw
    simp -implicitDefEqProofs (disch := omega) only [go_sem, ht, h0, h1, h2, h7, h8, h12, h16]
    ((refine pCall_vw (by refine ⟨⟨?_, ?_⟩, ?_, ?_⟩; rotate_left 2; (first | (right; rintro r rfl; rfl) | left); all_goals ((try simp -implicitDefEqProofs (disch := omega) only [h0, h1, h2, h7, h8, h12, h16, go_sem, ht]) <;> rfl)) (hf0) ?_; rintro _ nx_4 - rfl hnx_4; simp -implicitDefEqProofs (disch := omega) only [h0, h1, h2, h7, h8, h12, h16, go_sem, ht]))
    refine makes2 (n := n) (i := i) (bs := nx_4) (m := m) (r := r) (x := x) (k4 := k4) hc ht hn hlt hm hln hxl hx ⟨⟨by simp -implicitDefEqProofs (disch := omega) only [go_sem, ht, h0], by simp -implicitDefEqProofs (disch := omega) only [go_sem, ht, h1], by simp -implicitDefEqProofs (disch := omega) only [go_sem, ht, h2], by simp -implicitDefEqProofs (disch := omega) only [go_sem, ht, h7], by simp -implicitDefEqProofs (disch := omega) only [go_sem, ht, h8], by simp -implicitDefEqProofs (disch := omega) only [go_sem, ht, h12]⟩, by simp -implicitDefEqProofs (disch := omega) only [go_sem, ht, h16], by simp -implicitDefEqProofs (disch := omega) only [go_sem, ht], by simp -implicitDefEqProofs (disch := omega) only [go_sem, ht] <;> rfl, by first | omega | (simp -implicitDefEqProofs (disch := omega) only [go_sem, ht]; done) | (simp -implicitDefEqProofs (disch := omega) only [go_sem, ht]; omega), by simp -implicitDefEqProofs (disch := omega) only [go_sem, ht, upd_self] <;> rfl⟩ ?_
    clear h0 h1 h2 h7 h8 h12 h16
    rintro u ⟨⟨h0, h1, h2, h7, h8, h12⟩, h16, h17, hb, hH⟩
    rw [hs] at hH
    unfold fc at hH
    generalize (vc (vals r) i : Rat) = q at *
    simp -implicitDefEqProofs (disch := omega) only [go_sem, ht, h0, h1, h2, h7, h8, h12, h16, h17, hH, hat]
    ((refine pCall_vw (by refine ⟨⟨?_, ?_⟩, ?_, ?_⟩; rotate_left 2; (first | (right; rintro r rfl; rfl) | left); all_goals ((try simp -implicitDefEqProofs (disch := omega) only [h0, h1, h2, h7, h8, h12, h16, h17, hH, hat, hrsl, go_sem, ht]) <;> rfl)) (hf) ?_; rintro _ nx_5 - rfl hnx_5; simp -implicitDefEqProofs (disch := omega) only [h0, h1, h2, h7, h8, h12, h16, h17, hH, hat, hrsl, go_sem, ht]); (refine pCall_vw (by refine ⟨⟨?_, ?_⟩, ?_, ?_⟩; rotate_left 2; (first | (right; rintro r rfl; rfl) | left); all_goals ((try simp -implicitDefEqProofs (disch := omega) only [h0, h1, h2, h7, h8, h12, h16, h17, hH, hat, hrsl, go_sem, ht]) <;> rfl)) (hcm) ?_; rintro _ nx_6 - rfl hnx_6; simp -implicitDefEqProofs (disch := omega) only [h0, h1, h2, h7, h8, h12, h16, h17, hH, hat, hrsl, go_sem, ht]))
    exact ⟨⟨⟨by simp -implicitDefEqProofs (disch := omega) only [go_sem, ht, h0], by simp -implicitDefEqProofs (disch := omega) only [go_sem, ht, h1], by simp -implicitDefEqProofs (disch := omega) only [go_sem, ht, h2], by simp -implicitDefEqProofs (disch := omega) only [go_sem, ht, h7], by simp -implicitDefEqProofs (disch := omega) only [go_sem, ht, h8], by simp -implicitDefEqProofs (disch := omega) only [go_sem, ht, h12]⟩, i + 1, by omega, rfl⟩, by omega⟩
set_option maxHeartbeats 8000000 in
theorem makes3 {N kk : Nat} (hc : cx.n = 188) (ht : cx.tb = [(12, [(0, []), (1, []), (2, []), (3, []), (4, []), (6, []), (7, []), (8, []), (9, []), (5, [0, 6, 7, 8, 9]), (10, [0, 1, 2, 3, 4]), (11, [0]), (12, [0]), (13, []), (14, [])]), (1000012, [(0, []), (0, []), (0, []), (6, []), (14, []), (30, []), (0, []), (0, []), (192, []), (448, []), (960, []), (2046, []), (4094, []), (8191, []), (16383, [])]), (28, [(0, []), (1, []), (2, []), (3, []), (4, []), (5, []), (6, []), (7, []), (9, []), (10, []), (11, []), (12, []), (8, [0, 9, 10, 11, 12]), (13, [0]), (14, []), (15, [])]), (1000028, [(0, []), (0, []), (0, []), (6, []), (14, []), (0, []), (62, []), (126, []), (254, []), (0, []), (0, []), (1536, []), (3584, []), (8190, []), (16383, []), (32767, [])]), (29, [(0, []), (1, []), (2, []), (3, []), (4, []), (5, [0]), (6, []), (7, [])])]) (hn : N ≤ 32) (hxl : x.length = N) (hx : ∀ c, Zq 32 (fv x c))
    (hI : s.sl 7 = .sl N (FLc x) ∧ s.sl 12 = .val (.int .i64 kk) ∧ s.sl 19 = .val (.int .i64 (0 : Nat)) ∧ s.sl 20 = .val (.int .i64 (0 : Nat)))
    (hQ : ∀ t : PS, t.sl 12 = .val (.int .i64 kk) → t.sl 19 = .val (.int .i64 (cntQ x N : Nat)) → Q (.exit 6) t) : LW Try.prog cx (loopN Try.f10 3) Q s := by
  refine LW.ofLoop rfl ?_
  refine LW.loopW hc ht (by kernel_rfl) (fun t => t.sl 7 = .sl N (FLc x) ∧ t.sl 12 = .val (.int .i64 kk) ∧ ∃ c : Nat, c ≤ N ∧ t.sl 20 = .val (.int .i64 c) ∧ t.sl 19 = .val (.int .i64 (cntQ x c : Nat)))
    (fun t => match t.sl 20 with | .val (.int _ k) => N - k.toNat | _ => 0) ?_ ?_
  · obtain ⟨g7, g12, g19, g20⟩ := hI
    exact ⟨g7, g12, 0, Nat.zero_le _, g20, g19⟩
  rintro t ⟨h7, h12, c, hcN, h20, h19⟩
  by_cases hce : c = N
  · subst hce
    simp -implicitDefEqProofs (disch := omega) only [go_sem, ht, h7, h12, h20, h19]
    exact hQ _ (by simp -implicitDefEqProofs (disch := omega) only [go_sem, ht, h12]) (by simp -implicitDefEqProofs (disch := omega) only [go_sem, ht, h19])
  · have hlt : c < N := by omega
    have hsg := rsignW (Fn.C (hx c) (by omega) (by omega))
    have hat := FLc_at (qs := x) [] (c := c) (by omega)
    rw [List.append_nil, List.append_nil] at hat
    have hln : (FLc x).length = N * 3 := by rw [FLc_len, hxl]
    have hcb : ∀ c, cntQ x c ≤ c := fun c => by
      induction c with
      | zero => simp [cntQ]
      | succ c ih => rw [cntQ]; split <;> omega
    have hcc := hcb c
    by_cases h0 : (fv x c).num = 0
    · have hcn : cntQ x (c + 1) = cntQ x c := by rw [cntQ, if_pos h0, Nat.add_zero]
      rw [h0, cZ_eq rfl] at hsg
      obtain ⟨cq, ecq⟩ : ∃ cq, cntQ x (c + 1) = cq := ⟨_, rfl⟩
      rw [h0] at hat
      generalize (fv x c).den = dn at *
      simp -implicitDefEqProofs (disch := omega) only [go_sem, ht, h7, h12, h20, h19, hat]
      ((refine pCall_vw (by refine ⟨⟨?_, ?_⟩, ?_, ?_⟩; rotate_left 2; (first | (right; rintro r rfl; rfl) | left); all_goals ((try simp -implicitDefEqProofs (disch := omega) only [h7, h12, h20, h19, hat, hln, go_sem, ht]) <;> rfl)) (hsg) ?_; rintro _ nx_7 - rfl hnx_7; simp -implicitDefEqProofs (disch := omega) only [h7, h12, h20, h19, hat, hln, go_sem, ht]))
      exact ⟨⟨c + 1, by omega, rfl, by rw [hcn]⟩, by omega⟩
    · have hcn : cntQ x (c + 1) = cntQ x c + 1 := by rw [cntQ, if_neg h0]
      have hs0 : cZ (fv x c).num 0 ≠ 0 := by unfold cZ; split <;> (try split) <;> omega
      generalize cZ (fv x c).num 0 = sx at *
      generalize fv x c = q at *
      simp -implicitDefEqProofs (disch := omega) only [go_sem, ht, h7, h12, h20, h19, hat]
      ((refine pCall_vw (by refine ⟨⟨?_, ?_⟩, ?_, ?_⟩; rotate_left 2; (first | (right; rintro r rfl; rfl) | left); all_goals ((try simp -implicitDefEqProofs (disch := omega) only [h7, h12, h20, h19, hat, hln, hs0, go_sem, ht]) <;> rfl)) (hsg) ?_; rintro _ nx_8 - rfl hnx_8; simp -implicitDefEqProofs (disch := omega) only [h7, h12, h20, h19, hat, hln, hs0, go_sem, ht]))
      exact ⟨⟨c + 1, by omega, rfl, by rw [hcn]⟩, by omega⟩
set_option maxHeartbeats 8000000 in
theorem makes0 {v7 v8 v9 : PV} (hc : cx.n = 188) (ht : cx.tb = [(12, [(0, []), (1, []), (2, []), (3, []), (4, []), (6, []), (7, []), (8, []), (9, []), (5, [0, 6, 7, 8, 9]), (10, [0, 1, 2, 3, 4]), (11, [0]), (12, [0]), (13, []), (14, [])]), (1000012, [(0, []), (0, []), (0, []), (6, []), (14, []), (30, []), (0, []), (0, []), (192, []), (448, []), (960, []), (2046, []), (4094, []), (8191, []), (16383, [])]), (28, [(0, []), (1, []), (2, []), (3, []), (4, []), (5, []), (6, []), (7, []), (9, []), (10, []), (11, []), (12, []), (8, [0, 9, 10, 11, 12]), (13, [0]), (14, []), (15, [])]), (1000028, [(0, []), (0, []), (0, []), (6, []), (14, []), (0, []), (62, []), (126, []), (254, []), (0, []), (0, []), (1536, []), (3584, []), (8190, []), (16383, []), (32767, [])]), (29, [(0, []), (1, []), (2, []), (3, []), (4, []), (5, [0]), (6, []), (7, [])])]) (hn : n ≤ 32) (hl : ∀ l ∈ m, l.length = n) (hrl : r.length = m.length) (hml : m.length ≤ 64)
    (hI : s.sl 0 = .sl m.length (m.map SW) ∧ s.sl 1 = .val (.int .i64 n) ∧ s.sl 2 = .sl m.length (SWc r) ∧ s.sl 7 = v7 ∧ s.sl 8 = v8 ∧ s.sl 9 = v9 ∧ s.sl 11 = .val (.int .i64 (0 : Nat)) ∧ (∃ b, s.sl 10 = .ref b 0 0 0 1 ∧ s.H b = some [] ∧ b < s.nx))
    (hQ : ∀ (t : PS) (id cap : Nat) (rest : List Value), t.sl 0 = .sl m.length (m.map SW) → t.sl 1 = .val (.int .i64 n) → t.sl 2 = .sl m.length (SWc r) → t.sl 7 = v7 → t.sl 8 = v8 → t.sl 9 = v9 → t.sl 10 = .ref id 0 m.length cap 1 → t.H id = some ((augL m r).map SW ++ rest.map .val) → id < t.nx → Q (.exit 0) t) : LW Try.prog cx (loopN Try.f10 0) Q s := by
  refine LW.ofLoop rfl ?_
  refine LW.loopG hc ht (by kernel_rfl) (fun t => t.sl 0 = .sl m.length (m.map SW) ∧ t.sl 1 = .val (.int .i64 n) ∧ t.sl 2 = .sl m.length (SWc r) ∧ t.sl 7 = v7 ∧ t.sl 8 = v8 ∧ t.sl 9 = v9 ∧ ∃ i : Nat, i ≤ m.length ∧ t.sl 11 = .val (.int .i64 i) ∧ ∃ (id cap : Nat) (rest : List Value) (D : Nat → Bool) (cs : List PV), t.sl 10 = .ref id 0 i cap 1 ∧ t.H id = some (cs ++ rest.map .val) ∧ i + rest.length = cap ∧ id < t.nx ∧ D id = false ∧ cs.mapM (Ytfjdfnlkobeehaa.frz D t.H 1) = some (((augL m r).take i).map SW))
    (fun t => match t.sl 11 with | .val (.int _ k) => m.length - k.toNat | _ => 0) ?_ ?_
  · obtain ⟨g0, g1, g2, g7, g8, g9, g11, b, g10, gH, gb⟩ := hI
    exact ⟨g0, g1, g2, g7, g8, g9, 0, Nat.zero_le _, g11, b, 0, [], fun _ => false, [], g10, by rw [gH]; rfl, rfl, gb, rfl, rfl⟩
  rintro t ⟨h0, h1, h2, h7, h8, h9, i, hi, h11, id, cap, rest, D, cs, h10, hH, hcap, hid, hD, hfz⟩
  refine ⟨_, Gh.frzH (cs := cs ++ rest.map .val) (qs := ((augL m r).take i).map SW ++ rest.map .val) D 1 hH hD (mapM_app hfz (frzL_flat D t.H 1 (flatL_val rest))), ?_⟩
  have hal := augL_len hrl
  by_cases hie : i = m.length
  · subst hie
    rw [List.take_of_length_le (by omega)]
    simp -implicitDefEqProofs (disch := omega) only [go_sem, ht, h0, h1, h2, h7, h8, h9, h10, h11]
    exact hQ _ id cap rest (by simp -implicitDefEqProofs (disch := omega) only [go_sem, ht, h0]) (by simp -implicitDefEqProofs (disch := omega) only [go_sem, ht, h1]) (by simp -implicitDefEqProofs (disch := omega) only [go_sem, ht, h2]) (by simp -implicitDefEqProofs (disch := omega) only [go_sem, ht, h7]) (by simp -implicitDefEqProofs (disch := omega) only [go_sem, ht, h8]) (by simp -implicitDefEqProofs (disch := omega) only [go_sem, ht, h9]) (by simp -implicitDefEqProofs (disch := omega) only [go_sem, ht, h10]) (by simp -implicitDefEqProofs (disch := omega) only [go_sem, ht, upd_self]) (by simp -implicitDefEqProofs (disch := omega) only [go_sem, ht]; exact hid)
  · have hlt : i < m.length := by omega
    have hgi := get_SM' hlt
    have hln := hl _ (getD_mem (d := []) hlt)
    have hag := augL_get hrl hlt
    have hat := SWc_at (l := r) (i := i) (by omega)
    have hst := getD_take (l := augL m r) (i := i) (d := []) (by omega)
    rw [hag] at hst
    have hst2 : ((augL m r).take (i + 1)).map SW = ((augL m r).take i).map SW ++ [SW (m.getD i [] ++ [r[i]])] := by rw [hst, List.map_append]; rfl
    have hAl : (((augL m r).take i).map SW).length = i := by rw [List.length_map, List.length_take, hal]; omega
    have hfw := fun D H => frzL_flat D H 1 (SM_flat ((augL m r).take i))
    have hmsl : (m.map SW).length = m.length := by simp
    have hrsl : (SWc r).length = m.length * 2 := by rw [SWc_len, hrl]; omega
    rw [SW_def, hln] at hgi
    have hll := SWc_len (m.getD i [])
    have hp := SWc_app (m.getD i []) [r[i]]
    clear hag hst
    obtain ⟨aw, eaw⟩ : ∃ aw, ((augL m r).take i).map SW = aw := ⟨_, rfl⟩
    rw [eaw] at hst2 hAl hfw
    rw [eaw]
    generalize m.getD i [] = z at *
    simp -implicitDefEqProofs (disch := omega) only [go_sem, ht, h0, h1, h2, h7, h8, h9, h10, h11, hgi, hat]
    have hq1 : n = 0 ∨ 0 < n := by omega
    refine append_nilS (m := n) (sz := 2) (ys := SWc z) T27_elem rfl T30_size T30_bytes T30_zero rfl (by simp -implicitDefEqProofs (disch := omega) only [go_sem, ht, srcP_sl]; rw [if_pos (by omega)]) (one_SWc z) (by omega) (fun h00 => ?_) (fun capr restr hcapr hpos => ?_)
    · have hz0 : z = [] := List.eq_nil_of_length_eq_zero (by omega)
      subst hz0
      simp -implicitDefEqProofs (disch := omega) only [go_sem, ht, h0, h1, h2, h7, h8, h9, h10, h11, hgi, hat]
      refine append_nilS (m := 1) (sz := 2) (ys := [.val (.bool r[i].1), SU r[i].2]) T27_elem rfl T30_size T30_bytes T30_zero rfl (by simp -implicitDefEqProofs (disch := omega) only [go_sem, ht, srcP_ref, upd_self] <;> rfl) (by rfl) (by omega) (fun h00 => by omega) (fun capr restr hcapr hpos => ?_)
      simp -implicitDefEqProofs (disch := omega) only [go_sem, ht, h0, h1, h2, h7, h8, h9, h10, h11, hgi, hat]
      have hn1 : id ≠ t.nx := by omega
      have hn2 : id ≠ t.nx + 1 := by omega
      have hn3 : id ≠ t.nx + 1 + 1 := by omega
      (refine append_ownX (by refine ⟨?_, ?_, ?_, ?_, ?_, ?_, ?_, ?_⟩ <;> (simp -implicitDefEqProofs (disch := omega) only [srcP_ref, srcP_sl, srcP_nil, Option.isSome_some, upd_self, hn1, hn2, hn3, go_sem, ht] <;> rfl)) (by first | omega | (simp <;> omega)) (by first | assumption | (simp <;> omega)) (by first | rfl | simp) (by first | omega | (simp <;> omega)) ?_; intro id1 cap1 rest1 H1 nx1 hH1 hcap1 hid1 hnx1 hfr1 hfs1; (try simp only [put_nx, withH_nx, put_H, withH_H] at hid1 hnx1 hfr1 hfs1); (try simp only [app_U, ← List.map_append] at hH1))
      simp -implicitDefEqProofs (disch := omega) only [go_sem, ht, h0, h1, h2, h7, h8, h9, h10, h11]
      have hHr : H1 (t.nx + 1) = some (SWc ([] ++ [r[i]]) ++ restr.map .val) := by rw [hfr1 _ (by omega) (by omega)]; simp -implicitDefEqProofs (disch := omega) only [go_sem, ht, upd_self]; rfl
      have hzl : (SWc ([] ++ [r[i]])).length = (n + 1) * 2 := by rw [SWc_len]; simp only [List.length_append, List.length_singleton, hln]; omega
      refine ⟨⟨i + 1, by omega, rfl, id1, cap1, rest1, fun x => decide (x = t.nx + 1), _, rfl, hH1, by omega, by omega, by simp; omega, ?_⟩, by omega⟩
      rw [hst2]
      refine mapM_app (hfw _ _) ?_
      rw [mapMo_cons, frz_ref, if_pos (by simp), hHr, Option.bind_some, if_pos (by have h2 : (SWc [r[i]]).length = 2 := rfl; simp; omega)]
      have e1 : List.take (1 * 2) (List.drop 0 (SWc ([] ++ [r[i]]) ++ restr.map PV.val)) = SWc ([] ++ [r[i]]) := by
        rw [List.drop_zero, List.take_left' (by rw [hzl]; omega)]
      rw [e1, frzL_flat _ _ 0 (SWc_flat _)]
      simp [SW_def, mapMo_nil]
    · simp -implicitDefEqProofs (disch := omega) only [go_sem, ht, h0, h1, h2, h7, h8, h9, h10, h11, hgi, hat]
      refine append_ownS (cs := SWc z) (rest := restr) (ys := [.val (.bool r[i].1), SU r[i].2]) (m := 1) (sz := 2) T27_elem rfl T30_size T30_bytes T30_zero rfl (by simp -implicitDefEqProofs (disch := omega) only [go_sem, ht, srcP_ref, upd_self] <;> rfl) (by rfl) (by simp -implicitDefEqProofs (disch := omega) only [go_sem, ht, upd_self]) (by omega) (by omega) (by rfl) ⟨by omega, by omega⟩ ?_
      intro id2 cap2 rest2 H2 nx2 hH2 hcap2 hid2 hnx2 hfr2 hfs2
      simp only [put_nx, withH_nx, put_H, withH_H] at hid2 hnx2 hfr2 hfs2
      simp -implicitDefEqProofs (disch := omega) only [go_sem, ht, h0, h1, h2, h7, h8, h9, h10, h11, hgi, hat]
      have hn1 : id ≠ t.nx := by omega
      have hX : H2 id = some (aw ++ rest.map .val) := by rw [hfr2 id (by omega) (by omega), upd_ne _ _ (by omega), upd_ne _ _ (by omega), upd_self]
      have hn2 : id ≠ nx2 := by omega
      (refine append_ownX (by refine ⟨?_, ?_, ?_, ?_, ?_, ?_, ?_, ?_⟩ <;> (simp -implicitDefEqProofs (disch := omega) only [srcP_ref, srcP_sl, srcP_nil, Option.isSome_some, hX, hn2, go_sem, ht] <;> rfl)) (by first | omega | (simp <;> omega)) (by first | assumption | (simp <;> omega)) (by first | rfl | simp) (by first | omega | (simp <;> omega)) ?_; intro id1 cap1 rest1 H1 nx1 hH1 hcap1 hid1 hnx1 hfr1 hfs1; (try simp only [put_nx, withH_nx, put_H, withH_H] at hid1 hnx1 hfr1 hfs1); (try simp only [app_U, ← List.map_append] at hH1))
      simp -implicitDefEqProofs (disch := omega) only [go_sem, ht, h0, h1, h2, h7, h8, h9, h10, h11]
      have hHr : H1 id2 = some (SWc (z ++ [r[i]]) ++ rest2.map .val) := by rw [hfr1 _ (by omega) (by omega), upd_ne _ _ (by omega), hH2, hp]; rfl
      have hzl : (SWc (z ++ [r[i]])).length = (n + 1) * 2 := by rw [SWc_len]; simp only [List.length_append, List.length_singleton, hln]; omega
      refine ⟨⟨i + 1, by omega, rfl, id1, cap1, rest1, fun x => decide (x = id2), _, rfl, hH1, by omega, by omega, by simp; omega, ?_⟩, by omega⟩
      rw [hst2]
      refine mapM_app (hfw _ _) ?_
      rw [mapMo_cons, frz_ref, if_pos (by simp), hHr, Option.bind_some, if_pos (by simp [hzl])]
      have e1 : List.take ((n + 1) * 2) (List.drop 0 (SWc (z ++ [r[i]]) ++ rest2.map PV.val)) = SWc (z ++ [r[i]]) := by
        rw [List.drop_zero, List.take_left' (by rw [hzl])]
      rw [e1, frzL_flat _ _ 0 (SWc_flat _)]
      simp [SW_def, mapMo_nil, hln]
end
end Go.Proofs.Ytfjdfnlkobeehaa
end

section
set_option maxRecDepth 100000
set_option linter.unusedVariables false
set_option linter.unusedSimpArgs false
namespace Go.Proofs.Ytfjdfnlkobeehaa
section
variable {n kk : Nat} {m : List (List (Bool × List Nat))} {v : List (Bool × List Nat)} {x : List Rat} {cx : Cx} {Q : Exit → PS → Prop} {s : PS}
set_option maxHeartbeats 8000000 in
theorem makes1f {k7 k12 : PV} (hc : cx.n = 188) (ht : cx.tb = [(12, [(0, []), (1, []), (2, []), (3, []), (4, []), (6, []), (7, []), (8, []), (9, []), (5, [0, 6, 7, 8, 9]), (10, [0, 1, 2, 3, 4]), (11, [0]), (12, [0]), (13, []), (14, [])]), (1000012, [(0, []), (0, []), (0, []), (6, []), (14, []), (30, []), (0, []), (0, []), (192, []), (448, []), (960, []), (2046, []), (4094, []), (8191, []), (16383, [])]), (28, [(0, []), (1, []), (2, []), (3, []), (4, []), (5, []), (6, []), (7, []), (9, []), (10, []), (11, []), (12, []), (8, [0, 9, 10, 11, 12]), (13, [0]), (14, []), (15, [])]), (1000028, [(0, []), (0, []), (0, []), (6, []), (14, []), (0, []), (62, []), (126, []), (254, []), (0, []), (0, []), (1536, []), (3584, []), (8190, []), (16383, []), (32767, [])]), (29, [(0, []), (1, []), (2, []), (3, []), (4, []), (5, [0]), (6, []), (7, [])])])
    (hI : s.sl 0 = .sl m.length (m.map SW) ∧ s.sl 7 = k7 ∧ s.sl 8 = .val (.bool false) ∧ s.sl 12 = k12 ∧ s.sl 16 = .val (.int .i64 (0 : Nat)))
    (hQ : ∀ t : PS, t.sl 7 = k7 → t.sl 12 = k12 → Q (.exit 2) t) : LW Try.prog cx (loopN Try.f10 1) Q s := by
  refine LW.ofLoop rfl ?_
  refine LW.loopW hc ht (by kernel_rfl) (fun t => t.sl 0 = .sl m.length (m.map SW) ∧ t.sl 7 = k7 ∧ t.sl 8 = .val (.bool false) ∧ t.sl 12 = k12 ∧ t.sl 16 = .val (.int .i64 (0 : Nat))) (fun _ => 0) hI ?_
  rintro t ⟨h0, h7, h8, h12, h16⟩
  by_cases hz : m.length = 0
  · have hz2 : ¬ 0 < m.length := by omega
    simp -implicitDefEqProofs (disch := omega) only [go_sem, ht, h0, h7, h8, h12, h16, hz2]
    exact hQ _ (by simp -implicitDefEqProofs (disch := omega) only [go_sem, ht, h7]) (by simp -implicitDefEqProofs (disch := omega) only [go_sem, ht, h12])
  · have hz2 : 0 < m.length := by omega
    simp -implicitDefEqProofs (disch := omega) only [go_sem, ht, h0, h7, h8, h12, h16, hz2]
    exact hQ _ (by simp -implicitDefEqProofs (disch := omega) only [go_sem, ht, h7]) (by simp -implicitDefEqProofs (disch := omega) only [go_sem, ht, h12])
set_option maxHeartbeats 8000000 in
theorem makes_A (hlr : PT Try.prog 12 [SM m] (isV (.val (.int .i64 (lenM m))))) (hlw : PT Try.prog 26 [SW v] (isV (.val (.int .i64 (lenW v))))) (hl : ¬ 1500 < lenM m + lenW v) (hfit : PT Try.prog 13 [SM m, .val (.int .i64 n)] (isV (.val (.bool true)))) (hrl : v.length = m.length) (hn32 : n < 32) (hlc : ∀ l ∈ m, l.length = n) (hml : m.length ≤ 64) (hMx : Mx m 1500) (hvR : Rn v 1500)
    (hk : PT Try.prog 22 [SM m, .val (.int .i64 n)] (isV (.tup [.val (.int .i64 kk), .val (.int .i64 0)]))) (hmo : PT Try.prog 22 [.sl m.length ((augL m v).map SW), .val (.int .i64 (n + 1 : Nat))] (isV (.tup [.val (.int .i64 (kk : Nat)), .val (.int .i64 0)])))
    (hsol : PT Try.prog 40 [SM m, .val (.int .i64 n), SW v] (isV (.tup [.sl 0 (FLc []), .val (.bool false), .val (.int .i64 2)]))) : PT Try.prog 10 [SM m, .val (.int .i64 n), SW v] (isV (.val (.bool true))) := by
  have hli : ¬ ((1500 : Int) < (lenM m : Int) + (lenW v : Int)) := by omega
  have hn32i : ¬ ((32 : Int) ≤ (n : Nat)) := by omega
  have hkk : ¬ ((kk : Nat) : Int) = ((kk + 1 : Nat) : Int) := by omega
  refine PCalls.enter (n := 188) (rs := [.tmp 6]) (tb := [(12, [(0, []), (1, []), (2, []), (3, []), (4, []), (6, []), (7, []), (8, []), (9, []), (5, [0, 6, 7, 8, 9]), (10, [0, 1, 2, 3, 4]), (11, [0]), (12, [0]), (13, []), (14, [])]), (1000012, [(0, []), (0, []), (0, []), (6, []), (14, []), (30, []), (0, []), (0, []), (192, []), (448, []), (960, []), (2046, []), (4094, []), (8191, []), (16383, [])]), (28, [(0, []), (1, []), (2, []), (3, []), (4, []), (5, []), (6, []), (7, []), (9, []), (10, []), (11, []), (12, []), (8, [0, 9, 10, 11, 12]), (13, [0]), (14, []), (15, [])]), (1000028, [(0, []), (0, []), (0, []), (6, []), (14, []), (0, []), (62, []), (126, []), (254, []), (0, []), (0, []), (1536, []), (3584, []), (8190, []), (16383, []), (32767, [])]), (29, [(0, []), (1, []), (2, []), (3, []), (4, []), (5, [0]), (6, []), (7, [])])]) Try.func10 rfl rfl rfl (by kernel_rfl) (by kernel_rfl) (by simp) fun c hc ht => ?_
  simp -implicitDefEqProofs (disch := omega) only [go_sem, ht]
  ((refine pCall_vw (by refine ⟨⟨?_, ?_⟩, ?_, ?_⟩; rotate_left 2; (first | (right; rintro r rfl; rfl) | left); all_goals ((try simp -implicitDefEqProofs (disch := omega) only [hl, hli, hrl, hn32, hn32i, SF_def, go_sem, ht]) <;> rfl)) (awake_matrix) ?_; rintro _ nx_1 - rfl hnx_1; simp -implicitDefEqProofs (disch := omega) only [hl, hli, hrl, hn32, hn32i, SF_def, go_sem, ht]); (refine pCall_vw (by refine ⟨⟨?_, ?_⟩, ?_, ?_⟩; rotate_left 2; (first | (right; rintro r rfl; rfl) | left); all_goals ((try simp -implicitDefEqProofs (disch := omega) only [hl, hli, hrl, hn32, hn32i, SF_def, go_sem, ht]) <;> rfl)) (hlr) ?_; rintro _ nx_2 - rfl hnx_2; simp -implicitDefEqProofs (disch := omega) only [hl, hli, hrl, hn32, hn32i, SF_def, go_sem, ht]); (refine pCall_vw (by refine ⟨⟨?_, ?_⟩, ?_, ?_⟩; rotate_left 2; (first | (right; rintro r rfl; rfl) | left); all_goals ((try simp -implicitDefEqProofs (disch := omega) only [hl, hli, hrl, hn32, hn32i, SF_def, go_sem, ht]) <;> rfl)) (hlw) ?_; rintro _ nx_3 - rfl hnx_3; simp -implicitDefEqProofs (disch := omega) only [hl, hli, hrl, hn32, hn32i, SF_def, go_sem, ht]); (refine pCall_vw (by refine ⟨⟨?_, ?_⟩, ?_, ?_⟩; rotate_left 2; (first | (right; rintro r rfl; rfl) | left); all_goals ((try simp -implicitDefEqProofs (disch := omega) only [hl, hli, hrl, hn32, hn32i, SF_def, go_sem, ht]) <;> rfl)) (hfit) ?_; rintro _ nx_4 - rfl hnx_4; simp -implicitDefEqProofs (disch := omega) only [hl, hli, hrl, hn32, hn32i, SF_def, go_sem, ht]); (refine pCall_vw (by refine ⟨⟨?_, ?_⟩, ?_, ?_⟩; rotate_left 2; (first | (right; rintro r rfl; rfl) | left); all_goals ((try simp -implicitDefEqProofs (disch := omega) only [hl, hli, hrl, hn32, hn32i, SF_def, go_sem, ht]) <;> rfl)) (hsol) ?_; rintro _ nx_5 - rfl hnx_5; simp -implicitDefEqProofs (disch := omega) only [hl, hli, hrl, hn32, hn32i, SF_def, go_sem, ht]))
  refine LW.ghost (Gh.nilW 10 1 (by simp -implicitDefEqProofs (disch := omega) only [go_sem, ht])) ?_
  refine makes0 (n := n) (m := m) (r := v) (v7 := .sl 0 (FLc [])) (v8 := .val (.bool false)) (v9 := .val (.int .i64 2)) hc ht (by omega) hlc hrl hml ⟨by simp -implicitDefEqProofs (disch := omega) only [go_sem, ht, hrl], by simp -implicitDefEqProofs (disch := omega) only [go_sem, ht], by simp -implicitDefEqProofs (disch := omega) only [go_sem, ht, hrl], by simp -implicitDefEqProofs (disch := omega) only [go_sem, ht] <;> rfl, by simp -implicitDefEqProofs (disch := omega) only [go_sem, ht] <;> rfl, by simp -implicitDefEqProofs (disch := omega) only [go_sem, ht] <;> rfl, by simp -implicitDefEqProofs (disch := omega) only [go_sem, ht] <;> rfl, _, by simp -implicitDefEqProofs (disch := omega) only [go_sem, ht] <;> rfl, by simp -implicitDefEqProofs (disch := omega) only [go_sem, ht, upd_self], by first | omega | (simp -implicitDefEqProofs (disch := omega) only [go_sem, ht]; done) | (simp -implicitDefEqProofs (disch := omega) only [go_sem, ht]; omega)⟩ ?_
  intro t id cap rest h0 h1 h2 h7 h8 h9 h10 hH hid
  have hal := augL_len hrl
  have hml2 : ((augL m v).map SW).length = m.length := by rw [List.length_map, hal]
  have htk : List.take m.length ((augL m v).map SW ++ rest.map PV.val) = (augL m v).map SW := List.take_left' hml2
  have hle : m.length ≤ ((augL m v).map SW).length + rest.length := by omega
  have hle2 : m.length ≤ (augL m v).length + rest.length := by omega
  have hfl := fun H => frzL_flat (fun _ => true) H 0 (SM_flat (augL m v))
  have hfl0 := SM_flat (augL m v)
  simp -implicitDefEqProofs (disch := omega) only [go_sem, ht, h0, h1, h2, h7, h8, h9, h10]
  ((refine pCall_vw (by refine ⟨⟨?_, ?_⟩, ?_, ?_⟩; rotate_left 2; (first | (right; rintro r rfl; rfl) | left); all_goals ((try simp -implicitDefEqProofs (disch := omega) only [h0, h1, h2, h7, h8, h9, h10, go_sem, ht]) <;> rfl)) (hk) ?_; rintro _ nx_6 - rfl hnx_6; simp -implicitDefEqProofs (disch := omega) only [h0, h1, h2, h7, h8, h9, h10, go_sem, ht]))
  (refine pCall_frz (fun _ => true) 1 (by simp -implicitDefEqProofs (disch := omega) only [h0, h1, h2, h7, h8, h9, h10, hH, htk, hle, hle2, hfl, hfl0, hkk, go_sem, ht] <;> rfl) (by simp -implicitDefEqProofs (disch := omega) only [h0, h1, h2, h7, h8, h9, h10, hH, htk, hle, hle2, hfl, hfl0, hkk, go_sem, ht]) (by simp -implicitDefEqProofs (disch := omega) only [h0, h1, h2, h7, h8, h9, h10, hH, htk, hle, hle2, hfl, hfl0, hkk, go_sem, ht] <;> rfl) (by simp -implicitDefEqProofs (disch := omega) only [h0, h1, h2, h7, h8, h9, h10, hH, htk, hle, hle2, hfl, hfl0, hkk, go_sem, ht]) (hmo) ?_; rintro _ nx - rfl hnx; (try simp only [put_nx, withH_nx, begP_nx] at hnx); simp -implicitDefEqProofs (disch := omega) only [h0, h1, h2, h7, h8, h9, h10, hH, htk, hle, hle2, hfl, hfl0, hkk, go_sem, ht])
  (refine end_treeW 0 ?_; simp -implicitDefEqProofs (disch := omega) only [go_sem, ht])
set_option maxHeartbeats 8000000 in
theorem makes_B (hlr : PT Try.prog 12 [SM m] (isV (.val (.int .i64 (lenM m))))) (hlw : PT Try.prog 26 [SW v] (isV (.val (.int .i64 (lenW v))))) (hl : ¬ 1500 < lenM m + lenW v) (hfit : PT Try.prog 13 [SM m, .val (.int .i64 n)] (isV (.val (.bool true)))) (hrl : v.length = m.length) (hn32 : n < 32) (hlc : ∀ l ∈ m, l.length = n) (hml : m.length ≤ 64) (hMx : Mx m 1500) (hvR : Rn v 1500)
    (hk : PT Try.prog 22 [SM m, .val (.int .i64 n)] (isV (.tup [.val (.int .i64 kk), .val (.int .i64 0)]))) (hmo : PT Try.prog 22 [.sl m.length ((augL m v).map SW), .val (.int .i64 (n + 1 : Nat))] (isV (.tup [.val (.int .i64 ((kk + 1) : Nat)), .val (.int .i64 0)])))
    (hsol : PT Try.prog 40 [SM m, .val (.int .i64 n), SW v] (isV (.tup [.sl 0 (FLc []), .val (.bool false), .val (.int .i64 0)]))) : PT Try.prog 10 [SM m, .val (.int .i64 n), SW v] (isV (.val (.bool true))) := by
  have hli : ¬ ((1500 : Int) < (lenM m : Int) + (lenW v : Int)) := by omega
  have hn32i : ¬ ((32 : Int) ≤ (n : Nat)) := by omega
  have hkk : ¬ ((kk : Nat) : Int) = ((kk + 1 : Nat) : Int) := by omega
  refine PCalls.enter (n := 188) (rs := [.tmp 6]) (tb := [(12, [(0, []), (1, []), (2, []), (3, []), (4, []), (6, []), (7, []), (8, []), (9, []), (5, [0, 6, 7, 8, 9]), (10, [0, 1, 2, 3, 4]), (11, [0]), (12, [0]), (13, []), (14, [])]), (1000012, [(0, []), (0, []), (0, []), (6, []), (14, []), (30, []), (0, []), (0, []), (192, []), (448, []), (960, []), (2046, []), (4094, []), (8191, []), (16383, [])]), (28, [(0, []), (1, []), (2, []), (3, []), (4, []), (5, []), (6, []), (7, []), (9, []), (10, []), (11, []), (12, []), (8, [0, 9, 10, 11, 12]), (13, [0]), (14, []), (15, [])]), (1000028, [(0, []), (0, []), (0, []), (6, []), (14, []), (0, []), (62, []), (126, []), (254, []), (0, []), (0, []), (1536, []), (3584, []), (8190, []), (16383, []), (32767, [])]), (29, [(0, []), (1, []), (2, []), (3, []), (4, []), (5, [0]), (6, []), (7, [])])]) Try.func10 rfl rfl rfl (by kernel_rfl) (by kernel_rfl) (by simp) fun c hc ht => ?_
  simp -implicitDefEqProofs (disch := omega) only [go_sem, ht]
  ((refine pCall_vw (by refine ⟨⟨?_, ?_⟩, ?_, ?_⟩; rotate_left 2; (first | (right; rintro r rfl; rfl) | left); all_goals ((try simp -implicitDefEqProofs (disch := omega) only [hl, hli, hrl, hn32, hn32i, SF_def, go_sem, ht]) <;> rfl)) (awake_matrix) ?_; rintro _ nx_7 - rfl hnx_7; simp -implicitDefEqProofs (disch := omega) only [hl, hli, hrl, hn32, hn32i, SF_def, go_sem, ht]); (refine pCall_vw (by refine ⟨⟨?_, ?_⟩, ?_, ?_⟩; rotate_left 2; (first | (right; rintro r rfl; rfl) | left); all_goals ((try simp -implicitDefEqProofs (disch := omega) only [hl, hli, hrl, hn32, hn32i, SF_def, go_sem, ht]) <;> rfl)) (hlr) ?_; rintro _ nx_8 - rfl hnx_8; simp -implicitDefEqProofs (disch := omega) only [hl, hli, hrl, hn32, hn32i, SF_def, go_sem, ht]); (refine pCall_vw (by refine ⟨⟨?_, ?_⟩, ?_, ?_⟩; rotate_left 2; (first | (right; rintro r rfl; rfl) | left); all_goals ((try simp -implicitDefEqProofs (disch := omega) only [hl, hli, hrl, hn32, hn32i, SF_def, go_sem, ht]) <;> rfl)) (hlw) ?_; rintro _ nx_9 - rfl hnx_9; simp -implicitDefEqProofs (disch := omega) only [hl, hli, hrl, hn32, hn32i, SF_def, go_sem, ht]); (refine pCall_vw (by refine ⟨⟨?_, ?_⟩, ?_, ?_⟩; rotate_left 2; (first | (right; rintro r rfl; rfl) | left); all_goals ((try simp -implicitDefEqProofs (disch := omega) only [hl, hli, hrl, hn32, hn32i, SF_def, go_sem, ht]) <;> rfl)) (hfit) ?_; rintro _ nx_10 - rfl hnx_10; simp -implicitDefEqProofs (disch := omega) only [hl, hli, hrl, hn32, hn32i, SF_def, go_sem, ht]); (refine pCall_vw (by refine ⟨⟨?_, ?_⟩, ?_, ?_⟩; rotate_left 2; (first | (right; rintro r rfl; rfl) | left); all_goals ((try simp -implicitDefEqProofs (disch := omega) only [hl, hli, hrl, hn32, hn32i, SF_def, go_sem, ht]) <;> rfl)) (hsol) ?_; rintro _ nx_11 - rfl hnx_11; simp -implicitDefEqProofs (disch := omega) only [hl, hli, hrl, hn32, hn32i, SF_def, go_sem, ht]))
  refine LW.ghost (Gh.nilW 10 1 (by simp -implicitDefEqProofs (disch := omega) only [go_sem, ht])) ?_
  refine makes0 (n := n) (m := m) (r := v) (v7 := .sl 0 (FLc [])) (v8 := .val (.bool false)) (v9 := .val (.int .i64 0)) hc ht (by omega) hlc hrl hml ⟨by simp -implicitDefEqProofs (disch := omega) only [go_sem, ht, hrl], by simp -implicitDefEqProofs (disch := omega) only [go_sem, ht], by simp -implicitDefEqProofs (disch := omega) only [go_sem, ht, hrl], by simp -implicitDefEqProofs (disch := omega) only [go_sem, ht] <;> rfl, by simp -implicitDefEqProofs (disch := omega) only [go_sem, ht] <;> rfl, by simp -implicitDefEqProofs (disch := omega) only [go_sem, ht] <;> rfl, by simp -implicitDefEqProofs (disch := omega) only [go_sem, ht] <;> rfl, _, by simp -implicitDefEqProofs (disch := omega) only [go_sem, ht] <;> rfl, by simp -implicitDefEqProofs (disch := omega) only [go_sem, ht, upd_self], by first | omega | (simp -implicitDefEqProofs (disch := omega) only [go_sem, ht]; done) | (simp -implicitDefEqProofs (disch := omega) only [go_sem, ht]; omega)⟩ ?_
  intro t id cap rest h0 h1 h2 h7 h8 h9 h10 hH hid
  have hal := augL_len hrl
  have hml2 : ((augL m v).map SW).length = m.length := by rw [List.length_map, hal]
  have htk : List.take m.length ((augL m v).map SW ++ rest.map PV.val) = (augL m v).map SW := List.take_left' hml2
  have hle : m.length ≤ ((augL m v).map SW).length + rest.length := by omega
  have hle2 : m.length ≤ (augL m v).length + rest.length := by omega
  have hfl := fun H => frzL_flat (fun _ => true) H 0 (SM_flat (augL m v))
  have hfl0 := SM_flat (augL m v)
  simp -implicitDefEqProofs (disch := omega) only [go_sem, ht, h0, h1, h2, h7, h8, h9, h10]
  ((refine pCall_vw (by refine ⟨⟨?_, ?_⟩, ?_, ?_⟩; rotate_left 2; (first | (right; rintro r rfl; rfl) | left); all_goals ((try simp -implicitDefEqProofs (disch := omega) only [h0, h1, h2, h7, h8, h9, h10, go_sem, ht]) <;> rfl)) (hk) ?_; rintro _ nx_12 - rfl hnx_12; simp -implicitDefEqProofs (disch := omega) only [h0, h1, h2, h7, h8, h9, h10, go_sem, ht]))
  (refine pCall_frz (fun _ => true) 1 (by simp -implicitDefEqProofs (disch := omega) only [h0, h1, h2, h7, h8, h9, h10, hH, htk, hle, hle2, hfl, hfl0, hkk, go_sem, ht] <;> rfl) (by simp -implicitDefEqProofs (disch := omega) only [h0, h1, h2, h7, h8, h9, h10, hH, htk, hle, hle2, hfl, hfl0, hkk, go_sem, ht]) (by simp -implicitDefEqProofs (disch := omega) only [h0, h1, h2, h7, h8, h9, h10, hH, htk, hle, hle2, hfl, hfl0, hkk, go_sem, ht] <;> rfl) (by simp -implicitDefEqProofs (disch := omega) only [h0, h1, h2, h7, h8, h9, h10, hH, htk, hle, hle2, hfl, hfl0, hkk, go_sem, ht]) (hmo) ?_; rintro _ nx - rfl hnx; (try simp only [put_nx, withH_nx, begP_nx] at hnx); simp -implicitDefEqProofs (disch := omega) only [h0, h1, h2, h7, h8, h9, h10, hH, htk, hle, hle2, hfl, hfl0, hkk, go_sem, ht])
  refine makes1f (m := m) (k7 := .sl 0 (FLc [])) (k12 := .val (.int .i64 kk)) hc ht ⟨by simp -implicitDefEqProofs (disch := omega) only [go_sem, ht, h0], by simp -implicitDefEqProofs (disch := omega) only [go_sem, ht, h7] <;> rfl, by simp -implicitDefEqProofs (disch := omega) only [go_sem, ht, h8] <;> rfl, by simp -implicitDefEqProofs (disch := omega) only [go_sem, ht] <;> rfl, by simp -implicitDefEqProofs (disch := omega) only [go_sem, ht] <;> rfl⟩ ?_
  intro u u7 u12
  simp -implicitDefEqProofs (disch := omega) only [go_sem, ht, u7, u12]
  refine makes3 (N := 0) (x := []) (kk := kk) hc ht (by omega) rfl (fun c => by unfold fv; exact ⟨Z_zero, Nat.one_lt_pow (by omega) (by decide)⟩) ⟨by simp -implicitDefEqProofs (disch := omega) only [go_sem, ht, u7] <;> rfl, by simp -implicitDefEqProofs (disch := omega) only [go_sem, ht, u12] <;> rfl, by simp -implicitDefEqProofs (disch := omega) only [go_sem, ht] <;> rfl, by simp -implicitDefEqProofs (disch := omega) only [go_sem, ht] <;> rfl⟩ ?_
  intro w w12 w19
  have hci : ((cntQ ([] : List Rat) 0 : Nat) : Int) ≤ (kk : Nat) := by
    show ((0 : Nat) : Int) ≤ _
    omega
  simp -implicitDefEqProofs (disch := omega) only [go_sem, ht, w12, w19]
  (refine end_treeW 0 ?_; simp -implicitDefEqProofs (disch := omega) only [go_sem, ht, hci])
set_option maxHeartbeats 8000000 in
theorem makes_C (hlr : PT Try.prog 12 [SM m] (isV (.val (.int .i64 (lenM m))))) (hlw : PT Try.prog 26 [SW v] (isV (.val (.int .i64 (lenW v))))) (hl : ¬ 1500 < lenM m + lenW v) (hfit : PT Try.prog 13 [SM m, .val (.int .i64 n)] (isV (.val (.bool true)))) (hrl : v.length = m.length) (hn32 : n < 32) (hlc : ∀ l ∈ m, l.length = n) (hml : m.length ≤ 64) (hMx : Mx m 1500) (hvR : Rn v 1500)
    (hk : PT Try.prog 22 [SM m, .val (.int .i64 n)] (isV (.tup [.val (.int .i64 kk), .val (.int .i64 0)]))) (hmo : PT Try.prog 22 [.sl m.length ((augL m v).map SW), .val (.int .i64 (n + 1 : Nat))] (isV (.tup [.val (.int .i64 (kk : Nat)), .val (.int .i64 0)])))
    (hsol : PT Try.prog 40 [SM m, .val (.int .i64 n), SW v] (isV (.tup [.sl n (FLc x), .val (.bool true), .val (.int .i64 0)]))) (hxl : x.length = n) (hx : ∀ c, Zq 32 (fv x c)) (hsum : ∀ i, i < m.length → dotX (vc (vals (m.getD i []))) x n = (vc (vals v) i : Rat)) (hcnt : cntQ x n ≤ kk) : PT Try.prog 10 [SM m, .val (.int .i64 n), SW v] (isV (.val (.bool true))) := by
  have hli : ¬ ((1500 : Int) < (lenM m : Int) + (lenW v : Int)) := by omega
  have hn32i : ¬ ((32 : Int) ≤ (n : Nat)) := by omega
  have hkk : ¬ ((kk : Nat) : Int) = ((kk + 1 : Nat) : Int) := by omega
  refine PCalls.enter (n := 188) (rs := [.tmp 6]) (tb := [(12, [(0, []), (1, []), (2, []), (3, []), (4, []), (6, []), (7, []), (8, []), (9, []), (5, [0, 6, 7, 8, 9]), (10, [0, 1, 2, 3, 4]), (11, [0]), (12, [0]), (13, []), (14, [])]), (1000012, [(0, []), (0, []), (0, []), (6, []), (14, []), (30, []), (0, []), (0, []), (192, []), (448, []), (960, []), (2046, []), (4094, []), (8191, []), (16383, [])]), (28, [(0, []), (1, []), (2, []), (3, []), (4, []), (5, []), (6, []), (7, []), (9, []), (10, []), (11, []), (12, []), (8, [0, 9, 10, 11, 12]), (13, [0]), (14, []), (15, [])]), (1000028, [(0, []), (0, []), (0, []), (6, []), (14, []), (0, []), (62, []), (126, []), (254, []), (0, []), (0, []), (1536, []), (3584, []), (8190, []), (16383, []), (32767, [])]), (29, [(0, []), (1, []), (2, []), (3, []), (4, []), (5, [0]), (6, []), (7, [])])]) Try.func10 rfl rfl rfl (by kernel_rfl) (by kernel_rfl) (by simp) fun c hc ht => ?_
  simp -implicitDefEqProofs (disch := omega) only [go_sem, ht]
  ((refine pCall_vw (by refine ⟨⟨?_, ?_⟩, ?_, ?_⟩; rotate_left 2; (first | (right; rintro r rfl; rfl) | left); all_goals ((try simp -implicitDefEqProofs (disch := omega) only [hl, hli, hrl, hn32, hn32i, SF_def, go_sem, ht]) <;> rfl)) (awake_matrix) ?_; rintro _ nx_13 - rfl hnx_13; simp -implicitDefEqProofs (disch := omega) only [hl, hli, hrl, hn32, hn32i, SF_def, go_sem, ht]); (refine pCall_vw (by refine ⟨⟨?_, ?_⟩, ?_, ?_⟩; rotate_left 2; (first | (right; rintro r rfl; rfl) | left); all_goals ((try simp -implicitDefEqProofs (disch := omega) only [hl, hli, hrl, hn32, hn32i, SF_def, go_sem, ht]) <;> rfl)) (hlr) ?_; rintro _ nx_14 - rfl hnx_14; simp -implicitDefEqProofs (disch := omega) only [hl, hli, hrl, hn32, hn32i, SF_def, go_sem, ht]); (refine pCall_vw (by refine ⟨⟨?_, ?_⟩, ?_, ?_⟩; rotate_left 2; (first | (right; rintro r rfl; rfl) | left); all_goals ((try simp -implicitDefEqProofs (disch := omega) only [hl, hli, hrl, hn32, hn32i, SF_def, go_sem, ht]) <;> rfl)) (hlw) ?_; rintro _ nx_15 - rfl hnx_15; simp -implicitDefEqProofs (disch := omega) only [hl, hli, hrl, hn32, hn32i, SF_def, go_sem, ht]); (refine pCall_vw (by refine ⟨⟨?_, ?_⟩, ?_, ?_⟩; rotate_left 2; (first | (right; rintro r rfl; rfl) | left); all_goals ((try simp -implicitDefEqProofs (disch := omega) only [hl, hli, hrl, hn32, hn32i, SF_def, go_sem, ht]) <;> rfl)) (hfit) ?_; rintro _ nx_16 - rfl hnx_16; simp -implicitDefEqProofs (disch := omega) only [hl, hli, hrl, hn32, hn32i, SF_def, go_sem, ht]); (refine pCall_vw (by refine ⟨⟨?_, ?_⟩, ?_, ?_⟩; rotate_left 2; (first | (right; rintro r rfl; rfl) | left); all_goals ((try simp -implicitDefEqProofs (disch := omega) only [hl, hli, hrl, hn32, hn32i, SF_def, go_sem, ht]) <;> rfl)) (hsol) ?_; rintro _ nx_17 - rfl hnx_17; simp -implicitDefEqProofs (disch := omega) only [hl, hli, hrl, hn32, hn32i, SF_def, go_sem, ht]))
  refine LW.ghost (Gh.nilW 10 1 (by simp -implicitDefEqProofs (disch := omega) only [go_sem, ht])) ?_
  refine makes0 (n := n) (m := m) (r := v) (v7 := .sl n (FLc x)) (v8 := .val (.bool true)) (v9 := .val (.int .i64 0)) hc ht (by omega) hlc hrl hml ⟨by simp -implicitDefEqProofs (disch := omega) only [go_sem, ht, hrl], by simp -implicitDefEqProofs (disch := omega) only [go_sem, ht], by simp -implicitDefEqProofs (disch := omega) only [go_sem, ht, hrl], by simp -implicitDefEqProofs (disch := omega) only [go_sem, ht] <;> rfl, by simp -implicitDefEqProofs (disch := omega) only [go_sem, ht] <;> rfl, by simp -implicitDefEqProofs (disch := omega) only [go_sem, ht] <;> rfl, by simp -implicitDefEqProofs (disch := omega) only [go_sem, ht] <;> rfl, _, by simp -implicitDefEqProofs (disch := omega) only [go_sem, ht] <;> rfl, by simp -implicitDefEqProofs (disch := omega) only [go_sem, ht, upd_self], by first | omega | (simp -implicitDefEqProofs (disch := omega) only [go_sem, ht]; done) | (simp -implicitDefEqProofs (disch := omega) only [go_sem, ht]; omega)⟩ ?_
  intro t id cap rest h0 h1 h2 h7 h8 h9 h10 hH hid
  have hal := augL_len hrl
  have hml2 : ((augL m v).map SW).length = m.length := by rw [List.length_map, hal]
  have htk : List.take m.length ((augL m v).map SW ++ rest.map PV.val) = (augL m v).map SW := List.take_left' hml2
  have hle : m.length ≤ ((augL m v).map SW).length + rest.length := by omega
  have hle2 : m.length ≤ (augL m v).length + rest.length := by omega
  have hfl := fun H => frzL_flat (fun _ => true) H 0 (SM_flat (augL m v))
  have hfl0 := SM_flat (augL m v)
  simp -implicitDefEqProofs (disch := omega) only [go_sem, ht, h0, h1, h2, h7, h8, h9, h10]
  ((refine pCall_vw (by refine ⟨⟨?_, ?_⟩, ?_, ?_⟩; rotate_left 2; (first | (right; rintro r rfl; rfl) | left); all_goals ((try simp -implicitDefEqProofs (disch := omega) only [h0, h1, h2, h7, h8, h9, h10, go_sem, ht]) <;> rfl)) (hk) ?_; rintro _ nx_18 - rfl hnx_18; simp -implicitDefEqProofs (disch := omega) only [h0, h1, h2, h7, h8, h9, h10, go_sem, ht]))
  (refine pCall_frz (fun _ => true) 1 (by simp -implicitDefEqProofs (disch := omega) only [h0, h1, h2, h7, h8, h9, h10, hH, htk, hle, hle2, hfl, hfl0, hkk, go_sem, ht] <;> rfl) (by simp -implicitDefEqProofs (disch := omega) only [h0, h1, h2, h7, h8, h9, h10, hH, htk, hle, hle2, hfl, hfl0, hkk, go_sem, ht]) (by simp -implicitDefEqProofs (disch := omega) only [h0, h1, h2, h7, h8, h9, h10, hH, htk, hle, hle2, hfl, hfl0, hkk, go_sem, ht] <;> rfl) (by simp -implicitDefEqProofs (disch := omega) only [h0, h1, h2, h7, h8, h9, h10, hH, htk, hle, hle2, hfl, hfl0, hkk, go_sem, ht]) (hmo) ?_; rintro _ nx - rfl hnx; (try simp only [put_nx, withH_nx, begP_nx] at hnx); simp -implicitDefEqProofs (disch := omega) only [h0, h1, h2, h7, h8, h9, h10, hH, htk, hle, hle2, hfl, hfl0, hkk, go_sem, ht])
  refine makes1 (n := n) (m := m) (r := v) (x := x) (k4 := .val (.int .i64 kk)) hc ht (by omega) hMx hvR hrl hlc hml hxl hx hsum ⟨⟨by simp -implicitDefEqProofs (disch := omega) only [go_sem, ht, h0], by simp -implicitDefEqProofs (disch := omega) only [go_sem, ht, h1], by simp -implicitDefEqProofs (disch := omega) only [go_sem, ht, h2], by simp -implicitDefEqProofs (disch := omega) only [go_sem, ht, h7] <;> rfl, by simp -implicitDefEqProofs (disch := omega) only [go_sem, ht, h8] <;> rfl, by simp -implicitDefEqProofs (disch := omega) only [go_sem, ht] <;> rfl⟩, by simp -implicitDefEqProofs (disch := omega) only [go_sem, ht] <;> rfl⟩ ?_
  rintro u ⟨u0, u1, u2, u7, u8, u12⟩
  simp -implicitDefEqProofs (disch := omega) only [go_sem, ht, u7, u12]
  refine makes3 (N := n) (x := x) (kk := kk) hc ht (by omega) hxl hx ⟨by simp -implicitDefEqProofs (disch := omega) only [go_sem, ht, u7] <;> rfl, by simp -implicitDefEqProofs (disch := omega) only [go_sem, ht, u12] <;> rfl, by simp -implicitDefEqProofs (disch := omega) only [go_sem, ht] <;> rfl, by simp -implicitDefEqProofs (disch := omega) only [go_sem, ht] <;> rfl⟩ ?_
  intro w w12 w19
  have hci : ((cntQ x n : Nat) : Int) ≤ (kk : Nat) := by omega
  simp -implicitDefEqProofs (disch := omega) only [go_sem, ht, w12, w19]
  (refine end_treeW 0 ?_; simp -implicitDefEqProofs (disch := omega) only [go_sem, ht, hci])
end
end Go.Proofs.Ytfjdfnlkobeehaa
end

section
set_option maxRecDepth 100000
set_option linter.unusedVariables false
set_option linter.unusedSimpArgs false
namespace Go.Proofs.Ytfjdfnlkobeehaa

section
variable {m : List (List (Bool × List Nat))} {v : List (Bool × List Nat)} {n : Nat}
theorem vals_snoc (l : List (Bool × List Nat)) (p : Bool × List Nat) : vals (l ++ [p]) = vals l ++ [WV p.1 p.2] := by simp [vals]
theorem aug_Aug (hrl : v.length = m.length) (hlc : ∀ l ∈ m, l.length = n) : Aug (m.map vals) ((augL m v).map vals) n := by
  have hal := augL_len hrl
  refine ⟨by simp [hal], fun i hi => ?_, fun i hi j hj => ?_⟩
  · have hi : i < m.length := by simpa using hi
    rw [getD_vals hi, vals_len]; exact hlc _ (getD_mem hi)
  · have hi : i < m.length := by simpa using hi
    rw [getD_vals hi, getD_vals (by omega), augL_get hrl hi, vals_snoc]
    have hl : (vals (m.getD i [])).length = n := by rw [vals_len]; exact hlc _ (getD_mem hi)
    rw [vc_lt (by rw [List.length_append]; omega), vc_lt (by omega), List.getElem_append_left (by omega)]
theorem aug_last (hrl : v.length = m.length) (hlc : ∀ l ∈ m, l.length = n) {i : Nat} (hi : i < m.length) : vc (((augL m v).map vals).getD i []) n = vc (vals v) i := by
  have hal := augL_len hrl
  rw [getD_vals (by omega), augL_get hrl hi, vals_snoc]
  have hl : (vals (m.getD i [])).length = n := by rw [vals_len]; exact hlc _ (getD_mem hi)
  have hv : i < (vals v).length := by rw [vals_len]; omega
  rw [vc_lt (by rw [List.length_append, hl]; exact Nat.lt_succ_self n), List.getElem_append_right (by omega), vals_get (l := v) (i := i) (by omega)]
  simp [hl]
set_option maxHeartbeats 4000000 in
theorem makes_law {cn : Int} (hm : ∀ l ∈ m, ∀ p ∈ l, Lm p.2) (hb : lenM m + 1 ≤ 1048576) (lo : -9223372036854775808 ≤ cn) (hi : cn ≤ 9223372036854775807) (hv : ∀ p ∈ v, Lm p.2) (hvb : lenW v + 1 ≤ 1048576) :
    PT Try.prog 10 [SM m, .val (.int .i64 cn), SW v] (isV (.val (.bool true))) := by
  have hlr := len_rows (m := m) (by omega)
  have hlw := len_wholes (l := v) (by omega)
  have hml := lenM_len m
  have hvl := lenW_len v
  by_cases hl : 1500 < lenM m + lenW v
  · have hli : (1500 : Int) < (lenM m : Int) + (lenW v : Int) := by omega
    refine PCalls.enter (n := 188) (rs := [.tmp 6]) (tb := [(12, [(0, []), (1, []), (2, []), (3, []), (4, []), (6, []), (7, []), (8, []), (9, []), (5, [0, 6, 7, 8, 9]), (10, [0, 1, 2, 3, 4]), (11, [0]), (12, [0]), (13, []), (14, [])]), (1000012, [(0, []), (0, []), (0, []), (6, []), (14, []), (30, []), (0, []), (0, []), (192, []), (448, []), (960, []), (2046, []), (4094, []), (8191, []), (16383, [])]), (28, [(0, []), (1, []), (2, []), (3, []), (4, []), (5, []), (6, []), (7, []), (9, []), (10, []), (11, []), (12, []), (8, [0, 9, 10, 11, 12]), (13, [0]), (14, []), (15, [])]), (1000028, [(0, []), (0, []), (0, []), (6, []), (14, []), (0, []), (62, []), (126, []), (254, []), (0, []), (0, []), (1536, []), (3584, []), (8190, []), (16383, []), (32767, [])]), (29, [(0, []), (1, []), (2, []), (3, []), (4, []), (5, [0]), (6, []), (7, [])])]) Try.func10 rfl rfl rfl (by kernel_rfl) (by kernel_rfl) (by simp) fun c hc ht => ?_
    simp -implicitDefEqProofs (disch := omega) only [go_sem, ht]
    ((refine pCall_vw (by refine ⟨⟨?_, ?_⟩, ?_, ?_⟩; rotate_left 2; (first | (right; rintro r rfl; rfl) | left); all_goals ((try simp -implicitDefEqProofs (disch := omega) only [hli, hl, go_sem, ht]) <;> rfl)) (awake_matrix) ?_; rintro _ nx_1 - rfl hnx_1; simp -implicitDefEqProofs (disch := omega) only [hli, hl, go_sem, ht]); (refine pCall_vw (by refine ⟨⟨?_, ?_⟩, ?_, ?_⟩; rotate_left 2; (first | (right; rintro r rfl; rfl) | left); all_goals ((try simp -implicitDefEqProofs (disch := omega) only [hli, hl, go_sem, ht]) <;> rfl)) (hlr) ?_; rintro _ nx_2 - rfl hnx_2; simp -implicitDefEqProofs (disch := omega) only [hli, hl, go_sem, ht]); (refine pCall_vw (by refine ⟨⟨?_, ?_⟩, ?_, ?_⟩; rotate_left 2; (first | (right; rintro r rfl; rfl) | left); all_goals ((try simp -implicitDefEqProofs (disch := omega) only [hli, hl, go_sem, ht]) <;> rfl)) (hlw) ?_; rintro _ nx_3 - rfl hnx_3; simp -implicitDefEqProofs (disch := omega) only [hli, hl, go_sem, ht]))
    (refine end_treeW 0 ?_; simp -implicitDefEqProofs (disch := omega) only [go_sem, ht])
  have hli : ¬ ((1500 : Int) < (lenM m : Int) + (lenW v : Int)) := by omega
  have hft := fits_calls (m := m) (cn := cn) (by omega)
  by_cases hw : wrongM m cn = true
  · rw [hw, Bool.not_true] at hft
    refine PCalls.enter (n := 188) (rs := [.tmp 6]) (tb := [(12, [(0, []), (1, []), (2, []), (3, []), (4, []), (6, []), (7, []), (8, []), (9, []), (5, [0, 6, 7, 8, 9]), (10, [0, 1, 2, 3, 4]), (11, [0]), (12, [0]), (13, []), (14, [])]), (1000012, [(0, []), (0, []), (0, []), (6, []), (14, []), (30, []), (0, []), (0, []), (192, []), (448, []), (960, []), (2046, []), (4094, []), (8191, []), (16383, [])]), (28, [(0, []), (1, []), (2, []), (3, []), (4, []), (5, []), (6, []), (7, []), (9, []), (10, []), (11, []), (12, []), (8, [0, 9, 10, 11, 12]), (13, [0]), (14, []), (15, [])]), (1000028, [(0, []), (0, []), (0, []), (6, []), (14, []), (0, []), (62, []), (126, []), (254, []), (0, []), (0, []), (1536, []), (3584, []), (8190, []), (16383, []), (32767, [])]), (29, [(0, []), (1, []), (2, []), (3, []), (4, []), (5, [0]), (6, []), (7, [])])]) Try.func10 rfl rfl rfl (by kernel_rfl) (by kernel_rfl) (by simp) fun c hc ht => ?_
    simp -implicitDefEqProofs (disch := omega) only [go_sem, ht]
    ((refine pCall_vw (by refine ⟨⟨?_, ?_⟩, ?_, ?_⟩; rotate_left 2; (first | (right; rintro r rfl; rfl) | left); all_goals ((try simp -implicitDefEqProofs (disch := omega) only [hli, hl, go_sem, ht]) <;> rfl)) (awake_matrix) ?_; rintro _ nx_4 - rfl hnx_4; simp -implicitDefEqProofs (disch := omega) only [hli, hl, go_sem, ht]); (refine pCall_vw (by refine ⟨⟨?_, ?_⟩, ?_, ?_⟩; rotate_left 2; (first | (right; rintro r rfl; rfl) | left); all_goals ((try simp -implicitDefEqProofs (disch := omega) only [hli, hl, go_sem, ht]) <;> rfl)) (hlr) ?_; rintro _ nx_5 - rfl hnx_5; simp -implicitDefEqProofs (disch := omega) only [hli, hl, go_sem, ht]); (refine pCall_vw (by refine ⟨⟨?_, ?_⟩, ?_, ?_⟩; rotate_left 2; (first | (right; rintro r rfl; rfl) | left); all_goals ((try simp -implicitDefEqProofs (disch := omega) only [hli, hl, go_sem, ht]) <;> rfl)) (hlw) ?_; rintro _ nx_6 - rfl hnx_6; simp -implicitDefEqProofs (disch := omega) only [hli, hl, go_sem, ht]); (refine pCall_vw (by refine ⟨⟨?_, ?_⟩, ?_, ?_⟩; rotate_left 2; (first | (right; rintro r rfl; rfl) | left); all_goals ((try simp -implicitDefEqProofs (disch := omega) only [hli, hl, go_sem, ht]) <;> rfl)) (hft) ?_; rintro _ nx_7 - rfl hnx_7; simp -implicitDefEqProofs (disch := omega) only [hli, hl, go_sem, ht]))
    (refine end_treeW 0 ?_; simp -implicitDefEqProofs (disch := omega) only [go_sem, ht])
  have hw' : wrongM m cn = false := by simpa using hw
  rw [hw', Bool.not_false] at hft
  by_cases hrl : v.length = m.length
  case neg =>
    have hrl2 : ¬ ((v.length : Nat) : Int) = (m.length : Nat) := by omega
    refine PCalls.enter (n := 188) (rs := [.tmp 6]) (tb := [(12, [(0, []), (1, []), (2, []), (3, []), (4, []), (6, []), (7, []), (8, []), (9, []), (5, [0, 6, 7, 8, 9]), (10, [0, 1, 2, 3, 4]), (11, [0]), (12, [0]), (13, []), (14, [])]), (1000012, [(0, []), (0, []), (0, []), (6, []), (14, []), (30, []), (0, []), (0, []), (192, []), (448, []), (960, []), (2046, []), (4094, []), (8191, []), (16383, [])]), (28, [(0, []), (1, []), (2, []), (3, []), (4, []), (5, []), (6, []), (7, []), (9, []), (10, []), (11, []), (12, []), (8, [0, 9, 10, 11, 12]), (13, [0]), (14, []), (15, [])]), (1000028, [(0, []), (0, []), (0, []), (6, []), (14, []), (0, []), (62, []), (126, []), (254, []), (0, []), (0, []), (1536, []), (3584, []), (8190, []), (16383, []), (32767, [])]), (29, [(0, []), (1, []), (2, []), (3, []), (4, []), (5, [0]), (6, []), (7, [])])]) Try.func10 rfl rfl rfl (by kernel_rfl) (by kernel_rfl) (by simp) fun c hc ht => ?_
    simp -implicitDefEqProofs (disch := omega) only [go_sem, ht]
    ((refine pCall_vw (by refine ⟨⟨?_, ?_⟩, ?_, ?_⟩; rotate_left 2; (first | (right; rintro r rfl; rfl) | left); all_goals ((try simp -implicitDefEqProofs (disch := omega) only [hli, hl, hrl, hrl2, go_sem, ht]) <;> rfl)) (awake_matrix) ?_; rintro _ nx_8 - rfl hnx_8; simp -implicitDefEqProofs (disch := omega) only [hli, hl, hrl, hrl2, go_sem, ht]); (refine pCall_vw (by refine ⟨⟨?_, ?_⟩, ?_, ?_⟩; rotate_left 2; (first | (right; rintro r rfl; rfl) | left); all_goals ((try simp -implicitDefEqProofs (disch := omega) only [hli, hl, hrl, hrl2, go_sem, ht]) <;> rfl)) (hlr) ?_; rintro _ nx_9 - rfl hnx_9; simp -implicitDefEqProofs (disch := omega) only [hli, hl, hrl, hrl2, go_sem, ht]); (refine pCall_vw (by refine ⟨⟨?_, ?_⟩, ?_, ?_⟩; rotate_left 2; (first | (right; rintro r rfl; rfl) | left); all_goals ((try simp -implicitDefEqProofs (disch := omega) only [hli, hl, hrl, hrl2, go_sem, ht]) <;> rfl)) (hlw) ?_; rintro _ nx_10 - rfl hnx_10; simp -implicitDefEqProofs (disch := omega) only [hli, hl, hrl, hrl2, go_sem, ht]); (refine pCall_vw (by refine ⟨⟨?_, ?_⟩, ?_, ?_⟩; rotate_left 2; (first | (right; rintro r rfl; rfl) | left); all_goals ((try simp -implicitDefEqProofs (disch := omega) only [hli, hl, hrl, hrl2, go_sem, ht]) <;> rfl)) (hft) ?_; rintro _ nx_11 - rfl hnx_11; simp -implicitDefEqProofs (disch := omega) only [hli, hl, hrl, hrl2, go_sem, ht]))
    (refine end_treeW 0 ?_; simp -implicitDefEqProofs (disch := omega) only [go_sem, ht])
  by_cases hn32 : 32 ≤ cn
  · refine PCalls.enter (n := 188) (rs := [.tmp 6]) (tb := [(12, [(0, []), (1, []), (2, []), (3, []), (4, []), (6, []), (7, []), (8, []), (9, []), (5, [0, 6, 7, 8, 9]), (10, [0, 1, 2, 3, 4]), (11, [0]), (12, [0]), (13, []), (14, [])]), (1000012, [(0, []), (0, []), (0, []), (6, []), (14, []), (30, []), (0, []), (0, []), (192, []), (448, []), (960, []), (2046, []), (4094, []), (8191, []), (16383, [])]), (28, [(0, []), (1, []), (2, []), (3, []), (4, []), (5, []), (6, []), (7, []), (9, []), (10, []), (11, []), (12, []), (8, [0, 9, 10, 11, 12]), (13, [0]), (14, []), (15, [])]), (1000028, [(0, []), (0, []), (0, []), (6, []), (14, []), (0, []), (62, []), (126, []), (254, []), (0, []), (0, []), (1536, []), (3584, []), (8190, []), (16383, []), (32767, [])]), (29, [(0, []), (1, []), (2, []), (3, []), (4, []), (5, [0]), (6, []), (7, [])])]) Try.func10 rfl rfl rfl (by kernel_rfl) (by kernel_rfl) (by simp) fun c hc ht => ?_
    simp -implicitDefEqProofs (disch := omega) only [go_sem, ht]
    ((refine pCall_vw (by refine ⟨⟨?_, ?_⟩, ?_, ?_⟩; rotate_left 2; (first | (right; rintro r rfl; rfl) | left); all_goals ((try simp -implicitDefEqProofs (disch := omega) only [hli, hl, hrl, hn32, go_sem, ht]) <;> rfl)) (awake_matrix) ?_; rintro _ nx_12 - rfl hnx_12; simp -implicitDefEqProofs (disch := omega) only [hli, hl, hrl, hn32, go_sem, ht]); (refine pCall_vw (by refine ⟨⟨?_, ?_⟩, ?_, ?_⟩; rotate_left 2; (first | (right; rintro r rfl; rfl) | left); all_goals ((try simp -implicitDefEqProofs (disch := omega) only [hli, hl, hrl, hn32, go_sem, ht]) <;> rfl)) (hlr) ?_; rintro _ nx_13 - rfl hnx_13; simp -implicitDefEqProofs (disch := omega) only [hli, hl, hrl, hn32, go_sem, ht]); (refine pCall_vw (by refine ⟨⟨?_, ?_⟩, ?_, ?_⟩; rotate_left 2; (first | (right; rintro r rfl; rfl) | left); all_goals ((try simp -implicitDefEqProofs (disch := omega) only [hli, hl, hrl, hn32, go_sem, ht]) <;> rfl)) (hlw) ?_; rintro _ nx_14 - rfl hnx_14; simp -implicitDefEqProofs (disch := omega) only [hli, hl, hrl, hn32, go_sem, ht]); (refine pCall_vw (by refine ⟨⟨?_, ?_⟩, ?_, ?_⟩; rotate_left 2; (first | (right; rintro r rfl; rfl) | left); all_goals ((try simp -implicitDefEqProofs (disch := omega) only [hli, hl, hrl, hn32, go_sem, ht]) <;> rfl)) (hft) ?_; rintro _ nx_15 - rfl hnx_15; simp -implicitDefEqProofs (disch := omega) only [hli, hl, hrl, hn32, go_sem, ht]))
    (refine end_treeW 0 ?_; simp -implicitDefEqProofs (disch := omega) only [go_sem, ht])
  obtain ⟨n, rfl, hn, hm64, hlc⟩ := wrongM_false hw'
  have hMx : Mx m 1500 := ⟨hm, by omega, by omega⟩
  have hvR : Rn v 1500 := ⟨fun p hp => ⟨hv p hp, by have := lenW_mem hp; omega⟩, by omega⟩
  have hA : Mx (augL m v) 1500 := aug_mx hMx hvR hrl (by omega)
  have hac := aug_row hrl hlc
  have hal := augL_len hrl
  have hsol := solve_calls (r := v) (fun _ => hA) hm (by omega) (cn := (n : Nat))
  have hk := mrank_calls hMx (cn := (n : Nat))
  have hmo := mrank_calls hA (cn := ((n + 1 : Nat) : Int))
  have hwA : wrongM (augL m v) ((n + 1 : Nat) : Int) = false := decide_eq_false (by
    rintro (h | h | h | ⟨l, hl, hne⟩)
    · omega
    · omega
    · omega
    · exact hne (by rw [hac l hl]))
  have e1 : mRank m (n : Nat) = (((echW (m.map vals) n).2.length : Int), 0) := by unfold mRank; rw [hw', Int.toNat_natCast]; rfl
  have e2 : mRank (augL m v) ((n + 1 : Nat) : Int) = (((echW ((augL m v).map vals) (n + 1)).2.length : Int), 0) := by unfold mRank; rw [hwA, Int.toNat_natCast]; rfl
  rw [e1] at hk
  rw [e2, SM_def, hal] at hmo
  obtain ⟨hR1, s1, s2⟩ := echT_RE hMx hlc
  obtain ⟨hR2, s3, s4⟩ := echT_RE hA hac
  have hrank := (aug_Aug hrl hlc).rank hR1 s1 s2 hR2 s3 s4
  have hrows : ∀ i, i < m.length → rowsOf ((augL m v).map vals) (vc (((augL m v).map vals).getD i [])) := fun i hi => ⟨i, by simp [hal]; exact hi, rfl⟩
  have hent := (aug_Aug hrl hlc).ent
  have hlast := fun i (hi : i < m.length) => aug_last hrl hlc hi
  unfold mSol at hsol
  rw [hw', Bool.false_or, if_neg (by simp [hrl]), Int.toNat_natCast] at hsol
  clear e1 e2 hwA
  generalize echT ((augL m v).map vals) (n + 1) = T at *
  generalize (echW ((augL m v).map vals) (n + 1)).2 = P at *
  by_cases hnP : n ∈ P
  · rw [if_pos hnP] at hsol hrank
    rw [hrank] at hmo
    exact makes_B hlr hlw hl hft hrl (by omega) hlc hm64 hMx hvR hk hmo hsol
  · rw [if_neg hnP] at hsol hrank
    rw [hrank] at hmo
    by_cases hbig : ∃ c, c < n ∧ 32 < limQ (fv (solL T P n P.length) c)
    · rw [if_pos hbig] at hsol
      exact makes_A hlr hlw hl hft hrl (by omega) hlc hm64 hMx hvR hk hmo hsol
    · rw [if_neg hbig, SF_def, solL_len] at hsol
      have hP : ∀ i (hi : i < P.length), P.getD i 0 = P[i] := fun i hi => by simp [hi]
      have hx : ∀ c, Zq 32 (fv (solL T P n P.length) c) := fun c => by
        by_cases hc : c < n
        · have h2 : ¬ 32 < limQ (fv (solL T P n P.length) c) := fun h => hbig ⟨c, hc, h⟩
          unfold limQ at h2
          exact ⟨D_len_le.1 (by omega), D_len_le.1 (by omega)⟩
        · have : fv (solL T P n P.length) c = 0 := by
            unfold fv
            rw [List.getD_eq_getElem?_getD, List.getElem?_eq_none (by rw [solL_len]; omega)]; rfl
          rw [this]
          exact ⟨Z_zero, Nat.one_lt_pow (by omega) (by decide)⟩
      refine makes_C hlr hlw hl hft hrl (by omega) hlc hm64 hMx hvR hk hmo hsol (solL_len _) hx (fun i hi => ?_) ?_
      · have h1 := sol_row hR2 hnP (s4 _ (hrows i hi))
        rw [hlast i hi] at h1
        rw [← h1]
        refine sumQ_congr fun c hc => ?_
        have h2 := hent i (by simpa using hi) c hc
        rw [getD_vals hi] at h2
        rw [h2]
      · have h1 := cntQ_le (x := solL T P n P.length) (P := P) (fun c hc => Classical.byContradiction fun hno => hc (by
          rw [solL_no P.length fun i hi e => hno (by rw [← e, hP i hi]; exact List.getElem_mem hi)]; rfl)) n
        rw [← hrank]
        exact Nat.le_trans h1 List.countP_le_length
end
end Go.Proofs.Ytfjdfnlkobeehaa
open Go.ChangeShapes Go.WideShapes Go.ChangeAt Go.RowKit
namespace Go.Proofs.Ytfjdfnlkobeehaa
end Go.Proofs.Ytfjdfnlkobeehaa
end
