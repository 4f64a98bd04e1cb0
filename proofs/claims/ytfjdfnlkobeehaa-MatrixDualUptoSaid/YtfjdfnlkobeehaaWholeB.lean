/- The program's whole as contracts on values and sizes. -/
import Derived.Test.YtfjdfnlkobeehaaWholeA
set_option maxRecDepth 100000
set_option linter.unusedVariables false
set_option linter.unusedSimpArgs false
namespace Go.Proofs.Ytfjdfnlkobeehaa

/-- Numbers one behind the other, as they are read. -/
def SWc (l : List (Bool × List Nat)) : List PV := l.flatMap fun p => [.val (.bool p.1), SU p.2]
def SW (l : List (Bool × List Nat)) : PV := .sl l.length (SWc l)
theorem SW_def (l : List (Bool × List Nat)) : SW l = .sl l.length (SWc l) := rfl
theorem take_2c {α : Type} (a b : α) (l : List α) : (a :: b :: l).take 2 = [a, b] := rfl
theorem spl_60 {α : Type} (a b c d e f x y : α) : spl [a, b, c, d, e, f] 0 [x, y] = [x, y, c, d, e, f] := rfl
theorem spl_62 {α : Type} (a b c d e f x y : α) : spl [a, b, c, d, e, f] 2 [x, y] = [a, b, x, y, e, f] := rfl
theorem spl_64 {α : Type} (a b c d e f x y : α) : spl [a, b, c, d, e, f] 4 [x, y] = [a, b, c, d, x, y] := rfl
theorem SWc_nil : SWc [] = [] := rfl
attribute [go_sem] SW_def take_2c spl_60 spl_62 spl_64 SWc_nil
theorem SWc_len (l : List (Bool × List Nat)) : (SWc l).length = 2 * l.length := by
  induction l with
  | nil => rfl
  | cons p l ih => simp only [SWc, List.flatMap_cons, List.length_append, List.length_cons, List.length_nil] at *; omega
theorem SWc_cons (p : Bool × List Nat) (l : List (Bool × List Nat)) : SWc (p :: l) = .val (.bool p.1) :: SU p.2 :: SWc l := rfl
theorem SWc_flat (l : List (Bool × List Nat)) : flatL (SWc l) = true := by
  induction l with
  | nil => rfl
  | cons p l ih =>
    have h1 : flat (SU p.2) = true := flat_SU _
    have h2 : flat (PV.val (.bool p.1)) = true := rfl
    rw [SWc_cons]
    simp only [flatL, h1, h2, ih, Bool.and_self]
theorem SWc_drop : ∀ (l : List (Bool × List Nat)) (i : Nat), (SWc l).drop (i * 2) = SWc (l.drop i)
  | l, 0 => by simp
  | [], i + 1 => by simp [SWc]
  | p :: l, i + 1 => by
    rw [SWc_cons, show (i + 1) * 2 = i * 2 + 1 + 1 by omega, List.drop_succ_cons, List.drop_succ_cons, List.drop_succ_cons, SWc_drop l i]
theorem SWc_at {l : List (Bool × List Nat)} {i : Nat} (h : i < l.length) : (SWc l).drop (i * 2) = .val (.bool l[i].1) :: SU l[i].2 :: SWc (l.drop (i + 1)) := by
  rw [SWc_drop, List.drop_eq_getElem_cons h, SWc_cons]
/-- What they say together. -/
def sumW : List (Bool × List Nat) → Int
  | [] => 0
  | p :: l => WV p.1 p.2 + sumW l
theorem sumW_app (l m : List (Bool × List Nat)) : sumW (l ++ m) = sumW l + sumW m := by
  induction l with
  | nil => simp [sumW]
  | cons p l ih => simp only [List.cons_append, sumW, ih]; omega
theorem sumW_take {l : List (Bool × List Nat)} {i : Nat} (h : i < l.length) : sumW (l.take (i + 1)) = sumW (l.take i) + WV l[i].1 l[i].2 := by
  rw [List.take_succ_eq_append_getElem h, sumW_app]
  simp [sumW]
theorem sumW_Z {l : List (Bool × List Nat)} {K : Nat} (h : ∀ p ∈ l, Z K (WV p.1 p.2)) : ∀ i, i ≤ l.length → Z (K + i) (sumW (l.take i))
  | 0, _ => by simp only [List.take_zero, sumW]; unfold Z; exact Nat.pos_of_ne_zero (by simp)
  | i + 1, hi => by
    rw [sumW_take (by omega)]
    have h1 := sumW_Z h i (by omega)
    exact Z.add h1 ((h _ (List.getElem_mem _)).mono (Nat.le_add_right K i))

-- left out: whole.Sum
end Go.Proofs.Ytfjdfnlkobeehaa

namespace Go.Proofs.Ytfjdfnlkobeehaa

/-- A number with its sign: its limbs, its value, its size. -/
structure Wn (b : Bool) (xs : List Nat) (x : Int) (k : Nat) : Prop where
  ok : Ok xs
  val : WV b xs = x
  z : Z k x
  len : xs.length ≤ k
  hk : k ≤ 1000000
theorem Wn.raw {b : Bool} {xs : List Nat} {k : Nat} (h : Lm xs) (hl : xs.length ≤ k) (hk : k ≤ 1000000) : Wn b xs (WV b xs) k := ⟨⟨h, by omega⟩, rfl, .V h hl, hl, hk⟩
theorem Wn.C {x : Int} {k : Nat} (h : Z k x) (hk : k ≤ 1000000) : Wn (decide (x < 0)) (D x.natAbs) x k := ⟨h.ok (by omega), WV_C x, h, h.len, hk⟩
theorem Wn.mono {b : Bool} {xs : List Nat} {x : Int} {k m : Nat} (h : Wn b xs x k) (hkm : k ≤ m) (hm : m ≤ 1000000) : Wn b xs x m := ⟨h.ok, h.val, h.z.mono hkm, Nat.le_trans h.len hkm, hm⟩
section
variable {b d : Bool} {xs ys : List Nat} {x y : Int} {k m : Nat}
theorem Wn.abs (p : Wn b xs x k) : V xs = x.natAbs := by rw [← p.val, WV_abs]
theorem addW (p : Wn b xs x k) (q : Wn d ys y k) : PT Try.prog 16 [WX b xs, WX d ys] (isV (WC (x + y))) := by
  have := p.hk
  exact wadd_v p.ok q.ok (by rw [p.abs, q.abs]; exact .D (lt_add p.z q.z) (by omega)) p.val q.val
theorem subW (p : Wn b xs x k) (q : Wn d ys y k) : PT Try.prog 69 [WX b xs, WX d ys] (isV (WC (x - y))) := by
  have := p.hk
  exact wsub_v p.ok q.ok (by rw [p.abs, q.abs]; exact .D (lt_add p.z q.z) (by omega)) p.val q.val
theorem mulW (p : Wn b xs x k) (q : Wn d ys y m) : PT Try.prog 14 [WX b xs, WX d ys] (isV (WC (x * y))) := by
  have := p.hk
  have := q.hk
  exact wmul_v p.ok q.ok (by rw [p.abs, q.abs]; exact .D (lt_mul p.z q.z) (by omega)) p.val q.val
theorem negW (p : Wn b xs x k) : PT Try.prog 35 [WX b xs] (isV (WC (-x))) := wneg_v p.ok p.val
theorem trimW (p : Wn b xs x k) : PT Try.prog 34 [WX b xs] (isV (WC x)) := wtrim_v p.ok p.val
theorem signW (p : Wn b xs x k) : PT Try.prog 33 [WX b xs] (isV (.val (.int .i64 (cZ x 0)))) := wsign_v p.ok p.val
theorem cmpW (p : Wn b xs x k) (q : Wn d ys y m) : PT Try.prog 86 [WX b xs, WX d ys] (isV (.val (.int .i64 (cZ x y)))) := wcmp_v p.ok q.ok p.val q.val
-- left out: whole.Text
-- left out: whole.Int
theorem limbsW (p : Wn b xs x k) : PT Try.prog 36 [WX b xs] (isV (.val (.int .i64 ((bl x.natAbs + 31) / 32 : Nat)))) := by
  rw [← p.abs]; exact wlimbs_calls p.ok
theorem gcdW (p : Wn b xs x k) (q : Wn d ys y m) : PT Try.prog 79 [WX b xs, WX d ys] (isV (WC (Int.gcd x y : Nat))) := by
  have := p.hk
  have := q.hk
  refine wgcd_v p.ok q.ok p.val q.val ?_
  by_cases h0 : x = 0
  · subst h0
    rw [Int.gcd_zero_left]
    exact q.z.ok (by omega)
  · exact (show Ok (D x.natAbs) from p.z.ok (by omega)) |> fun h => Ok_le h (Nat.le_of_dvd (by omega) (Nat.gcd_dvd_left _ _))
theorem divW (p : Wn b xs x k) (q : Wn d ys y m) (h0 : y ≠ 0) : PT Try.prog 70 [WX b xs, WX d ys] (isV (.tup [WC (x / y), WC (x % y), .val (.bool true)])) := by
  have := p.hk
  have := q.hk
  have := p.len
  have := q.len
  exact wdivmod_v p.ok q.ok (by omega) (by omega) p.val q.val h0
theorem divZ (p : Wn b xs x k) (q : Wn d ys 0 m) : PT Try.prog 70 [WX b xs, WX d ys] (isV (.tup [WC 0, WC 0, .val (.bool false)])) :=
  wdivmod_z p.ok q.ok (by rw [q.abs]; rfl)
end
theorem Z.div {k : Nat} {x y : Int} (hx : Z k x) : Z k (x / y) := Z.le hx (Int.natAbs_ediv_le_natAbs x y)
theorem Z.mod {k : Nat} {x y : Int} (hy : Z k y) (h0 : y ≠ 0) : Z k (x % y) := by
  have h1 := Int.emod_nonneg x h0
  have h2 := Int.emod_lt x h0
  exact Z.le hy (by omega)
theorem WC0 : WC 0 = .agg [.val (.bool false), .sl 0 []] := by rw [WC_def, SU_def]; simp [D_zero]
theorem same_nil {x : Int} (h : Ok (D x.natAbs)) : PT Try.prog 32 [WC x, .agg [.val (.bool false), .sl 0 []]] (isV (.val (.bool (decide (x = 0))))) := by
  have h0 := same_whole h (b := 0) ((Z2 (x := 0) (by decide)).ok (by omega))
  rwa [WC0] at h0
end Go.Proofs.Ytfjdfnlkobeehaa
