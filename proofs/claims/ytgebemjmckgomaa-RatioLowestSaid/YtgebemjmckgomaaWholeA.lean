/- What the laws on whole numbers share: the first call, sizes, contracts by value. -/
import Derived.Test.YtgebemjmckgomaaWhole5
set_option maxRecDepth 100000
set_option linter.unusedVariables false
set_option linter.unusedSimpArgs false
namespace Go.Proofs.Ytgebemjmckgomaa

section
variable {b d : Bool} {xs ys : List Nat} {x y : Int}
theorem wtrim_v (hx : Ok xs) (ex : WV b xs = x) : PT Try.prog 25 [WX b xs] (isV (WC x)) := by subst ex; exact PWtree (wtrim_calls hx)
theorem wneg_v (hx : Ok xs) (ex : WV b xs = x) : PT Try.prog 64 [WX b xs] (isV (WC (-x))) := by subst ex; exact PWtree (wneg_calls hx)
theorem wmul_v (hx : Ok xs) (hy : Ok ys) (hp : Ok (D (V xs * V ys))) (ex : WV b xs = x) (ey : WV d ys = y) : PT Try.prog 27 [WX b xs, WX d ys] (isV (WC (x * y))) := by subst ex ey; exact PWtree (wmul_calls hx hy hp)
-- left out: whole.Gcd
theorem wsign_v (hx : Ok xs) (ex : WV b xs = x) : PT Try.prog 21 [WX b xs] (isV (.val (.int .i64 (cZ x 0)))) := by subst ex; exact wsign_calls hx
theorem wcmp_v (hx : Ok xs) (hy : Ok ys) (ex : WV b xs = x) (ey : WV d ys = y) : PT Try.prog 80 [WX b xs, WX d ys] (isV (.val (.int .i64 (cZ x y)))) := by subst ex ey; exact wcmp_calls hx hy
theorem wof_v (h0 : -9223372036854775808 ≤ x) (h1 : x ≤ 9223372036854775807) : PT Try.prog 56 [.val (.int .i64 x)] (isV (WC x)) := PWtree (wof_calls h0 h1)
theorem wdivmod_v (hx : Ok xs) (hy : Ok ys) (hxl : xs.length < 1099511627776) (hyl : ys.length < 1099511627776) (ex : WV b xs = x) (ey : WV d ys = y) (h0 : y ≠ 0) :
    PT Try.prog 83 [WX b xs, WX d ys] (isV (.tup [WC (x / y), WC (x % y), .val (.bool true)])) := by
  subst ex ey
  exact wdivmod_calls hx hy (fun h => h0 (by unfold WV; rw [h]; cases d <;> rfl)) hxl hyl
theorem wtext_v (hx : Ok xs) (ex : WV b xs = x) : PT Try.prog 103 [WX b xs] (isV (.val (.string (wtxt x)))) := by subst ex; exact wtext_calls hx
-- left out: whole.Int
end
theorem same_t {a b : Int} (ha : Ok (D a.natAbs)) (e : a = b) : PT Try.prog 24 [WC a, WC b] (isV (.val (.bool true))) := by
  subst e
  have := same_whole ha ha
  rwa [decide_eq_true rfl] at this
/-- A number of so many limbs. -/
def Z (k : Nat) (z : Int) : Prop := z.natAbs < 4294967296 ^ k
theorem Z.ok {k : Nat} {z : Int} (h : Z k z) (hk : k ≤ 1099511627776) : Ok (D z.natAbs) := .D h hk
theorem Z.len {k : Nat} {z : Int} (h : Z k z) : (D z.natAbs).length ≤ k := D_len_le.2 h
theorem Z.mono {k m : Nat} {z : Int} (h : Z k z) (hk : k ≤ m) : Z m z := lt_mono h hk
theorem Z.add {k : Nat} {x y : Int} (hx : Z k x) (hy : Z k y) : Z (k + 1) (x + y) := Nat.lt_of_le_of_lt (Int.natAbs_add_le x y) (lt_add hx hy)
theorem Z.neg {k : Nat} {x : Int} (hx : Z k x) : Z k (-x) := by unfold Z; rw [Int.natAbs_neg]; exact hx
theorem Z.sub {k : Nat} {x y : Int} (hx : Z k x) (hy : Z k y) : Z (k + 1) (x - y) := by rw [Int.sub_eq_add_neg]; exact hx.add hy.neg
theorem Z.mul {i j : Nat} {x y : Int} (hx : Z i x) (hy : Z j y) : Z (i + j) (x * y) := by unfold Z; rw [Int.natAbs_mul]; exact lt_mul hx hy
theorem Z.le {k : Nat} {x y : Int} (hx : Z k x) (h : y.natAbs ≤ x.natAbs) : Z k y := Nat.lt_of_le_of_lt h hx
theorem Z.V {b : Bool} {xs : List Nat} {k : Nat} (hx : Lm xs) (hk : xs.length ≤ k) : Z k (WV b xs) := by unfold Z; rw [WV_abs]; exact V_lt' hx hk
theorem Z.C {k : Nat} {z : Int} (h : Z k z) (hk : k ≤ 1099511627776) : Ok (D z.natAbs) := .D h hk
/-- Contracts over numbers as they are told. -/
theorem addC {k : Nat} {x y : Int} (hx : Z k x) (hy : Z k y) (hk : k < 1099511627776) : PT Try.prog 57 [WC x, WC y] (isV (WC (x + y))) :=
  wadd_v (hx.ok (by omega)) (hy.ok (by omega)) (by rw [V_D, V_D]; exact .D (lt_add hx hy) (by omega)) (WV_C x) (WV_C y)
theorem subC {k : Nat} {x y : Int} (hx : Z k x) (hy : Z k y) (hk : k < 1099511627776) : PT Try.prog 116 [WC x, WC y] (isV (WC (x - y))) :=
  wsub_v (hx.ok (by omega)) (hy.ok (by omega)) (by rw [V_D, V_D]; exact .D (lt_add hx hy) (by omega)) (WV_C x) (WV_C y)
theorem mulC {i j : Nat} {x y : Int} (hx : Z i x) (hy : Z j y) (hk : i + j < 1099511627776) : PT Try.prog 27 [WC x, WC y] (isV (WC (x * y))) :=
  wmul_v (hx.ok (by omega)) (hy.ok (by omega)) (by rw [V_D, V_D]; exact .D (lt_mul hx hy) (by omega)) (WV_C x) (WV_C y)
theorem negC {k : Nat} {x : Int} (hx : Z k x) (hk : k < 1099511627776) : PT Try.prog 64 [WC x] (isV (WC (-x))) := wneg_v (hx.ok (by omega)) (WV_C x)
theorem trimC {k : Nat} {x : Int} (hx : Z k x) (hk : k < 1099511627776) : PT Try.prog 25 [WC x] (isV (WC x)) := wtrim_v (hx.ok (by omega)) (WV_C x)
theorem signC {k : Nat} {x : Int} (hx : Z k x) (hk : k < 1099511627776) : PT Try.prog 21 [WC x] (isV (.val (.int .i64 (cZ x 0)))) := wsign_v (hx.ok (by omega)) (WV_C x)
theorem cmpC {k : Nat} {x y : Int} (hx : Z k x) (hy : Z k y) (hk : k < 1099511627776) : PT Try.prog 80 [WC x, WC y] (isV (.val (.int .i64 (cZ x y)))) := wcmp_v (hx.ok (by omega)) (hy.ok (by omega)) (WV_C x) (WV_C y)
theorem divmodC {k : Nat} {x y : Int} (hx : Z k x) (hy : Z k y) (hk : k < 1099511627776) (h0 : y ≠ 0) : PT Try.prog 83 [WC x, WC y] (isV (.tup [WC (x / y), WC (x % y), .val (.bool true)])) :=
  wdivmod_v (hx.ok (by omega)) (hy.ok (by omega)) (Nat.lt_of_le_of_lt hx.len hk) (Nat.lt_of_le_of_lt hy.len hk) (WV_C x) (WV_C y) h0
theorem sameC {k : Nat} {x y : Int} (hx : Z k x) (hy : Z k y) (hk : k < 1099511627776) : PT Try.prog 24 [WC x, WC y] (isV (.val (.bool (decide (x = y))))) := same_whole (hx.ok (by omega)) (hy.ok (by omega))
theorem sameT {k : Nat} {x y : Int} (hx : Z k x) (hk : k < 1099511627776) (e : x = y) : PT Try.prog 24 [WC x, WC y] (isV (.val (.bool true))) := same_t (hx.ok (by omega)) e

theorem Z2 {x : Int} (h : x.natAbs < 4294967296) : Z 1 x := by unfold Z; omega
-- left out: rafterlaw02.awake
-- left out: rafterlaw02.awake
end Go.Proofs.Ytgebemjmckgomaa
