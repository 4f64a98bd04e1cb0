/- What the laws on whole numbers share: the first call, sizes, contracts by value. -/
import Derived.Test.YtfbmdbgjfnkmiaaWhole5
set_option maxRecDepth 100000
set_option linter.unusedVariables false
set_option linter.unusedSimpArgs false
namespace Go.Proofs.Ytfbmdbgjfnkmiaa

section
variable {b d : Bool} {xs ys : List Nat} {x y : Int}
theorem wtrim_v (hx : Ok xs) (ex : WV b xs = x) : PT Try.prog 30 [WX b xs] (isV (WC x)) := by subst ex; exact PWtree (wtrim_calls hx)
theorem wneg_v (hx : Ok xs) (ex : WV b xs = x) : PT Try.prog 25 [WX b xs] (isV (WC (-x))) := by subst ex; exact PWtree (wneg_calls hx)
theorem wmul_v (hx : Ok xs) (hy : Ok ys) (hp : Ok (D (V xs * V ys))) (ex : WV b xs = x) (ey : WV d ys = y) : PT Try.prog 31 [WX b xs, WX d ys] (isV (WC (x * y))) := by subst ex ey; exact PWtree (wmul_calls hx hy hp)
theorem wgcd_v (hx : Ok xs) (hy : Ok ys) (ex : WV b xs = x) (ey : WV d ys = y) (hp : Ok (D (Int.gcd x y))) : PT Try.prog 47 [WX b xs, WX d ys] (isV (WC (Int.gcd x y : Nat))) := by
  have e : Int.gcd x y = Nat.gcd (V xs) (V ys) := by rw [Int.gcd, ← ex, ← ey, WV_abs, WV_abs]
  rw [e] at hp ⊢; exact PWtree (wgcd_calls hx hy hp)
theorem wsign_v (hx : Ok xs) (ex : WV b xs = x) : PT Try.prog 27 [WX b xs] (isV (.val (.int .i64 (cZ x 0)))) := by subst ex; exact wsign_calls hx
theorem wcmp_v (hx : Ok xs) (hy : Ok ys) (ex : WV b xs = x) (ey : WV d ys = y) : PT Try.prog 24 [WX b xs, WX d ys] (isV (.val (.int .i64 (cZ x y)))) := by subst ex ey; exact wcmp_calls hx hy
theorem wof_v (h0 : -9223372036854775808 ≤ x) (h1 : x ≤ 9223372036854775807) : PT Try.prog 29 [.val (.int .i64 x)] (isV (WC x)) := PWtree (wof_calls h0 h1)
theorem wdivmod_v (hx : Ok xs) (hy : Ok ys) (hxl : xs.length < 1099511627776) (hyl : ys.length < 1099511627776) (ex : WV b xs = x) (ey : WV d ys = y) (h0 : y ≠ 0) :
    PT Try.prog 46 [WX b xs, WX d ys] (isV (.tup [WC (x / y), WC (x % y), .val (.bool true)])) := by
  subst ex ey
  exact wdivmod_calls hx hy (fun h => h0 (by unfold WV; rw [h]; cases d <;> rfl)) hxl hyl
theorem wtext_v (hx : Ok xs) (ex : WV b xs = x) : PT Try.prog 51 [WX b xs] (isV (.val (.string (wtxt x)))) := by subst ex; exact wtext_calls hx
theorem wint_v (hx : Ok xs) (ex : WV b xs = x) : PT Try.prog 33 [WX b xs] (isV (intP x)) := by subst ex; exact wint_calls hx
end
theorem same_t {a b : Int} (ha : Ok (D a.natAbs)) (e : a = b) : PT Try.prog 18 [WC a, WC b] (isV (.val (.bool true))) := by
  subst e
  have := same_whole ha ha
  rwa [decide_eq_true rfl] at this
/-- A number of so many limbs. -/
def Z (k : Nat) (z : Int) : Prop := z.natAbs < 4294967296 ^ k
theorem Z.ok {k : Nat} {z : Int} (h : Z k z) (hk : k ≤ 1099511627776) : Ok (D z.natAbs) := .D h hk
theorem Z.len {k : Nat} {z : Int} (h : Z k z) : (D z.natAbs).length ≤ k := D_len_le.2 h
theorem Z.mono {k m : Nat} {z : Int} (h : Z k z) (hk : k ≤ m) : Z m z := lt_mono h hk
theorem Z.add {k : Nat} {x y : Int} (hx : Z k x) (hy : Z k y) : Z (k + 1) (x + y) := Nat.lt_of_le_of_lt (Int.natAbs_add_le x y) (lt_add hx hy)
theorem Z.neg {k : Nat} {x : Int} (hx : Z k x) : Z k (-x) := by unfold Z; rw [Int.natAbs_neg]; exact hx
theorem Z.sub {k : Nat} {x y : Int} (hx : Z k x) (hy : Z k y) : Z (k + 1) (x - y) := by rw [Int.sub_eq_add_neg]; exact hx.add hy.neg
theorem Z.mul {i j : Nat} {x y : Int} (hx : Z i x) (hy : Z j y) : Z (i + j) (x * y) := by unfold Z; rw [Int.natAbs_mul]; exact lt_mul hx hy
theorem Z.le {k : Nat} {x y : Int} (hx : Z k x) (h : y.natAbs ≤ x.natAbs) : Z k y := Nat.lt_of_le_of_lt h hx
theorem Z.V {b : Bool} {xs : List Nat} {k : Nat} (hx : Lm xs) (hk : xs.length ≤ k) : Z k (WV b xs) := by unfold Z; rw [WV_abs]; exact V_lt' hx hk
theorem Z.C {k : Nat} {z : Int} (h : Z k z) (hk : k ≤ 1099511627776) : Ok (D z.natAbs) := .D h hk
/-- Contracts over numbers as they are told. -/
theorem addC {k : Nat} {x y : Int} (hx : Z k x) (hy : Z k y) (hk : k < 1099511627776) : PT Try.prog 26 [WC x, WC y] (isV (WC (x + y))) :=
  wadd_v (hx.ok (by omega)) (hy.ok (by omega)) (by rw [V_D, V_D]; exact .D (lt_add hx hy) (by omega)) (WV_C x) (WV_C y)
theorem subC {k : Nat} {x y : Int} (hx : Z k x) (hy : Z k y) (hk : k < 1099511627776) : PT Try.prog 28 [WC x, WC y] (isV (WC (x - y))) :=
  wsub_v (hx.ok (by omega)) (hy.ok (by omega)) (by rw [V_D, V_D]; exact .D (lt_add hx hy) (by omega)) (WV_C x) (WV_C y)
theorem mulC {i j : Nat} {x y : Int} (hx : Z i x) (hy : Z j y) (hk : i + j < 1099511627776) : PT Try.prog 31 [WC x, WC y] (isV (WC (x * y))) :=
  wmul_v (hx.ok (by omega)) (hy.ok (by omega)) (by rw [V_D, V_D]; exact .D (lt_mul hx hy) (by omega)) (WV_C x) (WV_C y)
theorem negC {k : Nat} {x : Int} (hx : Z k x) (hk : k < 1099511627776) : PT Try.prog 25 [WC x] (isV (WC (-x))) := wneg_v (hx.ok (by omega)) (WV_C x)
theorem trimC {k : Nat} {x : Int} (hx : Z k x) (hk : k < 1099511627776) : PT Try.prog 30 [WC x] (isV (WC x)) := wtrim_v (hx.ok (by omega)) (WV_C x)
theorem signC {k : Nat} {x : Int} (hx : Z k x) (hk : k < 1099511627776) : PT Try.prog 27 [WC x] (isV (.val (.int .i64 (cZ x 0)))) := wsign_v (hx.ok (by omega)) (WV_C x)
theorem cmpC {k : Nat} {x y : Int} (hx : Z k x) (hy : Z k y) (hk : k < 1099511627776) : PT Try.prog 24 [WC x, WC y] (isV (.val (.int .i64 (cZ x y)))) := wcmp_v (hx.ok (by omega)) (hy.ok (by omega)) (WV_C x) (WV_C y)
theorem divmodC {k : Nat} {x y : Int} (hx : Z k x) (hy : Z k y) (hk : k < 1099511627776) (h0 : y ≠ 0) : PT Try.prog 46 [WC x, WC y] (isV (.tup [WC (x / y), WC (x % y), .val (.bool true)])) :=
  wdivmod_v (hx.ok (by omega)) (hy.ok (by omega)) (Nat.lt_of_le_of_lt hx.len hk) (Nat.lt_of_le_of_lt hy.len hk) (WV_C x) (WV_C y) h0
theorem sameC {k : Nat} {x y : Int} (hx : Z k x) (hy : Z k y) (hk : k < 1099511627776) : PT Try.prog 18 [WC x, WC y] (isV (.val (.bool (decide (x = y))))) := same_whole (hx.ok (by omega)) (hy.ok (by omega))
theorem sameT {k : Nat} {x y : Int} (hx : Z k x) (hk : k < 1099511627776) (e : x = y) : PT Try.prog 18 [WC x, WC y] (isV (.val (.bool true))) := same_t (hx.ok (by omega)) e

theorem Z2 {x : Int} (h : x.natAbs < 4294967296) : Z 1 x := by unfold Z; omega
theorem awake_wtxt : wtxt (-12) = ⟨#[45, 49, 50]⟩ := by
  have : digs 12 = [2, 1] := by
    iterate 2 rw [digs_pos (by decide)]
    simp [digs_zero]
  unfold wtxt
  rw [if_pos (by decide), show (-12 : Int).natAbs = 12 from rfl, txt_pos (by decide), this]
  rfl
theorem awake_whole : PT Try.prog 14 [] (isV (.val (.bool true))) := by
  have z7 : Z 1 (-7) := Z2 (by decide)
  have z2 : Z 1 2 := Z2 (by decide)
  have z4 : Z 1 (-4) := Z2 (by decide)
  have z1 : Z 1 1 := Z2 (by decide)
  have z12 : Z 1 (-12) := Z2 (by decide)
  have hd := divmodC z7 z2 (by omega) (by decide)
  rw [show (-7 : Int) / 2 = -4 by decide, show (-7 : Int) % 2 = 1 by decide] at hd
  have s4 := sameT z4 (by omega) (rfl : (-4 : Int) = -4)
  have s1 := sameT z1 (by omega) (rfl : (1 : Int) = 1)
  have t12 := wtext_v (z12.ok (by omega)) (WV_C _)
  rw [awake_wtxt] at t12
  have a7 := small_whole (v := -7) (by decide) (by decide)
  have a2 := small_whole (v := 2) (by decide) (by decide)
  have a4 := small_whole (v := -4) (by decide) (by decide)
  have a1 := small_whole (v := 1) (by decide) (by decide)
  have a12 := small_whole (v := -12) (by decide) (by decide)
  refine PCalls.enter (n := 27) (rs := [.tmp 0]) (tb := [(2, [(0, []), (1, []), (2, []), (3, [2]), (4, []), (5, []), (6, []), (7, []), (8, [7]), (9, []), (10, []), (11, []), (12, []), (13, []), (14, []), (15, []), (16, [])]), (1000002, [(0, []), (1, []), (3, []), (3, []), (15, []), (31, []), (63, []), (127, []), (127, []), (511, []), (1023, []), (2047, []), (4095, []), (8191, []), (16383, []), (32767, []), (65535, [])])]) Try.func14 rfl rfl rfl (by kernel_rfl) (by kernel_rfl) (by simp) fun c hc ht => ?_
  simp -implicitDefEqProofs (disch := omega) only [go_sem, ht, eq_self]
  (refine pCall_view (by simp -implicitDefEqProofs (disch := omega) only [go_sem, ht, eq_self] <;> rfl) (by simp -implicitDefEqProofs (disch := omega) only [go_sem, ht, eq_self]) (by first | (apply Or.inl; simp -implicitDefEqProofs (disch := omega) only [go_sem, ht, eq_self]; done) | (apply Or.inr; rintro r rfl; rfl)) (a7) ?_; rintro _ nx - rfl hnx; (try simp only [put_nx, withH_nx, begP_nx] at hnx); simp -implicitDefEqProofs (disch := omega) only [go_sem, ht, eq_self])
  (refine pCall_view (by simp -implicitDefEqProofs (disch := omega) only [go_sem, ht, eq_self] <;> rfl) (by simp -implicitDefEqProofs (disch := omega) only [go_sem, ht, eq_self]) (by first | (apply Or.inl; simp -implicitDefEqProofs (disch := omega) only [go_sem, ht, eq_self]; done) | (apply Or.inr; rintro r rfl; rfl)) (a2) ?_; rintro _ nx - rfl hnx; (try simp only [put_nx, withH_nx, begP_nx] at hnx); simp -implicitDefEqProofs (disch := omega) only [go_sem, ht, eq_self])
  (refine pCall_view (by simp -implicitDefEqProofs (disch := omega) only [go_sem, ht, eq_self] <;> rfl) (by simp -implicitDefEqProofs (disch := omega) only [go_sem, ht, eq_self]) (by first | (apply Or.inl; simp -implicitDefEqProofs (disch := omega) only [go_sem, ht, eq_self]; done) | (apply Or.inr; rintro r rfl; rfl)) (hd) ?_; rintro _ nx - rfl hnx; (try simp only [put_nx, withH_nx, begP_nx] at hnx); simp -implicitDefEqProofs (disch := omega) only [go_sem, ht, eq_self])
  (refine pCall_view (by simp -implicitDefEqProofs (disch := omega) only [go_sem, ht, eq_self] <;> rfl) (by simp -implicitDefEqProofs (disch := omega) only [go_sem, ht, eq_self]) (by first | (apply Or.inl; simp -implicitDefEqProofs (disch := omega) only [go_sem, ht, eq_self]; done) | (apply Or.inr; rintro r rfl; rfl)) (a4) ?_; rintro _ nx - rfl hnx; (try simp only [put_nx, withH_nx, begP_nx] at hnx); simp -implicitDefEqProofs (disch := omega) only [go_sem, ht, eq_self])
  (refine pCall_view (by simp -implicitDefEqProofs (disch := omega) only [go_sem, ht, eq_self] <;> rfl) (by simp -implicitDefEqProofs (disch := omega) only [go_sem, ht, eq_self]) (by first | (apply Or.inl; simp -implicitDefEqProofs (disch := omega) only [go_sem, ht, eq_self]; done) | (apply Or.inr; rintro r rfl; rfl)) (s4) ?_; rintro _ nx - rfl hnx; (try simp only [put_nx, withH_nx, begP_nx] at hnx); simp -implicitDefEqProofs (disch := omega) only [go_sem, ht, eq_self])
  (refine pCall_view (by simp -implicitDefEqProofs (disch := omega) only [go_sem, ht, eq_self] <;> rfl) (by simp -implicitDefEqProofs (disch := omega) only [go_sem, ht, eq_self]) (by first | (apply Or.inl; simp -implicitDefEqProofs (disch := omega) only [go_sem, ht, eq_self]; done) | (apply Or.inr; rintro r rfl; rfl)) (a1) ?_; rintro _ nx - rfl hnx; (try simp only [put_nx, withH_nx, begP_nx] at hnx); simp -implicitDefEqProofs (disch := omega) only [go_sem, ht, eq_self])
  (refine pCall_view (by simp -implicitDefEqProofs (disch := omega) only [go_sem, ht, eq_self] <;> rfl) (by simp -implicitDefEqProofs (disch := omega) only [go_sem, ht, eq_self]) (by first | (apply Or.inl; simp -implicitDefEqProofs (disch := omega) only [go_sem, ht, eq_self]; done) | (apply Or.inr; rintro r rfl; rfl)) (s1) ?_; rintro _ nx - rfl hnx; (try simp only [put_nx, withH_nx, begP_nx] at hnx); simp -implicitDefEqProofs (disch := omega) only [go_sem, ht, eq_self])
  (refine pCall_view (by simp -implicitDefEqProofs (disch := omega) only [go_sem, ht, eq_self] <;> rfl) (by simp -implicitDefEqProofs (disch := omega) only [go_sem, ht, eq_self]) (by first | (apply Or.inl; simp -implicitDefEqProofs (disch := omega) only [go_sem, ht, eq_self]; done) | (apply Or.inr; rintro r rfl; rfl)) (a12) ?_; rintro _ nx - rfl hnx; (try simp only [put_nx, withH_nx, begP_nx] at hnx); simp -implicitDefEqProofs (disch := omega) only [go_sem, ht, eq_self])
  (refine pCall_view (by simp -implicitDefEqProofs (disch := omega) only [go_sem, ht, eq_self] <;> rfl) (by simp -implicitDefEqProofs (disch := omega) only [go_sem, ht, eq_self]) (by first | (apply Or.inl; simp -implicitDefEqProofs (disch := omega) only [go_sem, ht, eq_self]; done) | (apply Or.inr; rintro r rfl; rfl)) (t12) ?_; rintro _ nx - rfl hnx; (try simp only [put_nx, withH_nx, begP_nx] at hnx); simp -implicitDefEqProofs (disch := omega) only [go_sem, ht, eq_self])
  (refine end_treeW 0 ?_; simp -implicitDefEqProofs (disch := omega) only [go_sem, ht, beq_self_eq_true, eq_self])
end Go.Proofs.Ytfbmdbgjfnkmiaa
