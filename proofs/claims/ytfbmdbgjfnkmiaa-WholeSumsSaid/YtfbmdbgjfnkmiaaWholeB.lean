/- Contracts on whole numbers, by value and size. -/
import Derived.Test.YtfbmdbgjfnkmiaaWhole6
set_option maxRecDepth 100000
set_option linter.unusedVariables false
set_option linter.unusedSimpArgs false
namespace Go.Proofs.Ytfbmdbgjfnkmiaa

/-- A number with its sign: its limbs, its value, its size. -/
structure Wn (b : Bool) (xs : List Nat) (x : Int) (k : Nat) : Prop where
  ok : Ok xs
  val : WV b xs = x
  z : Z k x
  len : xs.length ≤ k
  hk : k ≤ 1000000
theorem Wn.raw {b : Bool} {xs : List Nat} {k : Nat} (h : Lm xs) (hl : xs.length ≤ k) (hk : k ≤ 1000000) : Wn b xs (WV b xs) k := ⟨⟨h, by omega⟩, rfl, .V h hl, hl, hk⟩
theorem Wn.C {x : Int} {k : Nat} (h : Z k x) (hk : k ≤ 1000000) : Wn (decide (x < 0)) (D x.natAbs) x k := ⟨h.ok (by omega), WV_C x, h, h.len, hk⟩
theorem Wn.mono {b : Bool} {xs : List Nat} {x : Int} {k m : Nat} (h : Wn b xs x k) (hkm : k ≤ m) (hm : m ≤ 1000000) : Wn b xs x m := ⟨h.ok, h.val, h.z.mono hkm, Nat.le_trans h.len hkm, hm⟩
section
variable {b d : Bool} {xs ys : List Nat} {x y : Int} {k m : Nat}
theorem Wn.abs (p : Wn b xs x k) : V xs = x.natAbs := by rw [← p.val, WV_abs]
theorem addW (p : Wn b xs x k) (q : Wn d ys y k) : PT Try.prog 26 [WX b xs, WX d ys] (isV (WC (x + y))) := by
  have := p.hk
  exact wadd_v p.ok q.ok (by rw [p.abs, q.abs]; exact .D (lt_add p.z q.z) (by omega)) p.val q.val
theorem subW (p : Wn b xs x k) (q : Wn d ys y k) : PT Try.prog 28 [WX b xs, WX d ys] (isV (WC (x - y))) := by
  have := p.hk
  exact wsub_v p.ok q.ok (by rw [p.abs, q.abs]; exact .D (lt_add p.z q.z) (by omega)) p.val q.val
theorem mulW (p : Wn b xs x k) (q : Wn d ys y m) : PT Try.prog 31 [WX b xs, WX d ys] (isV (WC (x * y))) := by
  have := p.hk
  have := q.hk
  exact wmul_v p.ok q.ok (by rw [p.abs, q.abs]; exact .D (lt_mul p.z q.z) (by omega)) p.val q.val
theorem negW (p : Wn b xs x k) : PT Try.prog 25 [WX b xs] (isV (WC (-x))) := wneg_v p.ok p.val
theorem trimW (p : Wn b xs x k) : PT Try.prog 30 [WX b xs] (isV (WC x)) := wtrim_v p.ok p.val
theorem signW (p : Wn b xs x k) : PT Try.prog 27 [WX b xs] (isV (.val (.int .i64 (cZ x 0)))) := wsign_v p.ok p.val
theorem cmpW (p : Wn b xs x k) (q : Wn d ys y m) : PT Try.prog 24 [WX b xs, WX d ys] (isV (.val (.int .i64 (cZ x y)))) := wcmp_v p.ok q.ok p.val q.val
theorem textW (p : Wn b xs x k) : PT Try.prog 51 [WX b xs] (isV (.val (.string (wtxt x)))) := wtext_v p.ok p.val
theorem intW (p : Wn b xs x k) : PT Try.prog 33 [WX b xs] (isV (intP x)) := wint_v p.ok p.val
theorem limbsW (p : Wn b xs x k) : PT Try.prog 35 [WX b xs] (isV (.val (.int .i64 ((bl x.natAbs + 31) / 32 : Nat)))) := by
  rw [← p.abs]; exact wlimbs_calls p.ok
theorem gcdW (p : Wn b xs x k) (q : Wn d ys y m) : PT Try.prog 47 [WX b xs, WX d ys] (isV (WC (Int.gcd x y : Nat))) := by
  have := p.hk
  have := q.hk
  refine wgcd_v p.ok q.ok p.val q.val ?_
  by_cases h0 : x = 0
  · subst h0
    rw [Int.gcd_zero_left]
    exact q.z.ok (by omega)
  · exact (show Ok (D x.natAbs) from p.z.ok (by omega)) |> fun h => Ok_le h (Nat.le_of_dvd (by omega) (Nat.gcd_dvd_left _ _))
theorem divW (p : Wn b xs x k) (q : Wn d ys y m) (h0 : y ≠ 0) : PT Try.prog 46 [WX b xs, WX d ys] (isV (.tup [WC (x / y), WC (x % y), .val (.bool true)])) := by
  have := p.hk
  have := q.hk
  have := p.len
  have := q.len
  exact wdivmod_v p.ok q.ok (by omega) (by omega) p.val q.val h0
theorem divZ (p : Wn b xs x k) (q : Wn d ys 0 m) : PT Try.prog 46 [WX b xs, WX d ys] (isV (.tup [WC 0, WC 0, .val (.bool false)])) :=
  wdivmod_z p.ok q.ok (by rw [q.abs]; rfl)
end
theorem Z.div {k : Nat} {x y : Int} (hx : Z k x) : Z k (x / y) := Z.le hx (Int.natAbs_ediv_le_natAbs x y)
theorem Z.mod {k : Nat} {x y : Int} (hy : Z k y) (h0 : y ≠ 0) : Z k (x % y) := by
  have h1 := Int.emod_nonneg x h0
  have h2 := Int.emod_lt x h0
  exact Z.le hy (by omega)
theorem WC0 : WC 0 = .agg [.val (.bool false), .sl 0 []] := by rw [WC_def, SU_def]; simp [D_zero]
theorem same_nil {x : Int} (h : Ok (D x.natAbs)) : PT Try.prog 18 [WC x, .agg [.val (.bool false), .sl 0 []]] (isV (.val (.bool (decide (x = 0))))) := by
  have h0 := same_whole h (b := 0) ((Z2 (x := 0) (by decide)).ok (by omega))
  rwa [WC0] at h0
end Go.Proofs.Ytfbmdbgjfnkmiaa
