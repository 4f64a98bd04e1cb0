/- The program's exact: rows divided, cleared, turned. -/
import Derived.Test.YtfjdfnlkobeehaaEch
import Derived.Test.YtfjdfnlkobeehaaLawS
set_option maxRecDepth 100000
set_option linter.unusedVariables false
set_option linter.unusedSimpArgs false
namespace Go.Proofs.Ytfjdfnlkobeehaa

theorem nn3_sl (n : Nat) (cs : List PV) : nn3 (.sl n cs) = .sl n cs := rfl
attribute [go_sem] nn3_sl
/-- Numbers as they are told. -/
def toC (z : Int) : Bool × List Nat := (decide (z < 0), D z.natAbs)
def CZ (zs : List Int) : List (Bool × List Nat) := zs.map toC
theorem CZ_len (zs : List Int) : (CZ zs).length = zs.length := by simp [CZ]
theorem CZ_app (zs ws : List Int) : CZ (zs ++ ws) = CZ zs ++ CZ ws := by simp [CZ]
/-- What they say. -/
def vals (l : List (Bool × List Nat)) : List Int := l.map fun p => WV p.1 p.2
theorem vals_len (l : List (Bool × List Nat)) : (vals l).length = l.length := by simp [vals]
theorem vals_CZ (zs : List Int) : vals (CZ zs) = zs := by
  simp only [vals, CZ, List.map_map]
  conv => rhs; rw [← List.map_id zs]
  apply List.map_congr_left
  intro z _
  exact WV_C z
theorem vals_get {l : List (Bool × List Nat)} {i : Nat} (h : i < l.length) : vc (vals l) i = WV l[i].1 l[i].2 := by
  rw [vc_lt (by rw [vals_len]; exact h)]; simp [vals]
/-- Rows whose numbers have at most k limbs. -/
structure Rn (l : List (Bool × List Nat)) (k : Nat) : Prop where
  ok : ∀ p ∈ l, Lm p.2 ∧ p.2.length ≤ k
  hk : k ≤ 1000000
theorem Rn.wn {l : List (Bool × List Nat)} {k i : Nat} (h : Rn l k) (hi : i < l.length) : Wn l[i].1 l[i].2 (vc (vals l) i) k := by
  obtain ⟨h1, h2⟩ := h.ok _ (List.getElem_mem hi)
  rw [vals_get hi]
  exact Wn.raw h1 h2 h.hk
theorem Rn.C {zs : List Int} {k : Nat} (h : ∀ z ∈ zs, Z k z) (hk : k ≤ 1000000) : Rn (CZ zs) k := by
  refine ⟨fun p hp => ?_, hk⟩
  obtain ⟨z, hz, rfl⟩ := List.mem_map.1 hp
  exact ⟨Lm_D _, (h z hz).len⟩
theorem Rn.z {l : List (Bool × List Nat)} {k : Nat} (h : Rn l k) : ∀ z ∈ vals l, Z k z := by
  intro z hz
  obtain ⟨p, hp, rfl⟩ := List.mem_map.1 hz
  obtain ⟨h1, h2⟩ := h.ok p hp
  exact .V h1 h2
theorem Z.zero (k : Nat) : Z k 0 := by unfold Z; exact Nat.pos_of_ne_zero (by simp)
theorem gcdF_le {k : Nat} : ∀ {zs : List Int} {g : Nat}, Z k (g : Int) → (∀ z ∈ zs, Z k z) → Z k (gcdF g zs : Nat)
  | [], g, h, _ => h
  | z :: zs, g, h, hz => by
    rw [gcdF_cons]
    refine gcdF_le ?_ fun x hx => hz x (List.mem_cons_of_mem _ hx)
    by_cases h0 : g = 0
    · subst h0
      rw [Nat.gcd_zero_left]
      exact Z.le (hz z (List.mem_cons_self ..)) (by simp)
    · exact Z.le h (by simp only [Int.natAbs_natCast]; exact Nat.le_of_dvd (Nat.pos_of_ne_zero h0) (Nat.gcd_dvd_left _ _))
theorem gcdF_take {zs : List Int} {i : Nat} (h : i < zs.length) : gcdF 0 (zs.take (i + 1)) = Nat.gcd (gcdF 0 (zs.take i)) (zs[i]).natAbs := by
  rw [List.take_succ_eq_append_getElem h, gcdF_app]; rfl
theorem replW (n : Nat) : repl n [PV.val (.bool false), PV.val (.slice none 0 0)] = ((repl n [Value.bool false, Value.slice none 0 0]).map .val) := by
  unfold repl
  induction n with
  | zero => rfl
  | succ n ih => simp only [List.replicate_succ, List.flatten_cons, List.map_append, ih]; rfl
theorem repl_len {α : Type} (n : Nat) (l : List α) : (repl n l).length = n * l.length := by
  unfold repl
  induction n with
  | zero => simp
  | succ n ih => simp only [List.replicate_succ, List.flatten_cons, List.length_append, ih, Nat.succ_mul]; omega

/-- Each, over numbers. -/
theorem each_w {l : List (Bool × List Nat)} {zs : List Int} {f : FuncId} {caps : List PV} (hf : flatL caps = true) (hcv : ∀ H, caps.map (view H) = caps) (hlen : l.length ≤ 1000000) (hz : zs.length = l.length)
    (h : ∀ i (hi : i < l.length) (hi' : i < zs.length), PT Try.prog f (WX l[i].1 l[i].2 :: caps) (isV (WC zs[i]))) : PT Try.prog 68 [SW l, .fn f caps] (isV (SW (CZ zs))) := by
  have hrp := replW l.length
  have hrl := repl_len l.length [Value.bool false, Value.slice none 0 0]
  refine PCalls.enter (n := 25) (rs := [.tmp 4]) (tb := []) Try.func68 rfl rfl rfl (by kernel_rfl) (by kernel_rfl) (by simp) fun c hc ht => ?_
  simp -implicitDefEqProofs (disch := omega) only [go_sem, ht, eq_self]
  refine LW.loopW hc ht (by kernel_rfl) (fun t => t.sl 1 = .fn f caps ∧ t.sl 11 = .sl l.length (SWc l) ∧ t.sl 12 = .val (.int .i64 l.length) ∧ ∃ i : Nat, i ≤ l.length ∧ t.sl 13 = .val (.int .i64 i) ∧ ∃ (id cap : Nat) (rest : List Value), t.sl 5 = .ref id 0 i cap 2 ∧ t.H id = some (SWc ((CZ zs).take i) ++ rest.map .val) ∧ i * 2 + rest.length = cap * 2 ∧ id < t.nx)
    (fun t => match t.sl 13 with | .val (.int _ k) => l.length - k.toNat | _ => 0) ?_ ?_
  · simp -implicitDefEqProofs (disch := omega) only [go_sem, ht, eq_self]
    refine ⟨0, Nat.zero_le _, rfl, 0, l.length, repl l.length [Value.bool false, Value.slice none 0 0], rfl, ?_, by rw [hrl]; simp, by omega⟩
    rw [upd_self, hrp]; rfl
  · rintro t ⟨h1, h11, h12, i, hi, h13, id, cap, rest, h5, hH, hcap, hid⟩
    by_cases hil : i = l.length
    · subst hil
      have htk : (CZ zs).take l.length = CZ zs := List.take_of_length_le (by rw [CZ_len]; omega)
      rw [htk] at hH
      have hts := take_SWc (CZ zs) (rest.map .val) (n := l.length) (by rw [CZ_len]; omega)
      have hcl : l.length = (CZ zs).length := by rw [CZ_len]; omega
      have hcl2 := SWc_len (CZ zs)
      simp -implicitDefEqProofs (disch := omega) only [go_sem, ht, h1, h5, h11, h12, h13, eq_self]
      (refine end_treeW 2 ?_; simp -implicitDefEqProofs (disch := omega) only [go_sem, ht, hH, hts, eq_self])
      refine ⟨by omega, ?_⟩
      rw [← hcl]
    · have hlt : i < l.length := by omega
      have hlt' : i < (CZ zs).length := by rw [CZ_len]; omega
      have hat := SWc_at hlt
      have hel := h i hlt (by omega)
      have htk := SWc_take hlt'
      have e1 : (CZ zs)[i] = toC zs[i] := by simp [CZ]
      rw [e1] at htk
      simp only [toC] at htk
      have hln : (SWc ((CZ zs).take i)).length = 2 * i := by rw [SWc_len, List.length_take]; omega
      simp -implicitDefEqProofs (disch := omega) only [go_sem, ht, h1, h5, h11, h12, h13, hat, eq_self]
      refine ⟨f, caps, rfl, ?_⟩
      (refine pCall_view (by simp -implicitDefEqProofs (disch := omega) only [h1, h5, h11, h12, h13, hcv, hf, List.map_append, go_sem, ht, eq_self] <;> rfl) (by simp -implicitDefEqProofs (disch := omega) only [h1, h5, h11, h12, h13, hcv, hf, List.map_append, go_sem, ht, eq_self]) (by first | (apply Or.inl; simp -implicitDefEqProofs (disch := omega) only [h1, h5, h11, h12, h13, hcv, hf, List.map_append, go_sem, ht, eq_self]; done) | (apply Or.inr; rintro r rfl; rfl)) (hel) ?_; rintro _ nx - rfl hnx; (try simp only [put_nx, withH_nx, begP_nx] at hnx); simp -implicitDefEqProofs (disch := omega) only [h1, h5, h11, h12, h13, hcv, hf, List.map_append, go_sem, ht, eq_self])
      have hne : id ≠ nx := by omega
      (refine append_ownS (by simp -implicitDefEqProofs (disch := omega) only [srcP_ref, srcP_sl, srcP_nil, Option.isSome_some, hH, go_sem, ht, eq_self] <;> rfl) (by simp -implicitDefEqProofs (disch := omega) only [srcP_ref, srcP_sl, srcP_nil, Option.isSome_some, hH, go_sem, ht, eq_self] <;> rfl) (by simp -implicitDefEqProofs (disch := omega) only [srcP_ref, srcP_sl, srcP_nil, Option.isSome_some, hH, go_sem, ht, eq_self] <;> rfl) (by simp -implicitDefEqProofs (disch := omega) only [srcP_ref, srcP_sl, srcP_nil, Option.isSome_some, hH, go_sem, ht, eq_self] <;> rfl) (by simp -implicitDefEqProofs (disch := omega) only [srcP_ref, srcP_sl, srcP_nil, Option.isSome_some, hH, go_sem, ht, eq_self] <;> rfl) (by rfl) (by simp -implicitDefEqProofs (disch := omega) only [srcP_ref, srcP_sl, srcP_nil, Option.isSome_some, hH, go_sem, ht, eq_self] <;> rfl) (by simp -implicitDefEqProofs (disch := omega) only [srcP_ref, srcP_sl, srcP_nil, Option.isSome_some, hH, go_sem, ht, eq_self] <;> rfl) (by simp -implicitDefEqProofs (disch := omega) only [srcP_ref, srcP_sl, srcP_nil, Option.isSome_some, hH, go_sem, ht, eq_self] <;> rfl) (by first | omega | (simp <;> omega)) (by first | assumption | (simp <;> omega)) (by first | rfl | simp) (by first | omega | (simp <;> omega)) ?_; intro id1 cap1 rest1 H1 nx1 hH1 hcap1 hid1 hnx1 hfr1 hfs1; simp only [put_nx, withH_nx, put_H, withH_H] at hid1 hnx1 hfr1 hfs1)
      rw [htk] at hH1
      simp -implicitDefEqProofs (disch := omega) only [go_sem, ht, h1, h11, h12, h13, eq_self]
      exact ⟨⟨i + 1, by omega, rfl, id1, cap1, rest1, rfl, hH1, by omega, by omega⟩, by omega⟩

theorem Rn.take {l : List (Bool × List Nat)} {k i : Nat} (h : Rn l k) : Rn (l.take i) k := ⟨fun p hp => h.ok p (List.mem_of_mem_take hp), h.hk⟩
theorem vals_take (l : List (Bool × List Nat)) (i : Nat) : vals (l.take i) = (vals l).take i := by simp [vals, List.map_take]
theorem gcd_natAbs (g : Nat) (x : Int) : Int.gcd (g : Int) x = Nat.gcd g x.natAbs := by simp [Int.gcd]
/-- A number divided by the row's divisor. -/
theorem prim1_calls {b : Bool} {xs : List Nat} {x : Int} {k g : Nat} {cc : PV} (h : Wn b xs x k) (hg : Z k (g : Int)) (h0 : g = 0 → x = 0) (hf : flat cc = true) (ho : oneP cc = true) (ha : isAny cc = false) (hv : ∀ H, view1 H cc = .sl (D g).length ((D g).map U)) :
    PT Try.prog 119 [WX b xs, .rp [.val (.bool false), cc]] (isV (WC (x / (g : Int)))) := by
  by_cases hz : g = 0
  · subst hz
    have hx := h0 rfl
    subst hx
    have hd := divZ h (Wn.C (k := k) (x := 0) (Z.zero k) h.hk)
    rw [show decide ((0 : Int) < 0) = false from rfl, show Int.natAbs 0 = 0 from rfl] at hd
    rw [Int.zero_ediv]
    refine PCalls.enter (n := 15) (rs := [.cell 3 30]) (tb := []) Try.func119 rfl rfl rfl (by kernel_rfl) (by kernel_rfl) (by simp) fun c hc ht => ?_
    simp -implicitDefEqProofs (disch := omega) only [go_sem, ht, hf, ho, ha, hv, eq_self]
    (refine pCall_view (by simp -implicitDefEqProofs (disch := omega) only [hf, ho, ha, hv, go_sem, ht, eq_self] <;> rfl) (by simp -implicitDefEqProofs (disch := omega) only [hf, ho, ha, hv, go_sem, ht, eq_self]) (by first | (apply Or.inl; simp -implicitDefEqProofs (disch := omega) only [hf, ho, ha, hv, go_sem, ht, eq_self]; done) | (apply Or.inr; rintro r rfl; rfl)) (hd) ?_; rintro _ nx - rfl hnx; (try simp only [put_nx, withH_nx, begP_nx] at hnx); simp -implicitDefEqProofs (disch := omega) only [hf, ho, ha, hv, go_sem, ht, eq_self])
    (refine end_treeM 2 ?_; simp -implicitDefEqProofs (disch := omega) only [go_sem, ht, eq_self])
  · have hd := divW h (Wn.C hg h.hk) (by omega)
    rw [show decide ((g : Int) < 0) = false by simp, show Int.natAbs (g : Int) = g from rfl] at hd
    generalize x / (g : Int) = q at *
    generalize x % (g : Int) = r at *
    refine PCalls.enter (n := 15) (rs := [.cell 3 30]) (tb := []) Try.func119 rfl rfl rfl (by kernel_rfl) (by kernel_rfl) (by simp) fun c hc ht => ?_
    simp -implicitDefEqProofs (disch := omega) only [go_sem, ht, hf, ho, ha, hv, eq_self]
    (refine pCall_view (by simp -implicitDefEqProofs (disch := omega) only [hf, ho, ha, hv, go_sem, ht, eq_self] <;> rfl) (by simp -implicitDefEqProofs (disch := omega) only [hf, ho, ha, hv, go_sem, ht, eq_self]) (by first | (apply Or.inl; simp -implicitDefEqProofs (disch := omega) only [hf, ho, ha, hv, go_sem, ht, eq_self]; done) | (apply Or.inr; rintro r rfl; rfl)) (hd) ?_; rintro _ nx - rfl hnx; (try simp only [put_nx, withH_nx, begP_nx] at hnx); simp -implicitDefEqProofs (disch := omega) only [hf, ho, ha, hv, go_sem, ht, eq_self])
    (refine end_treeM 2 ?_; simp -implicitDefEqProofs (disch := omega) only [go_sem, ht, eq_self])
theorem primitive_calls {l : List (Bool × List Nat)} {k : Nat} (h : Rn l k) (hlen : l.length ≤ 1000000) : PT Try.prog 90 [SW l] (isV (SW (CZ (primZ (vals l))))) := by
  have hgz : ∀ i, Z k (gcdF 0 ((vals l).take i) : Nat) := fun i => gcdF_le (Z.zero k) fun z hz => h.z z (List.mem_of_mem_take hz)
  have heach : ∀ cc : PV, flat cc = true → oneP cc = true → isAny cc = false → (∀ H, view1 H cc = .sl (D (gcdL (vals l))).length ((D (gcdL (vals l))).map U)) → PT Try.prog 68 [SW l, .fn 119 [.rp [.val (.bool false), cc]]] (isV (SW (CZ (primZ (vals l))))) := by
    intro cc hf ho ha hv
    refine each_w (by simp [flatL, flat, hf]) (fun H => rfl) hlen (by rw [primZ_len, vals_len]) fun i hi hi' => ?_
    have hw := h.wn hi
    have hg := hgz (vals l).length
    rw [List.take_length] at hg
    have := prim1_calls (g := gcdL (vals l)) hw hg (fun h0 => by
      rw [vc_lt (by rw [vals_len]; exact hi)]
      exact gcdL_zero.1 h0 _ (List.getElem_mem _)) hf ho ha hv
    rw [vc_lt (by rw [vals_len]; exact hi)] at this
    have e : (primZ (vals l))[i] = (vals l)[i]'(by rw [vals_len]; exact hi) / (gcdL (vals l) : Nat) := by simp only [primZ, List.getElem_map]
    rw [e]
    exact this
  refine PCalls.enter (n := 20) (rs := [.tmp 2]) (tb := []) Try.func90 rfl rfl rfl (by kernel_rfl) (by kernel_rfl) (by simp) fun c hc ht => ?_
  simp -implicitDefEqProofs (disch := omega) only [go_sem, ht, eq_self]
  refine LW.loopG hc ht (by kernel_rfl) (fun t => t.sl 0 = .sl l.length (SWc l) ∧ t.sl 3 = .ptr 0 0 ∧ t.sl 7 = .sl l.length (SWc l) ∧ t.sl 8 = .val (.int .i64 l.length) ∧ 0 < t.nx ∧ ∃ i : Nat, i ≤ l.length ∧ t.sl 9 = .val (.int .i64 i) ∧ ∃ c, t.H 0 = some [.val (.bool false), c] ∧ flat c = true ∧ oneP c = true ∧ isAny c = false ∧ (∀ H, view1 H c = .sl (D (gcdF 0 ((vals l).take i))).length ((D (gcdF 0 ((vals l).take i))).map U)))
    (fun t => match t.sl 9 with | .val (.int _ k) => l.length - k.toNat | _ => 0) ?_ ?_
  · simp -implicitDefEqProofs (disch := omega) only [go_sem, ht, eq_self]
    refine ⟨0, Nat.zero_le _, rfl, .val (.slice none 0 0), rfl, rfl, rfl, rfl, fun H => ?_⟩
    rw [List.take_zero, gcdF_nil, D_zero]; rfl
  · rintro t ⟨h0, h3, h7, h8, hnx, i, hi, h9, cc, hH, hf, ho, ha, hv⟩
    by_cases hil : i = l.length
    · subst hil
      have e1 : (vals l).take l.length = vals l := List.take_of_length_le (by rw [vals_len]; omega)
      rw [e1] at hv
      have hea := heach cc hf ho ha hv
      refine ⟨_, Gh.frzW 3 1 (q := .rp [.val (.bool false), cc]) (by simp -implicitDefEqProofs (disch := omega) only [go_sem, ht, h3, hH, hf, eq_self]), ?_⟩
      simp -implicitDefEqProofs (disch := omega) only [go_sem, ht, h0, h3, h7, h8, h9, eq_self]
      (refine pCall_view (by simp -implicitDefEqProofs (disch := omega) only [hf, go_sem, ht, eq_self] <;> rfl) (by simp -implicitDefEqProofs (disch := omega) only [hf, go_sem, ht, eq_self]) (by first | (apply Or.inl; simp -implicitDefEqProofs (disch := omega) only [hf, go_sem, ht, eq_self]; done) | (apply Or.inr; rintro r rfl; rfl)) (hea) ?_; rintro _ nx - rfl hnx; (try simp only [put_nx, withH_nx, begP_nx] at hnx); simp -implicitDefEqProofs (disch := omega) only [hf, go_sem, ht, eq_self])
      (refine end_treeM 2 ?_; simp -implicitDefEqProofs (disch := omega) only [go_sem, ht, eq_self])
    · have hlt : i < l.length := by omega
      have hat := SWc_at hlt
      have hw := h.wn hlt
      have hg := gcdW (Wn.C (hgz i) h.hk) hw
      have hst := gcdF_take (zs := vals l) (i := i) (by rw [vals_len]; exact hlt)
      rw [show decide (((gcdF 0 ((vals l).take i) : Nat) : Int) < 0) = false by simp, show Int.natAbs ((gcdF 0 ((vals l).take i) : Nat) : Int) = gcdF 0 ((vals l).take i) from rfl, gcd_natAbs, vc_lt (by rw [vals_len]; exact hlt), ← hst] at hg
      have hsg : decide (((gcdF 0 ((vals l).take (i + 1)) : Nat) : Int) < 0) = false := by simp
      obtain ⟨g2, e2⟩ : ∃ g2, gcdF 0 ((vals l).take (i + 1)) = g2 := ⟨_, rfl⟩
      rw [e2] at hg hsg
      clear hst
      generalize gcdF 0 ((vals l).take i) = g1 at *
      have eg : WC (g2 : Int) = .agg [.val (.bool false), .sl (D g2).length ((D g2).map U)] := by
        rw [WC_def, hsg]; rfl
      rw [eg] at hg
      refine ⟨t, Gh.refl t, ?_⟩
      simp -implicitDefEqProofs (disch := omega) only [go_sem, ht, h0, h3, h7, h8, h9, hat, hH, ho, ha, eq_self]
      (refine pCall_view (by simp -implicitDefEqProofs (disch := omega) only [h0, h3, h7, h8, h9, hat, hH, hf, ho, ha, hv, go_sem, ht, eq_self] <;> rfl) (by simp -implicitDefEqProofs (disch := omega) only [h0, h3, h7, h8, h9, hat, hH, hf, ho, ha, hv, go_sem, ht, eq_self]) (by first | (apply Or.inl; simp -implicitDefEqProofs (disch := omega) only [h0, h3, h7, h8, h9, hat, hH, hf, ho, ha, hv, go_sem, ht, eq_self]; done) | (apply Or.inr; rintro r rfl; rfl)) (hg) ?_; rintro _ nx - rfl hnx; (try simp only [put_nx, withH_nx, begP_nx] at hnx); simp -implicitDefEqProofs (disch := omega) only [h0, h3, h7, h8, h9, hat, hH, hf, ho, ha, hv, go_sem, ht, eq_self])
      refine ⟨⟨by omega, i + 1, by omega, rfl, .sl (D g2).length ((D g2).map U), rfl, flatL_U _, rfl, rfl, fun H => ?_⟩, by omega⟩
      rw [e2]; rfl

theorem Z.gcd {k : Nat} {x y : Int} (hx : Z k x) (hy : Z k y) : Z k (Int.gcd x y : Nat) := by
  by_cases h0 : x = 0
  · subst h0
    rw [Int.gcd_zero_left]
    exact Z.le hy (by simp)
  · refine Z.le hx ?_
    rw [Int.natAbs_natCast]
    exact Nat.le_of_dvd (by omega) (Nat.gcd_dvd_left _ _)
theorem combZ_take {a b : Int} {z p : List Int} {i : Nat} (hi : i < z.length) (hp : i < p.length) : (combZ a b z p).take (i + 1) = (combZ a b z p).take i ++ [a * z[i] - b * p[i]] := by
  rw [List.take_succ_eq_append_getElem (by simp [combZ]; omega)]
  simp [combZ]
theorem spl_W {l : List (Bool × List Nat)} {rest : List PV} {i : Nat} {x y : PV} (hi : i * 2 = (SWc l).length) : spl (SWc l ++ rest) (i * 2) [x, y] = SWc l ++ [x, y] ++ rest.drop 2 := by
  unfold spl
  rw [hi, List.take_left, List.drop_append]
  simp
/-- A row less a multiple of the pivot's, in a list of our own. -/
theorem clear_calls {l p : List (Bool × List Nat)} {k c : Nat} (h : Rn l k) (hp : Rn p k) (hlp : l.length = p.length) (hc0 : c < l.length) (hlen : l.length ≤ 1000000) (hk : 2 * k + 1 ≤ 1000000) :
    PT Try.prog 91 [SW l, SW p, .val (.int .i64 c)] (isV (SW (if vc (vals l) c = 0 then l else CZ (clearZ (vals l) (vals p) c)))) := by
  have hat := SWc_at hc0
  have hat' := SWc_at (show c < p.length by omega)
  have w1 := h.wn hc0
  have w2 := hp.wn (show c < p.length by omega)
  have sg := signW w1
  by_cases h0 : vc (vals l) c = 0
  · rw [if_pos h0]
    rw [h0, cZ_eq rfl] at sg
    refine PCalls.enter (n := 79) (rs := [.tmp 6]) (tb := [(3, [(0, []), (1, []), (2, []), (3, []), (4, []), (5, []), (6, []), (7, []), (8, []), (9, [0, 1, 2, 3, 4, 5, 6, 7]), (10, [])]), (4, [(0, []), (1, []), (2, []), (3, []), (4, []), (5, []), (6, []), (7, []), (8, []), (9, []), (10, [0, 1, 2, 3, 4, 6, 7, 8, 9]), (11, [0, 1, 2, 3, 4, 6, 7, 8, 9]), (12, [8, 9]), (13, [9]), (14, [])]), (1000004, [(0, []), (0, []), (3, []), (7, []), (0, []), (31, []), (63, []), (127, []), (127, []), (127, []), (0, []), (0, []), (3327, []), (7679, []), (16383, [])]), (5, [(0, []), (1, []), (2, []), (3, []), (4, []), (5, []), (6, []), (7, []), (8, []), (9, []), (10, [0, 1, 2, 3, 4, 6, 7, 8, 9]), (11, [0, 1, 2, 3, 4, 6, 7, 8, 9]), (12, [8, 9]), (13, [9]), (14, [])]), (1000005, [(0, []), (0, []), (3, []), (7, []), (0, []), (31, []), (63, []), (127, []), (127, []), (127, []), (0, []), (0, []), (3327, []), (7679, []), (16383, [])]), (10, [(0, []), (1, []), (2, []), (3, []), (4, []), (5, []), (6, []), (8, []), (9, []), (10, []), (11, []), (12, []), (7, [0, 1, 8, 9, 10, 11, 12]), (13, [0, 1]), (14, [0, 1]), (15, []), (16, [])]), (1000010, [(0, []), (0, []), (0, []), (0, []), (0, []), (24, []), (56, []), (124, []), (0, []), (0, []), (0, []), (1536, []), (3584, []), (8188, []), (16380, []), (32767, []), (65535, [])])]) Try.func91 rfl rfl rfl (by kernel_rfl) (by kernel_rfl) (by simp) fun c hc ht => ?_
    simp -implicitDefEqProofs (disch := omega) only [go_sem, ht, hat, eq_self]
    (refine pCall_view (by simp -implicitDefEqProofs (disch := omega) only [hat, go_sem, ht, eq_self] <;> rfl) (by simp -implicitDefEqProofs (disch := omega) only [hat, go_sem, ht, eq_self]) (by first | (apply Or.inl; simp -implicitDefEqProofs (disch := omega) only [hat, go_sem, ht, eq_self]; done) | (apply Or.inr; rintro r rfl; rfl)) (sg) ?_; rintro _ nx - rfl hnx; (try simp only [put_nx, withH_nx, begP_nx] at hnx); simp -implicitDefEqProofs (disch := omega) only [hat, go_sem, ht, eq_self])
    (refine end_treeM 2 ?_; simp -implicitDefEqProofs (disch := omega) only [go_sem, ht, eq_self])
  rw [if_neg h0]
  have hs0 : cZ (vc (vals l) c) 0 ≠ 0 := by unfold cZ; split <;> (try split) <;> omega
  have hcl : clearZ (vals l) (vals p) c = primZ (combZ (vc (vals p) c / (Int.gcd (vc (vals l) c) (vc (vals p) c) : Nat)) (vc (vals l) c / (Int.gcd (vc (vals l) c) (vc (vals p) c) : Nat)) (vals l) (vals p)) := by rw [clearZ, if_neg h0]
  rw [hcl]
  have gc := gcdW w1 w2
  have zg := w1.z.gcd w2.z
  have hg0 : ((Int.gcd (vc (vals l) c) (vc (vals p) c) : Nat) : Int) ≠ 0 := by
    have := Int.gcd_pos_of_ne_zero_left (vc (vals p) c) h0
    omega
  have wg := Wn.C zg h.hk
  have d1 := divW w2 wg hg0
  have d2 := divW w1 wg hg0
  have za : Z k (vc (vals p) c / (Int.gcd (vc (vals l) c) (vc (vals p) c) : Nat)) := w2.z.div
  have zb : Z k (vc (vals l) c / (Int.gcd (vc (vals l) c) (vc (vals p) c) : Nat)) := w1.z.div
  clear hcl hg0 wg zg w1 w2
  generalize vc (vals p) c / ((Int.gcd (vc (vals l) c) (vc (vals p) c) : Nat) : Int) = a at *
  generalize vc (vals l) c / ((Int.gcd (vc (vals l) c) (vc (vals p) c) : Nat) : Int) = b at *
  generalize vc (vals p) c % ((Int.gcd (vc (vals l) c) (vc (vals p) c) : Nat) : Int) = ra at *
  generalize vc (vals l) c % ((Int.gcd (vc (vals l) c) (vc (vals p) c) : Nat) : Int) = rb at *
  generalize ((Int.gcd (vc (vals l) c) (vc (vals p) c) : Nat) : Int) = g at *
  generalize cZ (vc (vals l) c) 0 = sc at *
  have zc : ∀ z ∈ combZ a b (vals l) (vals p), Z (2 * k + 1) z := fun z hz => by
    obtain ⟨i, hi, rfl⟩ := List.mem_iff_getElem.1 hz
    have hi' : i < l.length := by simp [combZ, vals_len] at hi; omega
    have z1 := h.z _ (List.getElem_mem (show i < (vals l).length by rw [vals_len]; exact hi'))
    have z2 := hp.z _ (List.getElem_mem (show i < (vals p).length by rw [vals_len]; omega))
    simp only [combZ, List.getElem_zipWith]
    have := (za.mul z1).sub (zb.mul z2)
    exact this.mono (by omega)
  have prm := primitive_calls (l := CZ (combZ a b (vals l) (vals p))) (k := 2 * k + 1) (.C zc hk) (by rw [CZ_len, combZ_len (by rw [vals_len, vals_len]; exact hlp), vals_len]; exact hlen)
  rw [vals_CZ] at prm
  have hrp := replW l.length
  have hrl := repl_len l.length [Value.bool false, Value.slice none 0 0]
  have hcl : (combZ a b (vals l) (vals p)).length = l.length := by rw [combZ_len (by rw [vals_len, vals_len]; exact hlp), vals_len]
  refine PCalls.enter (n := 79) (rs := [.tmp 6]) (tb := [(3, [(0, []), (1, []), (2, []), (3, []), (4, []), (5, []), (6, []), (7, []), (8, []), (9, [0, 1, 2, 3, 4, 5, 6, 7]), (10, [])]), (4, [(0, []), (1, []), (2, []), (3, []), (4, []), (5, []), (6, []), (7, []), (8, []), (9, []), (10, [0, 1, 2, 3, 4, 6, 7, 8, 9]), (11, [0, 1, 2, 3, 4, 6, 7, 8, 9]), (12, [8, 9]), (13, [9]), (14, [])]), (1000004, [(0, []), (0, []), (3, []), (7, []), (0, []), (31, []), (63, []), (127, []), (127, []), (127, []), (0, []), (0, []), (3327, []), (7679, []), (16383, [])]), (5, [(0, []), (1, []), (2, []), (3, []), (4, []), (5, []), (6, []), (7, []), (8, []), (9, []), (10, [0, 1, 2, 3, 4, 6, 7, 8, 9]), (11, [0, 1, 2, 3, 4, 6, 7, 8, 9]), (12, [8, 9]), (13, [9]), (14, [])]), (1000005, [(0, []), (0, []), (3, []), (7, []), (0, []), (31, []), (63, []), (127, []), (127, []), (127, []), (0, []), (0, []), (3327, []), (7679, []), (16383, [])]), (10, [(0, []), (1, []), (2, []), (3, []), (4, []), (5, []), (6, []), (8, []), (9, []), (10, []), (11, []), (12, []), (7, [0, 1, 8, 9, 10, 11, 12]), (13, [0, 1]), (14, [0, 1]), (15, []), (16, [])]), (1000010, [(0, []), (0, []), (0, []), (0, []), (0, []), (24, []), (56, []), (124, []), (0, []), (0, []), (0, []), (1536, []), (3584, []), (8188, []), (16380, []), (32767, []), (65535, [])])]) Try.func91 rfl rfl rfl (by kernel_rfl) (by kernel_rfl) (by simp) fun c hc ht => ?_
  simp -implicitDefEqProofs (disch := omega) only [go_sem, ht, hat, eq_self]
  ((refine pCall_view (by simp -implicitDefEqProofs (disch := omega) only [hat, hat', go_sem, ht, eq_self] <;> rfl) (by simp -implicitDefEqProofs (disch := omega) only [hat, hat', go_sem, ht, eq_self]) (by first | (apply Or.inl; simp -implicitDefEqProofs (disch := omega) only [hat, hat', go_sem, ht, eq_self]; done) | (apply Or.inr; rintro r rfl; rfl)) (sg) ?_; rintro _ nx_1 - rfl hnx_1; (try simp only [put_nx, withH_nx, begP_nx] at hnx_1); simp -implicitDefEqProofs (disch := omega) only [hat, hat', go_sem, ht, eq_self]); (refine pCall_view (by simp -implicitDefEqProofs (disch := omega) only [hat, hat', go_sem, ht, eq_self] <;> rfl) (by simp -implicitDefEqProofs (disch := omega) only [hat, hat', go_sem, ht, eq_self]) (by first | (apply Or.inl; simp -implicitDefEqProofs (disch := omega) only [hat, hat', go_sem, ht, eq_self]; done) | (apply Or.inr; rintro r rfl; rfl)) (gc) ?_; rintro _ nx_2 - rfl hnx_2; (try simp only [put_nx, withH_nx, begP_nx] at hnx_2); simp -implicitDefEqProofs (disch := omega) only [hat, hat', go_sem, ht, eq_self]); (refine pCall_view (by simp -implicitDefEqProofs (disch := omega) only [hat, hat', go_sem, ht, eq_self] <;> rfl) (by simp -implicitDefEqProofs (disch := omega) only [hat, hat', go_sem, ht, eq_self]) (by first | (apply Or.inl; simp -implicitDefEqProofs (disch := omega) only [hat, hat', go_sem, ht, eq_self]; done) | (apply Or.inr; rintro r rfl; rfl)) (d1) ?_; rintro _ nx_3 - rfl hnx_3; (try simp only [put_nx, withH_nx, begP_nx] at hnx_3); simp -implicitDefEqProofs (disch := omega) only [hat, hat', go_sem, ht, eq_self]); (refine pCall_view (by simp -implicitDefEqProofs (disch := omega) only [hat, hat', go_sem, ht, eq_self] <;> rfl) (by simp -implicitDefEqProofs (disch := omega) only [hat, hat', go_sem, ht, eq_self]) (by first | (apply Or.inl; simp -implicitDefEqProofs (disch := omega) only [hat, hat', go_sem, ht, eq_self]; done) | (apply Or.inr; rintro r rfl; rfl)) (d2) ?_; rintro _ nx_4 - rfl hnx_4; (try simp only [put_nx, withH_nx, begP_nx] at hnx_4); simp -implicitDefEqProofs (disch := omega) only [hat, hat', go_sem, ht, eq_self]))
  generalize nx_4 = n4 at *
  refine LW.loopW hc ht (by kernel_rfl) (fun t => t.sl 0 = .sl l.length (SWc l) ∧ t.sl 1 = .sl p.length (SWc p) ∧ t.sl 8 = .ptr nx_3 0 ∧ t.sl 11 = .ptr n4 0 ∧ t.sl 14 = .ref (n4 + 1 + 1) 0 l.length l.length 2 ∧ t.sl 56 = .val (.int .i64 l.length) ∧ n4 + 1 + 1 < t.nx ∧
      t.H nx_3 = some [.val (.bool (decide (a < 0))), .sl (D a.natAbs).length ((D a.natAbs).map U)] ∧ t.H n4 = some [.val (.bool (decide (b < 0))), .sl (D b.natAbs).length ((D b.natAbs).map U)] ∧ ∃ i : Nat, i ≤ l.length ∧ t.sl 57 = .val (.int .i64 i) ∧ ∃ rest : List Value, t.H (n4 + 1 + 1) = some (SWc (CZ ((combZ a b (vals l) (vals p)).take i)) ++ rest.map .val) ∧ i * 2 + rest.length = l.length * 2)
    (fun t => match t.sl 57 with | .val (.int _ k) => l.length - k.toNat | _ => 0) ?_ ?_
  · simp -implicitDefEqProofs (disch := omega) only [go_sem, ht, eq_self]
    exact ⟨by omega, 0, Nat.zero_le _, rfl, repl l.length [Value.bool false, Value.slice none 0 0], by rw [hrp]; rfl, by rw [hrl]; simp⟩
  · rintro t ⟨h0', h1, h8, h11, h14, h56, hnx, hHa, hHb, i, hi, h57, rest, hH, hr⟩
    by_cases hil : i = l.length
    · subst hil
      have e1 : (combZ a b (vals l) (vals p)).take l.length = combZ a b (vals l) (vals p) := List.take_of_length_le (by rw [hcl]; omega)
      have er : rest = [] := List.eq_nil_of_length_eq_zero (by omega)
      subst er
      rw [e1, List.map_nil, List.append_nil] at hH
      have hl2 := SWc_len (CZ (combZ a b (vals l) (vals p)))
      have hl3 : (CZ (combZ a b (vals l) (vals p))).length = l.length := by rw [CZ_len, hcl]
      rw [SW_def, hl3] at prm
      have htk : List.take (l.length * 2) (SWc (CZ (combZ a b (vals l) (vals p)))) = SWc (CZ (combZ a b (vals l) (vals p))) := List.take_of_length_le (by omega)
      generalize CZ (combZ a b (vals l) (vals p)) = cz at *
      simp -implicitDefEqProofs (disch := omega) only [go_sem, ht, h0', h1, h8, h11, h14, h56, h57, eq_self]
      have hle : l.length * 2 ≤ 2 * cz.length := by omega
      (refine pCall_frz (fun _ => true) 1 (by simp -implicitDefEqProofs (disch := omega) only [hH, htk, hle, go_sem, ht, eq_self] <;> rfl) (by simp -implicitDefEqProofs (disch := omega) only [hH, htk, hle, go_sem, ht, eq_self]) (by simp -implicitDefEqProofs (disch := omega) only [hH, htk, hle, go_sem, ht, eq_self] <;> rfl) (by simp -implicitDefEqProofs (disch := omega) only [hH, htk, hle, go_sem, ht, eq_self]) (prm) ?_; rintro _ nx - rfl hnx; (try simp only [put_nx, withH_nx, begP_nx] at hnx); simp -implicitDefEqProofs (disch := omega) only [hH, htk, hle, go_sem, ht, eq_self])
      (refine end_treeM 2 ?_; simp -implicitDefEqProofs (disch := omega) only [go_sem, ht, eq_self])
    · have hlt : i < l.length := by omega
      have hlt' : i < p.length := by omega
      have ha1 := SWc_at hlt
      have ha2 := SWc_at hlt'
      have m1 := mulW (Wn.C za h.hk) (h.wn hlt)
      have m2 := mulW (Wn.C zb h.hk) (hp.wn hlt')
      have zm1 := za.mul (h.wn hlt).z
      have zm2 := zb.mul (hp.wn hlt').z
      have s1 := subW (Wn.C zm1 (by omega)) (Wn.C zm2 (by omega))
      have hst := combZ_take (a := a) (b := b) (z := vals l) (p := vals p) (i := i) (by rw [vals_len]; exact hlt) (by rw [vals_len]; exact hlt')
      rw [← vc_lt (z := vals l), ← vc_lt (z := vals p)] at hst
      have hln : i * 2 = (SWc (CZ ((combZ a b (vals l) (vals p)).take i))).length := by rw [SWc_len, CZ_len, List.length_take]; omega
      clear zm1 zm2
      generalize a * vc (vals l) i = x1 at *
      generalize b * vc (vals p) i = x2 at *
      obtain ⟨x3, e3⟩ : ∃ x3, x1 - x2 = x3 := ⟨_, rfl⟩
      rw [e3] at s1 hst
      have hspl := spl_W (rest := rest.map .val) (x := .val (.bool (decide (x3 < 0)))) (y := .sl (D x3.natAbs).length ((D x3.natAbs).map U)) hln
      have hstW : SWc (CZ ((combZ a b (vals l) (vals p)).take (i + 1))) = SWc (CZ ((combZ a b (vals l) (vals p)).take i)) ++ [.val (.bool (decide (x3 < 0))), .sl (D x3.natAbs).length ((D x3.natAbs).map U)] := by
        rw [hst, CZ_app, SWc_app]; rfl
      simp -implicitDefEqProofs (disch := omega) only [go_sem, ht, h0', h1, h8, h11, h14, h56, h57, hHa, hHb, ha1, ha2, eq_self]
      ((refine pCall_view (by simp -implicitDefEqProofs (disch := omega) only [h0', h1, h8, h11, h14, h56, h57, hHa, hHb, ha1, ha2, hH, hspl, go_sem, ht, eq_self] <;> rfl) (by simp -implicitDefEqProofs (disch := omega) only [h0', h1, h8, h11, h14, h56, h57, hHa, hHb, ha1, ha2, hH, hspl, go_sem, ht, eq_self]) (by first | (apply Or.inl; simp -implicitDefEqProofs (disch := omega) only [h0', h1, h8, h11, h14, h56, h57, hHa, hHb, ha1, ha2, hH, hspl, go_sem, ht, eq_self]; done) | (apply Or.inr; rintro r rfl; rfl)) (m1) ?_; rintro _ nx_5 - rfl hnx_5; (try simp only [put_nx, withH_nx, begP_nx] at hnx_5); simp -implicitDefEqProofs (disch := omega) only [h0', h1, h8, h11, h14, h56, h57, hHa, hHb, ha1, ha2, hH, hspl, go_sem, ht, eq_self]); (refine pCall_view (by simp -implicitDefEqProofs (disch := omega) only [h0', h1, h8, h11, h14, h56, h57, hHa, hHb, ha1, ha2, hH, hspl, go_sem, ht, eq_self] <;> rfl) (by simp -implicitDefEqProofs (disch := omega) only [h0', h1, h8, h11, h14, h56, h57, hHa, hHb, ha1, ha2, hH, hspl, go_sem, ht, eq_self]) (by first | (apply Or.inl; simp -implicitDefEqProofs (disch := omega) only [h0', h1, h8, h11, h14, h56, h57, hHa, hHb, ha1, ha2, hH, hspl, go_sem, ht, eq_self]; done) | (apply Or.inr; rintro r rfl; rfl)) (m2) ?_; rintro _ nx_6 - rfl hnx_6; (try simp only [put_nx, withH_nx, begP_nx] at hnx_6); simp -implicitDefEqProofs (disch := omega) only [h0', h1, h8, h11, h14, h56, h57, hHa, hHb, ha1, ha2, hH, hspl, go_sem, ht, eq_self]); (refine pCall_view (by simp -implicitDefEqProofs (disch := omega) only [h0', h1, h8, h11, h14, h56, h57, hHa, hHb, ha1, ha2, hH, hspl, go_sem, ht, eq_self] <;> rfl) (by simp -implicitDefEqProofs (disch := omega) only [h0', h1, h8, h11, h14, h56, h57, hHa, hHb, ha1, ha2, hH, hspl, go_sem, ht, eq_self]) (by first | (apply Or.inl; simp -implicitDefEqProofs (disch := omega) only [h0', h1, h8, h11, h14, h56, h57, hHa, hHb, ha1, ha2, hH, hspl, go_sem, ht, eq_self]; done) | (apply Or.inr; rintro r rfl; rfl)) (s1) ?_; rintro _ nx_7 - rfl hnx_7; (try simp only [put_nx, withH_nx, begP_nx] at hnx_7); simp -implicitDefEqProofs (disch := omega) only [h0', h1, h8, h11, h14, h56, h57, hHa, hHb, ha1, ha2, hH, hspl, go_sem, ht, eq_self]))
      have hln2 : (CZ ((combZ a b (vals l) (vals p)).take i)).length = i := by rw [CZ_len, List.length_take]; omega
      refine ⟨by omega, ⟨by omega, i + 1, by omega, rfl, rest.drop 2, ?_, by rw [List.length_drop]; omega⟩, by omega⟩
      rw [hstW, ← List.map_drop]
theorem Rn.clear {l p : List (Bool × List Nat)} {k c : Nat} {zs : List Int} (h : ∀ z ∈ zs, Z k z) (hk : k ≤ 1000000) : Rn (CZ zs) k := .C h hk
/-- Is it 0 throughout? -/
def zeroB (zs : List Int) : Bool := decide (∀ z ∈ zs, z = 0)
theorem zero_calls {l : List (Bool × List Nat)} {k : Nat} (h : Rn l k) (hlen : l.length ≤ 1000000) : PT Try.prog 101 [SW l] (isV (.val (.bool (zeroB (vals l))))) := by
  refine PCalls.enter (n := 15) (rs := [.tmp 2]) (tb := []) Try.func101 rfl rfl rfl (by kernel_rfl) (by kernel_rfl) (by simp) fun c hc ht => ?_
  simp -implicitDefEqProofs (disch := omega) only [go_sem, ht, eq_self]
  refine LW.loopW hc ht (by kernel_rfl) (fun t => t.sl 5 = .sl l.length (SWc l) ∧ t.sl 6 = .val (.int .i64 l.length) ∧ ∃ i : Nat, i ≤ l.length ∧ t.sl 7 = .val (.int .i64 i) ∧ ∀ z ∈ (vals l).take i, z = 0)
    (fun t => match t.sl 7 with | .val (.int _ k) => l.length - k.toNat | _ => 0) ?_ ?_
  · simp -implicitDefEqProofs (disch := omega) only [go_sem, ht, eq_self]
    exact ⟨0, Nat.zero_le _, rfl, by simp⟩
  · rintro t ⟨h5, h6, i, hi, h7, hz⟩
    by_cases hil : i = l.length
    · subst hil
      rw [List.take_of_length_le (by rw [vals_len]; omega)] at hz
      have e : zeroB (vals l) = true := decide_eq_true hz
      rw [e]
      simp -implicitDefEqProofs (disch := omega) only [go_sem, ht, h5, h6, h7, eq_self]
      (refine end_treeW 0 ?_; simp -implicitDefEqProofs (disch := omega) only [go_sem, ht, eq_self])
    · have hlt : i < l.length := by omega
      have hat := SWc_at hlt
      have hs := signW (h.wn hlt)
      by_cases h0 : vc (vals l) i = 0
      · rw [h0, cZ_eq rfl] at hs
        simp -implicitDefEqProofs (disch := omega) only [go_sem, ht, h5, h6, h7, hat, eq_self]
        (refine pCall_view (by simp -implicitDefEqProofs (disch := omega) only [h5, h6, h7, hat, go_sem, ht, eq_self] <;> rfl) (by simp -implicitDefEqProofs (disch := omega) only [h5, h6, h7, hat, go_sem, ht, eq_self]) (by first | (apply Or.inl; simp -implicitDefEqProofs (disch := omega) only [h5, h6, h7, hat, go_sem, ht, eq_self]; done) | (apply Or.inr; rintro r rfl; rfl)) (hs) ?_; rintro _ nx - rfl hnx; (try simp only [put_nx, withH_nx, begP_nx] at hnx); simp -implicitDefEqProofs (disch := omega) only [h5, h6, h7, hat, go_sem, ht, eq_self])
        refine ⟨⟨i + 1, by omega, rfl, fun z hzm => ?_⟩, by omega⟩
        rw [List.take_succ_eq_append_getElem (by rw [vals_len]; exact hlt)] at hzm
        rcases List.mem_append.1 hzm with hzm | hzm
        · exact hz z hzm
        · rw [vc_lt (by rw [vals_len]; exact hlt)] at h0
          have : z = (vals l)[i]'(by rw [vals_len]; exact hlt) := by simpa using hzm
          rw [this]; exact h0
      · have hs0 : cZ (vc (vals l) i) 0 ≠ 0 := by unfold cZ; split <;> (try split) <;> omega
        have e : zeroB (vals l) = false := decide_eq_false fun hall => h0 (by
          rw [vc_lt (by rw [vals_len]; exact hlt)]
          exact hall _ (List.getElem_mem _))
        rw [e]
        generalize cZ (vc (vals l) i) 0 = s at *
        simp -implicitDefEqProofs (disch := omega) only [go_sem, ht, h5, h6, h7, hat, eq_self]
        (refine pCall_view (by simp -implicitDefEqProofs (disch := omega) only [h5, h6, h7, hat, go_sem, ht, eq_self] <;> rfl) (by simp -implicitDefEqProofs (disch := omega) only [h5, h6, h7, hat, go_sem, ht, eq_self]) (by first | (apply Or.inl; simp -implicitDefEqProofs (disch := omega) only [h5, h6, h7, hat, go_sem, ht, eq_self]; done) | (apply Or.inr; rintro r rfl; rfl)) (hs) ?_; rintro _ nx - rfl hnx; (try simp only [put_nx, withH_nx, begP_nx] at hnx); simp -implicitDefEqProofs (disch := omega) only [h5, h6, h7, hat, go_sem, ht, eq_self])
        (refine end_treeW 0 ?_; simp -implicitDefEqProofs (disch := omega) only [go_sem, ht, eq_self])
/-- The sign of the first number other than 0. -/
def sgF (t : Int) (zs : List Int) : Int := zs.foldl (fun t x => if t = 0 then cZ x 0 else t) t
theorem sgF_take {t : Int} {zs : List Int} {i : Nat} (h : i < zs.length) : sgF t (zs.take (i + 1)) = if sgF t (zs.take i) = 0 then cZ zs[i] 0 else sgF t (zs.take i) := by
  rw [List.take_succ_eq_append_getElem h, sgF, List.foldl_append]; rfl
def upZ (zs : List Int) : List Int := if sgF 0 zs < 0 then zs.map (- ·) else zs
theorem upZ_len (zs : List Int) : (upZ zs).length = zs.length := by unfold upZ; split <;> simp
theorem sgF_bd {zs : List Int} : ∀ {t : Int}, -1 ≤ t → t ≤ 1 → -1 ≤ sgF t zs ∧ sgF t zs ≤ 1 := by
  induction zs with
  | nil => intro t h1 h2; exact ⟨h1, h2⟩
  | cons z zs ih =>
    intro t h1 h2
    show -1 ≤ sgF (if t = 0 then cZ z 0 else t) zs ∧ sgF (if t = 0 then cZ z 0 else t) zs ≤ 1
    have hc : -1 ≤ cZ z 0 ∧ cZ z 0 ≤ 1 := by unfold cZ; split <;> (try split) <;> omega
    split
    · exact ih hc.1 hc.2
    · exact ih h1 h2
theorem up_calls {l : List (Bool × List Nat)} {k : Nat} (h : Rn l k) (hlen : l.length ≤ 1000000) : PT Try.prog 92 [SW l] (isV (SW (CZ (upZ (vals l))))) := by
  have e1 : PT Try.prog 68 [SW l, .fn 35 []] (isV (SW (CZ ((vals l).map (- ·))))) := by
    refine each_w rfl (fun H => rfl) hlen (by simp [vals_len]) fun i hi hi' => ?_
    have := negW (h.wn hi)
    rw [vc_lt (by rw [vals_len]; exact hi)] at this
    simpa using this
  have e2 : PT Try.prog 68 [SW l, .fn 34 []] (isV (SW (CZ (vals l)))) := by
    refine each_w rfl (fun H => rfl) hlen (by simp [vals_len]) fun i hi hi' => ?_
    have := trimW (h.wn hi)
    rwa [vc_lt (by rw [vals_len]; exact hi)] at this
  refine PCalls.enter (n := 23) (rs := [.tmp 2]) (tb := []) Try.func92 rfl rfl rfl (by kernel_rfl) (by kernel_rfl) (by simp) fun c hc ht => ?_
  simp -implicitDefEqProofs (disch := omega) only [go_sem, ht, eq_self]
  refine LW.loopW hc ht (by kernel_rfl) (fun t => t.sl 0 = .sl l.length (SWc l) ∧ t.sl 6 = .sl l.length (SWc l) ∧ t.sl 7 = .val (.int .i64 l.length) ∧ ∃ i : Nat, i ≤ l.length ∧ t.sl 8 = .val (.int .i64 i) ∧ t.sl 3 = .val (.int .i64 (sgF 0 ((vals l).take i))))
    (fun t => match t.sl 8 with | .val (.int _ k) => l.length - k.toNat | _ => 0) ?_ ?_
  · simp -implicitDefEqProofs (disch := omega) only [go_sem, ht, eq_self]
    exact ⟨0, Nat.zero_le _, rfl, rfl⟩
  · rintro t ⟨h0, h6, h7, i, hi, h8, h3⟩
    by_cases hil : i = l.length
    · subst hil
      rw [List.take_of_length_le (by rw [vals_len]; omega)] at h3
      unfold upZ
      by_cases hs : sgF 0 (vals l) < 0
      · rw [if_pos hs]
        generalize sgF 0 (vals l) = s at *
        simp -implicitDefEqProofs (disch := omega) only [go_sem, ht, h0, h6, h7, h8, h3, eq_self]
        (refine pCall_view (by simp -implicitDefEqProofs (disch := omega) only [h0, go_sem, ht, eq_self] <;> rfl) (by simp -implicitDefEqProofs (disch := omega) only [h0, go_sem, ht, eq_self]) (by first | (apply Or.inl; simp -implicitDefEqProofs (disch := omega) only [h0, go_sem, ht, eq_self]; done) | (apply Or.inr; rintro r rfl; rfl)) (e1) ?_; rintro _ nx - rfl hnx; (try simp only [put_nx, withH_nx, begP_nx] at hnx); simp -implicitDefEqProofs (disch := omega) only [h0, go_sem, ht, eq_self])
        (refine end_treeM 2 ?_; simp -implicitDefEqProofs (disch := omega) only [go_sem, ht, eq_self])
      · rw [if_neg hs]
        generalize sgF 0 (vals l) = s at *
        simp -implicitDefEqProofs (disch := omega) only [go_sem, ht, h0, h6, h7, h8, h3, eq_self]
        (refine pCall_view (by simp -implicitDefEqProofs (disch := omega) only [h0, go_sem, ht, eq_self] <;> rfl) (by simp -implicitDefEqProofs (disch := omega) only [h0, go_sem, ht, eq_self]) (by first | (apply Or.inl; simp -implicitDefEqProofs (disch := omega) only [h0, go_sem, ht, eq_self]; done) | (apply Or.inr; rintro r rfl; rfl)) (e2) ?_; rintro _ nx - rfl hnx; (try simp only [put_nx, withH_nx, begP_nx] at hnx); simp -implicitDefEqProofs (disch := omega) only [h0, go_sem, ht, eq_self])
        (refine end_treeM 2 ?_; simp -implicitDefEqProofs (disch := omega) only [go_sem, ht, eq_self])
    · have hlt : i < l.length := by omega
      have hat := SWc_at hlt
      have hs := signW (h.wn hlt)
      have hst := sgF_take (t := 0) (zs := vals l) (i := i) (by rw [vals_len]; exact hlt)
      rw [← vc_lt (z := vals l)] at hst
      obtain ⟨s2, es2⟩ : ∃ s2, sgF 0 ((vals l).take (i + 1)) = s2 := ⟨_, rfl⟩
      rw [es2] at hst
      generalize sgF 0 ((vals l).take i) = s1 at *
      generalize cZ (vc (vals l) i) 0 = sx at *
      by_cases h10 : s1 = 0
      · rw [if_pos h10] at hst
        simp -implicitDefEqProofs (disch := omega) only [go_sem, ht, h0, h6, h7, h8, h3, hat, eq_self]
        (refine pCall_view (by simp -implicitDefEqProofs (disch := omega) only [h0, h6, h7, h8, h3, hat, go_sem, ht, eq_self] <;> rfl) (by simp -implicitDefEqProofs (disch := omega) only [h0, h6, h7, h8, h3, hat, go_sem, ht, eq_self]) (by first | (apply Or.inl; simp -implicitDefEqProofs (disch := omega) only [h0, h6, h7, h8, h3, hat, go_sem, ht, eq_self]; done) | (apply Or.inr; rintro r rfl; rfl)) (hs) ?_; rintro _ nx - rfl hnx; (try simp only [put_nx, withH_nx, begP_nx] at hnx); simp -implicitDefEqProofs (disch := omega) only [h0, h6, h7, h8, h3, hat, go_sem, ht, eq_self])
        exact ⟨⟨i + 1, by omega, rfl, by rw [es2, hst]⟩, by omega⟩
      · rw [if_neg h10] at hst
        simp -implicitDefEqProofs (disch := omega) only [go_sem, ht, h0, h6, h7, h8, h3, hat, eq_self]
        exact ⟨⟨i + 1, by omega, rfl, by rw [es2, hst]⟩, by omega⟩
end Go.Proofs.Ytfjdfnlkobeehaa
