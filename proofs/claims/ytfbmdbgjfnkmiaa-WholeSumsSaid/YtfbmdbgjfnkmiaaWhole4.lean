/- The program's whole: ints, texts; the laws' own helpers. -/
import Derived.Test.YtfbmdbgjfnkmiaaWhole3
import Derived.Test.YtfbmdbgjfnkmiaaLimbsB
set_option maxRecDepth 100000
set_option linter.unusedVariables false
set_option linter.unusedSimpArgs false
namespace Go.Proofs.Ytfbmdbgjfnkmiaa

theorem len_whole {b : Bool} {xs : List Nat} (h : xs.length ≤ 35184372087808) : PT Try.prog 23 [WX b xs] (isV (.val (.int .i64 (1 + xs.length : Nat)))) := by
  refine PCalls.enter (n := 7) (rs := [.tmp 2]) (tb := []) Try.func23 rfl rfl rfl (by kernel_rfl) (by kernel_rfl) (by simp) fun c hc ht => ?_
  simp -implicitDefEqProofs (disch := omega) only [go_sem, ht, eq_self]
  (refine end_treeW 0 ?_; simp -implicitDefEqProofs (disch := omega) only [go_sem, ht, eq_self])
theorem WX_eq {a b : Int} : (decide (a < 0) = decide (b < 0) ∧ D a.natAbs = D b.natAbs) ↔ a = b := by
  rw [D_eq, decide_eq_decide]
  omega
theorem same_whole {a b : Int} (ha : Ok (D a.natAbs)) (hb : Ok (D b.natAbs)) : PT Try.prog 18 [WC a, WC b] (isV (.val (.bool (decide (a = b))))) := by
  have hs := same_calls ha hb
  by_cases hab : a = b
  · subst hab
    rw [decide_eq_true rfl] at hs ⊢
    refine PCalls.enter (n := 17) (rs := [.tmp 4]) (tb := []) Try.func18 rfl rfl rfl (by kernel_rfl) (by kernel_rfl) (by simp) fun c hc ht => ?_
    simp -implicitDefEqProofs (disch := omega) only [go_sem, ht, eq_self]
    (refine pCall_view (by simp -implicitDefEqProofs (disch := omega) only [go_sem, ht, eq_self] <;> rfl) (by simp -implicitDefEqProofs (disch := omega) only [go_sem, ht, eq_self]) (by first | (apply Or.inl; simp -implicitDefEqProofs (disch := omega) only [go_sem, ht, eq_self]; done) | (apply Or.inr; rintro r rfl; rfl)) (hs) ?_; rintro _ nx - rfl hnx; (try simp only [put_nx, withH_nx, begP_nx] at hnx); simp -implicitDefEqProofs (disch := omega) only [go_sem, ht, eq_self])
    (refine end_treeW 0 ?_; simp -implicitDefEqProofs (disch := omega) only [go_sem, ht, eq_self])
  · rw [decide_eq_false hab]
    by_cases hsg : decide (a < 0) = decide (b < 0)
    · have hn : D a.natAbs ≠ D b.natAbs := fun h => hab (WX_eq.1 ⟨hsg, h⟩)
      rw [decide_eq_false hn] at hs
      rw [WC_def, WC_def, hsg]
      refine PCalls.enter (n := 17) (rs := [.tmp 4]) (tb := []) Try.func18 rfl rfl rfl (by kernel_rfl) (by kernel_rfl) (by simp) fun c hc ht => ?_
      simp -implicitDefEqProofs (disch := omega) only [go_sem, ht, eq_self]
      (refine pCall_view (by simp -implicitDefEqProofs (disch := omega) only [go_sem, ht, eq_self] <;> rfl) (by simp -implicitDefEqProofs (disch := omega) only [go_sem, ht, eq_self]) (by first | (apply Or.inl; simp -implicitDefEqProofs (disch := omega) only [go_sem, ht, eq_self]; done) | (apply Or.inr; rintro r rfl; rfl)) (hs) ?_; rintro _ nx - rfl hnx; (try simp only [put_nx, withH_nx, begP_nx] at hnx); simp -implicitDefEqProofs (disch := omega) only [go_sem, ht, eq_self])
      (refine end_treeW 0 ?_; simp -implicitDefEqProofs (disch := omega) only [go_sem, ht, eq_self])
    · have hne : (decide (a < 0) == decide (b < 0)) = false := by simpa using hsg
      rw [WC_def, WC_def]
      generalize decide (a < 0) = sa at *
      generalize decide (b < 0) = sb at *
      refine PCalls.enter (n := 17) (rs := [.tmp 4]) (tb := []) Try.func18 rfl rfl rfl (by kernel_rfl) (by kernel_rfl) (by simp) fun c hc ht => ?_
      simp -implicitDefEqProofs (disch := omega) only [go_sem, ht, hne, eq_self]
      (refine end_treeW 0 ?_; simp -implicitDefEqProofs (disch := omega) only [go_sem, ht, eq_self])
theorem small_whole {v : Int} (h0 : -9223372036854775808 ≤ v) (h1 : v ≤ 9223372036854775807) : PT Try.prog 40 [.val (.int .i64 v)] (isV (WC v)) := by
  refine PCalls.enter (n := 24) (rs := [.cell 2 28]) (tb := []) Try.func40 rfl rfl rfl (by kernel_rfl) (by kernel_rfl) (by simp) fun c hc ht => ?_
  have hn : v.natAbs < 18446744073709551616 := by omega
  have hl : Ok (D v.natAbs) := .D (k := 2) (by omega) (by omega)
  simp -implicitDefEqProofs (disch := omega) only [go_sem, ht, eq_self]
  refine LW.both (fun s => s.sl 0 = .val (.int .i64 v) ∧ s.sl 3 = .val (.int .u64 v.natAbs) ∧ s.sl 4 = .val (.slice none 0 0) ∧ s.sl 2 = .ptr 0 0 ∧ s.H 0 = some [.val (.bool false), .val (.slice none 0 0)] ∧ 0 < s.nx) (fun h => ?_) (fun h => ?_) ?_
  · simp -implicitDefEqProofs (disch := omega) only [go_sem, ht, eq_self]
    congr 2; omega
  · simp -implicitDefEqProofs (disch := omega) only [go_sem, ht, eq_self]
    congr 2; omega
  · rintro s ⟨h0, h3, h4, h2, hH, hnx⟩
    refine LW.loopW hc ht (by kernel_rfl) (fun t => t.sl 0 = .val (.int .i64 v) ∧ t.sl 2 = .ptr 0 0 ∧ t.H 0 = some [.val (.bool false), .val (.slice none 0 0)] ∧ 0 < t.nx ∧ ∃ (u : Nat) (zs : List Nat), u ≤ v.natAbs ∧ t.sl 3 = .val (.int .u64 u) ∧ D v.natAbs = zs ++ D u ∧
      ((zs = [] ∧ t.sl 4 = .val (.slice none 0 0)) ∨ ∃ (id cap : Nat) (rest : List Value), t.sl 4 = .ref id 0 zs.length cap 1 ∧ t.H id = some (zs.map U ++ rest.map .val) ∧ zs.length + rest.length = cap ∧ 0 < id ∧ id < t.nx))
      (fun t => match t.sl 3 with | .val (.int _ u) => u.toNat | _ => 0) ?_ ?_
    · exact ⟨h0, h2, hH, hnx, v.natAbs, [], Nat.le_refl _, h3, rfl, .inl ⟨rfl, h4⟩⟩
    · clear h0 h3 h4 h2 hH hnx
      rintro t ⟨h0, h2, hH, hnx, u, zs, hu, h3, hD, h4⟩
      by_cases hu0 : u = 0
      · subst hu0
        rw [D_zero, List.append_nil] at hD
        subst hD
        rcases h4 with ⟨hz, h4⟩ | ⟨id, cap, rest, h4, hHi, hcap, hid, hid'⟩
        · simp -implicitDefEqProofs (disch := omega) only [go_sem, ht, h0, h2, h3, h4, hH, eq_self]
          (refine end_treeM 2 ?_; simp -implicitDefEqProofs (disch := omega) only [go_sem, ht, h2, hz, eq_self])
        · have hidn : id ≠ 0 := by omega
          simp -implicitDefEqProofs (disch := omega) only [go_sem, ht, h0, h2, h3, h4, hH, eq_self]
          (refine end_treeM 2 ?_; simp -implicitDefEqProofs (disch := omega) only [go_sem, ht, h2, hHi, eq_self]; omega)
      · rw [D_pos hu0] at hD
        have hlen := hl.len
        rw [hD] at hlen
        simp only [List.length_append, List.length_cons] at hlen
        rcases h4 with ⟨hz, h4⟩ | ⟨id, cap, rest, h4, hHi, hcap, hid, hid'⟩
        · simp -implicitDefEqProofs (disch := omega) only [go_sem, ht, h0, h2, h3, h4, hH, eq_self]
          subst hz
          refine append_nil (e := 54) (b := 4) (m := 1) (z := .int .u32 0) (ys := [U (u % 4294967296)]) T26_elem rfl T54_size T54_bytes T54_zero (by simp -implicitDefEqProofs (disch := omega) only [go_sem, ht, srcP_ref, eq_self]) (by simp -implicitDefEqProofs (disch := omega) only [go_sem, ht, eq_self]) (by omega) (fun h0 => by omega) fun cap' rest' h1 _ => ?_
          simp -implicitDefEqProofs (disch := omega) only [go_sem, ht, h0, h2, h3, h4, hH, eq_self]
          exact ⟨⟨u / 4294967296, [u % 4294967296], by omega, rfl, hD, .inr ⟨t.nx + 1, cap', rest', rfl, upd_self _ _ _, by simpa using h1, by omega, by omega⟩⟩, by omega⟩
        · simp -implicitDefEqProofs (disch := omega) only [go_sem, ht, h0, h2, h3, h4, hH, eq_self]
          (refine append_own (by simp -implicitDefEqProofs (disch := omega) only [srcP_ref, srcP_sl, srcP_nil, Option.isSome_some, hHi, go_sem, ht, eq_self] <;> rfl) (by simp -implicitDefEqProofs (disch := omega) only [srcP_ref, srcP_sl, srcP_nil, Option.isSome_some, hHi, go_sem, ht, eq_self] <;> rfl) (by simp -implicitDefEqProofs (disch := omega) only [srcP_ref, srcP_sl, srcP_nil, Option.isSome_some, hHi, go_sem, ht, eq_self] <;> rfl) (by simp -implicitDefEqProofs (disch := omega) only [srcP_ref, srcP_sl, srcP_nil, Option.isSome_some, hHi, go_sem, ht, eq_self] <;> rfl) (by simp -implicitDefEqProofs (disch := omega) only [srcP_ref, srcP_sl, srcP_nil, Option.isSome_some, hHi, go_sem, ht, eq_self] <;> rfl) (by simp -implicitDefEqProofs (disch := omega) only [srcP_ref, srcP_sl, srcP_nil, Option.isSome_some, hHi, go_sem, ht, eq_self] <;> rfl) (by simp -implicitDefEqProofs (disch := omega) only [srcP_ref, srcP_sl, srcP_nil, Option.isSome_some, hHi, go_sem, ht, eq_self] <;> rfl) (by simp -implicitDefEqProofs (disch := omega) only [srcP_ref, srcP_sl, srcP_nil, Option.isSome_some, hHi, go_sem, ht, eq_self] <;> rfl) (by simp <;> omega) (by first | assumption | (simp <;> omega)) (by first | rfl | simp) (by first | omega | (simp <;> omega)) ?_; intro id1 cap1 rest1 H1 nx1 hH1 hcap1 hid1 hnx1 hfr1 hfs1; simp only [put_nx, withH_nx, put_H, withH_H] at hid1 hnx1 hfr1 hfs1; (try simp only [app_U, ← List.map_append] at hH1))
          have hH0 : H1 0 = some [.val (.bool false), .val (.slice none 0 0)] := by rw [hfr1 _ (by omega) (by omega)]; simp -implicitDefEqProofs (disch := omega) only [go_sem, ht, hH, eq_self]
          simp -implicitDefEqProofs (disch := omega) only [go_sem, ht, h0, h2, h3, h4, hH0, eq_self]
          exact ⟨⟨by omega, u / 4294967296, zs ++ [u % 4294967296], by omega, rfl, by rw [hD, List.append_assoc]; rfl, .inr ⟨id1, cap1, rest1, by simp, hH1, by simpa using hcap1, by omega, by omega⟩⟩, by omega⟩
def wtxt (z : Int) : ByteArray := if z < 0 then ⟨#[45]⟩ ++ txt z.natAbs else txt z.natAbs
theorem txt_le {n k : Nat} (h : n < 4294967296 ^ k) : (txt n).size ≤ 10 * k + 1 := by
  by_cases h0 : n = 0
  · subst h0
    have : (txt 0).size = 1 := rfl
    omega
  · have := digs_limbs h
    rw [txt_size h0]; omega
theorem wtext_calls {b : Bool} {xs : List Nat} (h : Ok xs) : PT Try.prog 51 [WX b xs] (isV (.val (.string (wtxt (WV b xs))))) := by
  have hs := wsign_calls (b := b) h
  have ht' := text_calls h
  have ea := WV_abs b xs
  have hsz := txt_le (V_lt h.lm)
  have hxl := h.len
  have h45 : (#[45] : Array UInt8).size = 1 := rfl
  unfold wtxt
  generalize WV b xs = z at *
  rw [← ea] at ht' hsz
  generalize txt z.natAbs = tx at *
  by_cases hz : z < 0
  · rw [if_pos hz]
    rw [cZ_lt hz] at hs
    refine PCalls.enter (n := 13) (rs := [.tmp 2]) (tb := []) Try.func51 rfl rfl rfl (by kernel_rfl) (by kernel_rfl) (by simp) fun c hc ht => ?_
    simp -implicitDefEqProofs (disch := omega) only [go_sem, ht, eq_self]
    (refine pCall_view (by simp -implicitDefEqProofs (disch := omega) only [go_sem, ht, eq_self] <;> rfl) (by simp -implicitDefEqProofs (disch := omega) only [go_sem, ht, eq_self]) (by first | (apply Or.inl; simp -implicitDefEqProofs (disch := omega) only [go_sem, ht, eq_self]; done) | (apply Or.inr; rintro r rfl; rfl)) (hs) ?_; rintro _ nx - rfl hnx; (try simp only [put_nx, withH_nx, begP_nx] at hnx); simp -implicitDefEqProofs (disch := omega) only [go_sem, ht, eq_self])
    (refine pCall_view (by simp -implicitDefEqProofs (disch := omega) only [h45, go_sem, ht, eq_self] <;> rfl) (by simp -implicitDefEqProofs (disch := omega) only [h45, go_sem, ht, eq_self]) (by first | (apply Or.inl; simp -implicitDefEqProofs (disch := omega) only [h45, go_sem, ht, eq_self]; done) | (apply Or.inr; rintro r rfl; rfl)) (ht') ?_; rintro _ nx - rfl hnx; (try simp only [put_nx, withH_nx, begP_nx] at hnx); simp -implicitDefEqProofs (disch := omega) only [h45, go_sem, ht, eq_self])
    refine ⟨by omega, ?_⟩
    (refine end_treeW 0 ?_; simp -implicitDefEqProofs (disch := omega) only [go_sem, ht, eq_self])
  · rw [if_neg hz]
    have : ¬ cZ z 0 < 0 := by unfold cZ; rw [if_neg hz]; split <;> omega
    generalize cZ z 0 = k at *
    refine PCalls.enter (n := 13) (rs := [.tmp 2]) (tb := []) Try.func51 rfl rfl rfl (by kernel_rfl) (by kernel_rfl) (by simp) fun c hc ht => ?_
    simp -implicitDefEqProofs (disch := omega) only [go_sem, ht, eq_self]
    (refine pCall_view (by simp -implicitDefEqProofs (disch := omega) only [go_sem, ht, eq_self] <;> rfl) (by simp -implicitDefEqProofs (disch := omega) only [go_sem, ht, eq_self]) (by first | (apply Or.inl; simp -implicitDefEqProofs (disch := omega) only [go_sem, ht, eq_self]; done) | (apply Or.inr; rintro r rfl; rfl)) (hs) ?_; rintro _ nx - rfl hnx; (try simp only [put_nx, withH_nx, begP_nx] at hnx); simp -implicitDefEqProofs (disch := omega) only [go_sem, ht, eq_self])
    (refine pCall_view (by simp -implicitDefEqProofs (disch := omega) only [go_sem, ht, eq_self] <;> rfl) (by simp -implicitDefEqProofs (disch := omega) only [go_sem, ht, eq_self]) (by first | (apply Or.inl; simp -implicitDefEqProofs (disch := omega) only [go_sem, ht, eq_self]; done) | (apply Or.inr; rintro r rfl; rfl)) (ht') ?_; rintro _ nx - rfl hnx; (try simp only [put_nx, withH_nx, begP_nx] at hnx); simp -implicitDefEqProofs (disch := omega) only [go_sem, ht, eq_self])
    (refine end_treeW 0 ?_; simp -implicitDefEqProofs (disch := omega) only [go_sem, ht, eq_self])
def intP (z : Int) : PV := if -9223372036854775808 ≤ z ∧ z ≤ 9223372036854775807 then .tup [.val (.int .i64 z), .val (.bool true)] else .tup [.val (.int .i64 0), .val (.bool false)]
theorem wint_calls {b : Bool} {xs : List Nat} (h : Ok xs) : PT Try.prog 33 [WX b xs] (isV (intP (WV b xs))) := by
  have hu := uint_calls h
  unfold uintP at hu
  unfold intP WV sg
  generalize V xs = n at *
  by_cases h1 : n < 18446744073709551616
  · rw [if_pos h1] at hu
    by_cases h2 : n ≤ 9223372036854775808
    · cases b
      · by_cases h3 : n = 9223372036854775808
        · subst h3
          rw [if_neg (by simp)]
          refine PCalls.enter (n := 30) (rs := [.tmp 2, .tmp 3]) (tb := []) Try.func33 rfl rfl rfl (by kernel_rfl) (by kernel_rfl) (by simp) fun c hc ht => ?_
          simp -implicitDefEqProofs (disch := omega) only [go_sem, ht, eq_self]
          (refine pCall_view (by simp -implicitDefEqProofs (disch := omega) only [go_sem, ht, eq_self] <;> rfl) (by simp -implicitDefEqProofs (disch := omega) only [go_sem, ht, eq_self]) (by first | (apply Or.inl; simp -implicitDefEqProofs (disch := omega) only [go_sem, ht, eq_self]; done) | (apply Or.inr; rintro r rfl; rfl)) (hu) ?_; rintro _ nx - rfl hnx; (try simp only [put_nx, withH_nx, begP_nx] at hnx); simp -implicitDefEqProofs (disch := omega) only [go_sem, ht, eq_self])
          (refine end_treeW 0 ?_; simp -implicitDefEqProofs (disch := omega) only [go_sem, ht, eq_self])
        · rw [if_pos (by simp; omega)]
          refine PCalls.enter (n := 30) (rs := [.tmp 2, .tmp 3]) (tb := []) Try.func33 rfl rfl rfl (by kernel_rfl) (by kernel_rfl) (by simp) fun c hc ht => ?_
          simp -implicitDefEqProofs (disch := omega) only [go_sem, ht, eq_self]
          (refine pCall_view (by simp -implicitDefEqProofs (disch := omega) only [go_sem, ht, eq_self] <;> rfl) (by simp -implicitDefEqProofs (disch := omega) only [go_sem, ht, eq_self]) (by first | (apply Or.inl; simp -implicitDefEqProofs (disch := omega) only [go_sem, ht, eq_self]; done) | (apply Or.inr; rintro r rfl; rfl)) (hu) ?_; rintro _ nx - rfl hnx; (try simp only [put_nx, withH_nx, begP_nx] at hnx); simp -implicitDefEqProofs (disch := omega) only [go_sem, ht, eq_self])
          (refine end_treeW 0 ?_; simp -implicitDefEqProofs (disch := omega) only [go_sem, ht, eq_self])
      · rw [if_pos (by simp; omega)]
        have hw : IntKind.i64.wrap ((0 - (n : Int)) % 18446744073709551616) = -(n : Int) := by
          simp [IntKind.wrap, IntKind.bits, IntKind.signed]; omega
        refine PCalls.enter (n := 30) (rs := [.tmp 2, .tmp 3]) (tb := []) Try.func33 rfl rfl rfl (by kernel_rfl) (by kernel_rfl) (by simp) fun c hc ht => ?_
        simp -implicitDefEqProofs (disch := omega) only [go_sem, ht, eq_self]
        (refine pCall_view (by simp -implicitDefEqProofs (disch := omega) only [go_sem, ht, eq_self] <;> rfl) (by simp -implicitDefEqProofs (disch := omega) only [go_sem, ht, eq_self]) (by first | (apply Or.inl; simp -implicitDefEqProofs (disch := omega) only [go_sem, ht, eq_self]; done) | (apply Or.inr; rintro r rfl; rfl)) (hu) ?_; rintro _ nx - rfl hnx; (try simp only [put_nx, withH_nx, begP_nx] at hnx); simp -implicitDefEqProofs (disch := omega) only [go_sem, ht, eq_self])
        (refine end_treeW 0 ?_; simp -implicitDefEqProofs (disch := omega) only [go_sem, ht, hw, eq_self])
    · rw [if_neg (by cases b <;> simp <;> omega)]
      refine PCalls.enter (n := 30) (rs := [.tmp 2, .tmp 3]) (tb := []) Try.func33 rfl rfl rfl (by kernel_rfl) (by kernel_rfl) (by simp) fun c hc ht => ?_
      simp -implicitDefEqProofs (disch := omega) only [go_sem, ht, eq_self]
      (refine pCall_view (by simp -implicitDefEqProofs (disch := omega) only [go_sem, ht, eq_self] <;> rfl) (by simp -implicitDefEqProofs (disch := omega) only [go_sem, ht, eq_self]) (by first | (apply Or.inl; simp -implicitDefEqProofs (disch := omega) only [go_sem, ht, eq_self]; done) | (apply Or.inr; rintro r rfl; rfl)) (hu) ?_; rintro _ nx - rfl hnx; (try simp only [put_nx, withH_nx, begP_nx] at hnx); simp -implicitDefEqProofs (disch := omega) only [go_sem, ht, eq_self])
      (refine end_treeW 0 ?_; simp -implicitDefEqProofs (disch := omega) only [go_sem, ht, eq_self])
  · rw [if_neg h1] at hu
    rw [if_neg (by cases b <;> simp <;> omega)]
    refine PCalls.enter (n := 30) (rs := [.tmp 2, .tmp 3]) (tb := []) Try.func33 rfl rfl rfl (by kernel_rfl) (by kernel_rfl) (by simp) fun c hc ht => ?_
    simp -implicitDefEqProofs (disch := omega) only [go_sem, ht, eq_self]
    (refine pCall_view (by simp -implicitDefEqProofs (disch := omega) only [go_sem, ht, eq_self] <;> rfl) (by simp -implicitDefEqProofs (disch := omega) only [go_sem, ht, eq_self]) (by first | (apply Or.inl; simp -implicitDefEqProofs (disch := omega) only [go_sem, ht, eq_self]; done) | (apply Or.inr; rintro r rfl; rfl)) (hu) ?_; rintro _ nx - rfl hnx; (try simp only [put_nx, withH_nx, begP_nx] at hnx); simp -implicitDefEqProofs (disch := omega) only [go_sem, ht, eq_self])
    (refine end_treeW 0 ?_; simp -implicitDefEqProofs (disch := omega) only [go_sem, ht, eq_self])
end Go.Proofs.Ytfbmdbgjfnkmiaa
