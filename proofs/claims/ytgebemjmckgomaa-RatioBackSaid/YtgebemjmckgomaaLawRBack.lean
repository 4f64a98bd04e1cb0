/- The statement RatioBack holds of the given program: for every fraction the law answers true. Its conditions are those of the given statement, and no others. -/
import Derived.Test.YtgebemjmckgomaaRatioP
set_option maxRecDepth 100000
set_option linter.unusedVariables false
set_option linter.unusedSimpArgs false
namespace Go.Proofs.Ytgebemjmckgomaa

theorem app_list (a b : ByteArray) : (a ++ b).data.toList = a.data.toList ++ b.data.toList := by
  rw [ByteArray.data_append]; simp
theorem app_left {a b : ByteArray} {k : Nat} (h : k < a.size) : (a ++ b)[k]? = a[k]? := by
  rw [← list_get, ← list_get, app_list, List.getElem?_append_left (by simpa using h)]
theorem app_mid (a b : ByteArray) (c : UInt8) (l : List UInt8) (h : b.data.toList = c :: l) : (a ++ b)[a.size]? = some c := by
  rw [← list_get, app_list, List.getElem?_append_right (by simp), h]; simp
theorem no_dig {l : List UInt8} (h : l.all isDg = true) : ∀ k : Nat, l[k]? ≠ some 47 := fun k hk => by
  have := List.all_eq_true.1 h 47 (List.mem_of_getElem? hk)
  revert this; decide
theorem wtxt_no (z : Int) (k : Nat) : (wtxt z)[k]? ≠ some 47 := by
  rw [← list_get]
  by_cases h : z < 0
  · rw [wtxt_neg h]
    cases k with
    | zero => simp
    | succ k => simpa using no_dig (dgB_all z.natAbs) k
  · rw [wtxt_pos h, txt_dgB]
    simpa using no_dig (dgB_all z.natAbs) k
theorem sl_end {a : ByteArray} (h : ∀ k : Nat, a[k]? ≠ some 47) : Sl a a.size := ⟨Nat.le_refl _, fun k _ => h k, fun h => absurd h (by omega)⟩
theorem sl_mid {a b : ByteArray} {l : List UInt8} (h : ∀ k : Nat, a[k]? ≠ some 47) (hb : b.data.toList = 47 :: l) : Sl (a ++ b) a.size :=
  ⟨by rw [ByteArray.size_append]; omega, fun k hk => by rw [app_left hk]; exact h k, fun _ => app_mid a b 47 l hb⟩
theorem parse_one : parseP ⟨#[49]⟩ = (1, 0) := by decide
theorem digs_size {n : Nat} (h : n ≠ 0) : (txt n).size = (digs n).length := txt_size h
theorem txt_sz (n : Nat) : (txt n).size ≤ (digs n).length + 1 := by
  by_cases h : n = 0
  · subst h; exact Nat.le_add_left _ _
  · rw [txt_size h]; omega
theorem wtxt_sz (z : Int) : (wtxt z).size ≤ (digs z.natAbs).length + 2 := by
  have := txt_sz z.natAbs
  unfold wtxt
  split
  · rw [ByteArray.size_append]; have : (⟨#[45]⟩ : ByteArray).size = 1 := rfl; omega
  · omega
theorem int_div_one (n : Int) : Rat.divInt n ((1 : Nat) : Int) = (n : Rat) := by
  rw [Rat.divInt_ofNat]; exact Rat.mkRat_one n
theorem rat_int {q : Rat} (h : q.den = 1) : (q.num : Rat) = q := by
  have := Rat.num_divInt_den q
  rw [h, int_div_one] at this
  exact this
/-- A whole fraction's text, and the same over 1. -/
theorem back_one {q : Rat} (h : q.den = 1) (hn : (digs q.num.natAbs).length ≤ 4000) :
    (∀ k : Nat, (rtxt q)[k]? ≠ some 47) ∧ rpP (rtxt q) (rtxt q).size = (some q, 0) ∧ Sl (rtxt q ++ ⟨#[47, 49]⟩) (rtxt q).size ∧ rpP (rtxt q ++ ⟨#[47, 49]⟩) (rtxt q).size = (some q, 0) := by
  have e : rtxt q = wtxt q.num := if_pos h
  have hs := wtxt_sz q.num
  have hw := wparse_wtxt (z := q.num) (by omega)
  have h2 : (⟨#[47, 49]⟩ : ByteArray).size = 2 := rfl
  rw [e]
  refine ⟨wtxt_no _, ?_, sl_mid (wtxt_no _) (l := [49]) rfl, ?_⟩
  · unfold rpP
    rw [if_neg (by omega), ext_all, hw, if_neg (by simp), if_neg (by omega), rat_int h]
  · unfold rpP
    rw [ByteArray.size_append, h2, if_neg (by omega), ByteArray.extract_append_eq_left rfl, hw, if_neg (by simp), if_pos (by omega)]
    have e1 : (wtxt q.num ++ ⟨#[47, 49]⟩).extract ((wtxt q.num).size + 1) ((wtxt q.num).size + 2) = ⟨#[49]⟩ := by
      have : (⟨#[47, 49]⟩ : ByteArray) = ⟨#[47]⟩ ++ ⟨#[49]⟩ := by decide
      rw [this, ← ByteArray.append_assoc]
      exact ByteArray.extract_append_eq_right (by rw [ByteArray.size_append]; rfl) (by rw [ByteArray.size_append]; rfl)
    rw [e1, parse_one, if_neg (by simp), if_neg (by simp), int_div_one, rat_int h]
/-- Another fraction's text, and the same over 1. -/
theorem back_two {q : Rat} (h : q.den ≠ 1) (hn : (digs q.num.natAbs).length ≤ 4000) (hd : (digs q.den).length ≤ 4000) :
    ∃ w, w < (rtxt q).size ∧ Sl (rtxt q) w ∧ rpP (rtxt q) w = (some q, 0) ∧ Sl (rtxt q ++ ⟨#[47, 49]⟩) w ∧ ∃ e, rpP (rtxt q ++ ⟨#[47, 49]⟩) w = (none, e) ∧ e ≠ 0 := by
  have e : rtxt q = wtxt q.num ++ ⟨#[47]⟩ ++ txt q.den := if_neg h
  have hs := wtxt_sz q.num
  have hs2 := txt_sz q.den
  have hw := wparse_wtxt (z := q.num) (by omega)
  have hw2 := txt_parse (n := q.den) (by omega)
  have h1 : (⟨#[47]⟩ : ByteArray).size = 1 := rfl
  have h2 : (⟨#[47, 49]⟩ : ByteArray).size = 2 := rfl
  have hl : ((⟨#[47]⟩ : ByteArray) ++ txt q.den).data.toList = 47 :: (txt q.den).data.toList := by rw [app_list]; rfl
  have hl2 : ((⟨#[47]⟩ : ByteArray) ++ txt q.den ++ ⟨#[47, 49]⟩).data.toList = 47 :: ((txt q.den).data.toList ++ [47, 49]) := by rw [app_list, hl]; rfl
  refine ⟨(wtxt q.num).size, ?_, ?_, ?_, ?_, ?_⟩
  · rw [e, ByteArray.size_append, ByteArray.size_append]; omega
  · rw [e, ByteArray.append_assoc]; exact sl_mid (wtxt_no _) hl
  · unfold rpP
    rw [e, ByteArray.size_append, ByteArray.size_append, h1, if_neg (by omega), ByteArray.append_assoc, ByteArray.extract_append_eq_left rfl, hw, if_neg (by simp), if_pos (by omega)]
    have e1 : (wtxt q.num ++ (⟨#[47]⟩ ++ txt q.den)).extract ((wtxt q.num).size + 1) ((wtxt q.num).size + 1 + (txt q.den).size) = txt q.den := by
      rw [← ByteArray.append_assoc]
      exact ByteArray.extract_append_eq_right (by rw [ByteArray.size_append]; rfl) (by rw [ByteArray.size_append]; rfl)
    rw [e1, hw2, if_neg (by simp), if_neg q.den_nz]
    simp only
    rw [Rat.num_divInt_den]
  · rw [e, ByteArray.append_assoc, ByteArray.append_assoc]; rw [ByteArray.append_assoc] at hl2; exact sl_mid (wtxt_no _) hl2
  · have he : (parseP (txt q.den ++ ⟨#[47, 49]⟩)).2 = 10 := by
      unfold parseP
      have ha : (txt q.den ++ (⟨#[47, 49]⟩ : ByteArray)).data.toList.all isDg = false := by
        rw [app_list, List.all_append]
        have : (⟨#[47, 49]⟩ : ByteArray).data.toList.all isDg = false := by decide
        rw [this, Bool.and_false]
      rw [ha, ByteArray.size_append, if_neg (by omega), if_neg (by omega)]; rfl
    refine ⟨10, ?_, by omega⟩
    unfold rpP
    rw [e, ByteArray.size_append, ByteArray.size_append, ByteArray.size_append, h1, h2, if_neg (by omega), ByteArray.append_assoc, ByteArray.append_assoc, ByteArray.extract_append_eq_left rfl, hw, if_neg (by simp), if_pos (by omega)]
    have e1 : (wtxt q.num ++ ((⟨#[47]⟩ : ByteArray) ++ (txt q.den ++ ⟨#[47, 49]⟩))).extract ((wtxt q.num).size + 1) ((wtxt q.num).size + 1 + (txt q.den).size + 2) = txt q.den ++ ⟨#[47, 49]⟩ := by
      rw [← ByteArray.append_assoc]
      exact ByteArray.extract_append_eq_right (by rw [ByteArray.size_append]; rfl) (by rw [ByteArray.size_append, ByteArray.size_append]; simp only [h1, h2]; omega)
    rw [e1, he, if_pos (by omega)]

set_option maxHeartbeats 4000000 in
theorem rback_law {f : Bool} {xs ds : List Nat} (hx : Lm xs) (hx' : xs.length ≤ 35184372087808) (hd : Lm ds) (hd' : ds.length ≤ 35184372087808) :
    PT Try.prog 11 [FX f xs ds] (isV (.val (.bool true))) := by
  have lx := len_ratio (b := f) hx' hd'
  refine PCalls.enter (n := 88) (rs := [.tmp 2]) (tb := [(16, [(0, []), (1, []), (2, []), (3, []), (4, []), (5, [3]), (6, []), (7, []), (8, []), (9, []), (10, []), (11, []), (12, []), (13, []), (14, []), (15, []), (16, []), (17, []), (18, []), (19, []), (20, []), (21, []), (22, []), (23, []), (24, []), (25, []), (26, []), (27, []), (28, []), (29, [])]), (1000016, [(0, []), (1, []), (3, []), (7, []), (7, []), (23, []), (63, []), (127, []), (255, []), (511, []), (511, []), (1535, []), (4095, []), (8191, []), (16383, []), (32767, []), (65535, []), (32767, []), (262143, []), (524287, []), (1048575, []), (2097151, []), (4194303, []), (8388607, []), (16777215, []), (16777215, []), (67108863, []), (134217727, []), (268435455, []), (536870911, [])])]) Try.func11 rfl rfl rfl (by kernel_rfl) (by kernel_rfl) (by simp) fun c hc ht => ?_
  simp -implicitDefEqProofs (disch := omega) only [go_sem, ht, eq_self]
  ((refine pCall_view (by simp -implicitDefEqProofs (disch := omega) only [go_sem, ht, eq_self] <;> rfl) (by simp -implicitDefEqProofs (disch := omega) only [go_sem, ht, eq_self]) (by first | (apply Or.inl; simp -implicitDefEqProofs (disch := omega) only [go_sem, ht, eq_self]; done) | (apply Or.inr; rintro r rfl; rfl)) (awake_ratio) ?_; rintro _ nx_1 - rfl hnx_1; (try simp only [put_nx, withH_nx, begP_nx] at hnx_1); simp -implicitDefEqProofs (disch := omega) only [go_sem, ht, eq_self]))
  by_cases hl : 1500 < 1 + xs.length + ds.length
  · ((refine pCall_view (by simp -implicitDefEqProofs (disch := omega) only [go_sem, ht, eq_self] <;> rfl) (by simp -implicitDefEqProofs (disch := omega) only [go_sem, ht, eq_self]) (by first | (apply Or.inl; simp -implicitDefEqProofs (disch := omega) only [go_sem, ht, eq_self]; done) | (apply Or.inr; rintro r rfl; rfl)) (lx) ?_; rintro _ nx_2 - rfl hnx_2; (try simp only [put_nx, withH_nx, begP_nx] at hnx_2); simp -implicitDefEqProofs (disch := omega) only [go_sem, ht, eq_self]))
    (refine end_treeW 0 ?_; simp -implicitDefEqProofs (disch := omega) only [go_sem, ht, eq_self])
  by_cases hl1 : 400 < xs.length
  · ((refine pCall_view (by simp -implicitDefEqProofs (disch := omega) only [go_sem, ht, eq_self] <;> rfl) (by simp -implicitDefEqProofs (disch := omega) only [go_sem, ht, eq_self]) (by first | (apply Or.inl; simp -implicitDefEqProofs (disch := omega) only [go_sem, ht, eq_self]; done) | (apply Or.inr; rintro r rfl; rfl)) (lx) ?_; rintro _ nx_3 - rfl hnx_3; (try simp only [put_nx, withH_nx, begP_nx] at hnx_3); simp -implicitDefEqProofs (disch := omega) only [go_sem, ht, eq_self]))
    (refine end_treeW 0 ?_; simp -implicitDefEqProofs (disch := omega) only [go_sem, ht, eq_self])
  by_cases hl2 : 400 < ds.length
  · ((refine pCall_view (by simp -implicitDefEqProofs (disch := omega) only [go_sem, ht, eq_self] <;> rfl) (by simp -implicitDefEqProofs (disch := omega) only [go_sem, ht, eq_self]) (by first | (apply Or.inl; simp -implicitDefEqProofs (disch := omega) only [go_sem, ht, eq_self]; done) | (apply Or.inr; rintro r rfl; rfl)) (lx) ?_; rintro _ nx_4 - rfl hnx_4; (try simp only [put_nx, withH_nx, begP_nx] at hnx_4); simp -implicitDefEqProofs (disch := omega) only [go_sem, ht, eq_self]))
    (refine end_treeW 0 ?_; simp -implicitDefEqProofs (disch := omega) only [go_sem, ht, eq_self])
  obtain ⟨K, hK, hK1, kx, kd⟩ : ∃ K, K ≤ 400 ∧ 1 ≤ K ∧ xs.length ≤ K ∧ ds.length ≤ K := ⟨400, Nat.le_refl _, by omega, by omega, by omega⟩
  have pr := Fn.raw (b := f) hx hd kx kd (by omega) hK1
  generalize FV f xs ds = q at *
  have zq := pr.zq
  have hn : (digs q.num.natAbs).length ≤ 4000 := Nat.le_trans (digs_limbs zq.num) (by omega)
  have hdn : (digs q.den).length ≤ 4000 := Nat.le_trans (digs_limbs zq.den) (by omega)
  have c1 := rtextW pr (by omega)
  have c4 := rwholeW pr (by omega)
  have c5 := rtrimW pr
  have c6 := same_rt zq (by omega) rfl
  have e49 : (#[47, 49] : Array UInt8).size = 2 := rfl
  have hsz : (rtxt q).size ≤ 100000 := by
    unfold rtxt
    have h1 := wtxt_sz q.num
    have h2 := txt_sz q.den
    have h3 : (⟨#[47]⟩ : ByteArray).size = 1 := rfl
    split
    · omega
    · rw [ByteArray.size_append, ByteArray.size_append]; omega
  have h2' : (⟨#[47, 49]⟩ : ByteArray).size = 2 := rfl
  clear pr zq
  by_cases h1 : q.den = 1
  · obtain ⟨b1, b2, b3, b4⟩ := back_one h1 hn
    have c2 := rparse_calls (sl_end b1) (by omega)
    have c3 := rparse_calls b3 (by rw [ByteArray.size_append]; omega)
    rw [b2] at c2
    rw [b4] at c3
    simp only [FO_some] at c2 c3
    rw [if_pos h1, decide_eq_true h1] at c4
    clear b2 b3 b4 hn hdn h1
    generalize rtxt q = s at *
    ((refine pCall_view (by simp -implicitDefEqProofs (disch := omega) only [go_sem, ht, eq_self] <;> rfl) (by simp -implicitDefEqProofs (disch := omega) only [go_sem, ht, eq_self]) (by first | (apply Or.inl; simp -implicitDefEqProofs (disch := omega) only [go_sem, ht, eq_self]; done) | (apply Or.inr; rintro r rfl; rfl)) (lx) ?_; rintro _ nx_5 - rfl hnx_5; (try simp only [put_nx, withH_nx, begP_nx] at hnx_5); simp -implicitDefEqProofs (disch := omega) only [go_sem, ht, eq_self]); (refine pCall_view (by simp -implicitDefEqProofs (disch := omega) only [go_sem, ht, eq_self] <;> rfl) (by simp -implicitDefEqProofs (disch := omega) only [go_sem, ht, eq_self]) (by first | (apply Or.inl; simp -implicitDefEqProofs (disch := omega) only [go_sem, ht, eq_self]; done) | (apply Or.inr; rintro r rfl; rfl)) (c1) ?_; rintro _ nx_6 - rfl hnx_6; (try simp only [put_nx, withH_nx, begP_nx] at hnx_6); simp -implicitDefEqProofs (disch := omega) only [go_sem, ht, eq_self]); (refine pCall_view (by simp -implicitDefEqProofs (disch := omega) only [go_sem, ht, eq_self] <;> rfl) (by simp -implicitDefEqProofs (disch := omega) only [go_sem, ht, eq_self]) (by first | (apply Or.inl; simp -implicitDefEqProofs (disch := omega) only [go_sem, ht, eq_self]; done) | (apply Or.inr; rintro r rfl; rfl)) (c2) ?_; rintro _ nx_7 - rfl hnx_7; (try simp only [put_nx, withH_nx, begP_nx] at hnx_7); simp -implicitDefEqProofs (disch := omega) only [go_sem, ht, eq_self]))
    refine ⟨by omega, ?_⟩
    ((refine pCall_view (by simp -implicitDefEqProofs (disch := omega) only [go_sem, ht, eq_self] <;> rfl) (by simp -implicitDefEqProofs (disch := omega) only [go_sem, ht, eq_self]) (by first | (apply Or.inl; simp -implicitDefEqProofs (disch := omega) only [go_sem, ht, eq_self]; done) | (apply Or.inr; rintro r rfl; rfl)) (c3) ?_; rintro _ nx_8 - rfl hnx_8; (try simp only [put_nx, withH_nx, begP_nx] at hnx_8); simp -implicitDefEqProofs (disch := omega) only [go_sem, ht, eq_self]); (refine pCall_view (by simp -implicitDefEqProofs (disch := omega) only [go_sem, ht, eq_self] <;> rfl) (by simp -implicitDefEqProofs (disch := omega) only [go_sem, ht, eq_self]) (by first | (apply Or.inl; simp -implicitDefEqProofs (disch := omega) only [go_sem, ht, eq_self]; done) | (apply Or.inr; rintro r rfl; rfl)) (c4) ?_; rintro _ nx_9 - rfl hnx_9; (try simp only [put_nx, withH_nx, begP_nx] at hnx_9); simp -implicitDefEqProofs (disch := omega) only [go_sem, ht, eq_self]))
    refine LW.loopW hc ht (by kernel_rfl) (fun t => t.sl 1 = .ptr 0 0 ∧ t.H 0 = some [.val (.bool f), .sl xs.length (xs.map U), .sl ds.length (ds.map U)] ∧ t.sl 3 = .val (.string s) ∧ t.sl 5 = .val (.int .i64 0) ∧ t.sl 7 = .val (.int .i64 0) ∧ t.sl 9 = .val (.bool true) ∧
      (∃ a, t.sl 4 = .ptr a 0 ∧ a < t.nx ∧ t.H a = some [.val (.bool (decide (q.num < 0))), .sl (D q.num.natAbs).length ((D q.num.natAbs).map U), .sl (D q.den).length ((D q.den).map U)]) ∧ (∃ a, t.sl 6 = .ptr a 0 ∧ a < t.nx ∧ t.H a = some [.val (.bool (decide (q.num < 0))), .sl (D q.num.natAbs).length ((D q.num.natAbs).map U), .sl (D q.den).length ((D q.den).map U)]) ∧ 0 < t.nx ∧ ∃ i : Nat, i ≤ s.size ∧ t.sl 11 = .val (.int .i64 i) ∧ t.sl 10 = .val (.bool false))
      (fun t => match t.sl 11 with | .val (.int _ i) => s.size - i.toNat | _ => 0) ?_ ?_
    · simp -implicitDefEqProofs (disch := omega) only [go_sem, ht, eq_self]
      exact ⟨⟨_, rfl, by omega, by rw [upd_ne _ _ (by omega), upd_ne _ _ (by omega)]; exact upd_self _ _ _⟩, ⟨_, rfl, by omega, by rw [upd_ne _ _ (by omega)]; exact upd_self _ _ _⟩, 0, by omega, rfl⟩
    · rintro t ⟨g1, gH, g3, g5, g7, g9, ⟨a4, g4, ha4, gH4⟩, ⟨a6, g6, ha6, gH6⟩, hnx, i, hi, g11, g10⟩
      by_cases hie : i = s.size
      · simp -implicitDefEqProofs (disch := omega) only [go_sem, ht, g1, gH, g3, g5, g7, g9, g4, gH4, g6, gH6, g11, g10, eq_self]
        ((refine pCall_view (by simp -implicitDefEqProofs (disch := omega) only [g1, gH, g3, g5, g7, g9, g4, gH4, g6, gH6, g11, g10, if_pos, go_sem, ht, eq_self] <;> rfl) (by simp -implicitDefEqProofs (disch := omega) only [g1, gH, g3, g5, g7, g9, g4, gH4, g6, gH6, g11, g10, if_pos, go_sem, ht, eq_self]) (by first | (apply Or.inl; simp -implicitDefEqProofs (disch := omega) only [g1, gH, g3, g5, g7, g9, g4, gH4, g6, gH6, g11, g10, if_pos, go_sem, ht, eq_self]; done) | (apply Or.inr; rintro r rfl; rfl)) (c5) ?_; rintro _ nx_10 - rfl hnx_10; (try simp only [put_nx, withH_nx, begP_nx] at hnx_10); simp -implicitDefEqProofs (disch := omega) only [g1, gH, g3, g5, g7, g9, g4, gH4, g6, gH6, g11, g10, if_pos, go_sem, ht, eq_self]); (refine pCall_view (by simp -implicitDefEqProofs (disch := omega) only [g1, gH, g3, g5, g7, g9, g4, gH4, g6, gH6, g11, g10, if_pos, go_sem, ht, eq_self] <;> rfl) (by simp -implicitDefEqProofs (disch := omega) only [g1, gH, g3, g5, g7, g9, g4, gH4, g6, gH6, g11, g10, if_pos, go_sem, ht, eq_self]) (by first | (apply Or.inl; simp -implicitDefEqProofs (disch := omega) only [g1, gH, g3, g5, g7, g9, g4, gH4, g6, gH6, g11, g10, if_pos, go_sem, ht, eq_self]; done) | (apply Or.inr; rintro r rfl; rfl)) (c6) ?_; rintro _ nx_11 - rfl hnx_11; (try simp only [put_nx, withH_nx, begP_nx] at hnx_11); simp -implicitDefEqProofs (disch := omega) only [g1, gH, g3, g5, g7, g9, g4, gH4, g6, gH6, g11, g10, if_pos, go_sem, ht, eq_self]); (refine pCall_view (by simp -implicitDefEqProofs (disch := omega) only [g1, gH, g3, g5, g7, g9, g4, gH4, g6, gH6, g11, g10, if_pos, go_sem, ht, eq_self] <;> rfl) (by simp -implicitDefEqProofs (disch := omega) only [g1, gH, g3, g5, g7, g9, g4, gH4, g6, gH6, g11, g10, if_pos, go_sem, ht, eq_self]) (by first | (apply Or.inl; simp -implicitDefEqProofs (disch := omega) only [g1, gH, g3, g5, g7, g9, g4, gH4, g6, gH6, g11, g10, if_pos, go_sem, ht, eq_self]; done) | (apply Or.inr; rintro r rfl; rfl)) (c6) ?_; rintro _ nx_12 - rfl hnx_12; (try simp only [put_nx, withH_nx, begP_nx] at hnx_12); simp -implicitDefEqProofs (disch := omega) only [g1, gH, g3, g5, g7, g9, g4, gH4, g6, gH6, g11, g10, if_pos, go_sem, ht, eq_self]))
        (refine end_treeW 0 ?_; simp -implicitDefEqProofs (disch := omega) only [go_sem, ht, eq_self])
      · have hlt : i < s.size := by omega
        have hgx : s[i]? = some (s[i]'hlt) := by simp [hlt]
        have hne := b1 i
        rw [hgx] at hne
        generalize s[i]'hlt = xb at *
        obtain ⟨x, hxb⟩ : ∃ x, xb.toNat = x := ⟨_, rfl⟩
        have hx47 : x ≠ 47 := fun e => hne (by congr 1; exact UInt8.toNat_inj.1 (by rw [hxb, e]; rfl))
        have hxd : decide ((x : Int) = 47) = false := by simp; omega
        simp -implicitDefEqProofs (disch := omega) only [go_sem, ht, g1, gH, g3, g5, g7, g9, g4, gH4, g6, gH6, g11, g10, hgx, hxb, hxd, eq_self]
        exact ⟨⟨⟨a4, rfl, ha4, gH4⟩, ⟨a6, rfl, ha6, gH6⟩, hnx, i + 1, by omega, rfl⟩, by omega⟩
  · obtain ⟨w, hw, b1, b2, b3, e, b4, he⟩ := back_two h1 hn hdn
    have c2 := rparse_calls b1 (by omega)
    have c3 := rparse_calls b3 (by rw [ByteArray.size_append]; omega)
    rw [b2] at c2
    rw [b4] at c3
    simp only [FO_some, FO_none] at c2 c3
    rw [if_neg h1, decide_eq_false h1, WC0] at c4
    clear b2 b3 b4 hn hdn h1
    generalize rtxt q = s at *
    ((refine pCall_view (by simp -implicitDefEqProofs (disch := omega) only [go_sem, ht, eq_self] <;> rfl) (by simp -implicitDefEqProofs (disch := omega) only [go_sem, ht, eq_self]) (by first | (apply Or.inl; simp -implicitDefEqProofs (disch := omega) only [go_sem, ht, eq_self]; done) | (apply Or.inr; rintro r rfl; rfl)) (lx) ?_; rintro _ nx_13 - rfl hnx_13; (try simp only [put_nx, withH_nx, begP_nx] at hnx_13); simp -implicitDefEqProofs (disch := omega) only [go_sem, ht, eq_self]); (refine pCall_view (by simp -implicitDefEqProofs (disch := omega) only [go_sem, ht, eq_self] <;> rfl) (by simp -implicitDefEqProofs (disch := omega) only [go_sem, ht, eq_self]) (by first | (apply Or.inl; simp -implicitDefEqProofs (disch := omega) only [go_sem, ht, eq_self]; done) | (apply Or.inr; rintro r rfl; rfl)) (c1) ?_; rintro _ nx_14 - rfl hnx_14; (try simp only [put_nx, withH_nx, begP_nx] at hnx_14); simp -implicitDefEqProofs (disch := omega) only [go_sem, ht, eq_self]); (refine pCall_view (by simp -implicitDefEqProofs (disch := omega) only [go_sem, ht, eq_self] <;> rfl) (by simp -implicitDefEqProofs (disch := omega) only [go_sem, ht, eq_self]) (by first | (apply Or.inl; simp -implicitDefEqProofs (disch := omega) only [go_sem, ht, eq_self]; done) | (apply Or.inr; rintro r rfl; rfl)) (c2) ?_; rintro _ nx_15 - rfl hnx_15; (try simp only [put_nx, withH_nx, begP_nx] at hnx_15); simp -implicitDefEqProofs (disch := omega) only [go_sem, ht, eq_self]))
    refine ⟨by omega, ?_⟩
    have hed : decide (e = 0) = false := by simp [he]
    ((refine pCall_view (by simp -implicitDefEqProofs (disch := omega) only [go_sem, ht, eq_self] <;> rfl) (by simp -implicitDefEqProofs (disch := omega) only [go_sem, ht, eq_self]) (by first | (apply Or.inl; simp -implicitDefEqProofs (disch := omega) only [go_sem, ht, eq_self]; done) | (apply Or.inr; rintro r rfl; rfl)) (c3) ?_; rintro _ nx_16 - rfl hnx_16; (try simp only [put_nx, withH_nx, begP_nx] at hnx_16); simp -implicitDefEqProofs (disch := omega) only [go_sem, ht, eq_self]); (refine pCall_view (by simp -implicitDefEqProofs (disch := omega) only [go_sem, ht, eq_self] <;> rfl) (by simp -implicitDefEqProofs (disch := omega) only [go_sem, ht, eq_self]) (by first | (apply Or.inl; simp -implicitDefEqProofs (disch := omega) only [go_sem, ht, eq_self]; done) | (apply Or.inr; rintro r rfl; rfl)) (c4) ?_; rintro _ nx_17 - rfl hnx_17; (try simp only [put_nx, withH_nx, begP_nx] at hnx_17); simp -implicitDefEqProofs (disch := omega) only [go_sem, ht, eq_self]))
    refine LW.loopW hc ht (by kernel_rfl) (fun t => t.sl 1 = .ptr 0 0 ∧ t.H 0 = some [.val (.bool f), .sl xs.length (xs.map U), .sl ds.length (ds.map U)] ∧ t.sl 3 = .val (.string s) ∧ t.sl 5 = .val (.int .i64 0) ∧ t.sl 7 = .val (.int .i64 e) ∧ t.sl 9 = .val (.bool false) ∧
      (∃ a, t.sl 4 = .ptr a 0 ∧ a < t.nx ∧ t.H a = some [.val (.bool (decide (q.num < 0))), .sl (D q.num.natAbs).length ((D q.num.natAbs).map U), .sl (D q.den).length ((D q.den).map U)]) ∧ (∃ a, t.sl 6 = .ptr a 0 ∧ a < t.nx ∧ t.H a = some [.val (.bool false), .sl 0 [], .sl 0 []]) ∧ 0 < t.nx ∧ ∃ i : Nat, i ≤ s.size ∧ t.sl 11 = .val (.int .i64 i) ∧ ∃ k : Bool, k = decide (w < i) ∧ t.sl 10 = .val (.bool k))
      (fun t => match t.sl 11 with | .val (.int _ i) => s.size - i.toNat | _ => 0) ?_ ?_
    · simp -implicitDefEqProofs (disch := omega) only [go_sem, ht, eq_self]
      exact ⟨⟨_, rfl, by omega, by rw [upd_ne _ _ (by omega), upd_ne _ _ (by omega)]; exact upd_self _ _ _⟩, ⟨_, rfl, by omega, by rw [upd_ne _ _ (by omega)]; exact upd_self _ _ _⟩, 0, by omega, rfl, false, by simp, rfl⟩
    · rintro t ⟨g1, gH, g3, g5, g7, g9, ⟨a4, g4, ha4, gH4⟩, ⟨a6, g6, ha6, gH6⟩, hnx, i, hi, g11, k, hk, g10⟩
      by_cases hie : i = s.size
      · rw [decide_eq_true (by omega)] at hk
        subst hk
        simp -implicitDefEqProofs (disch := omega) only [go_sem, ht, g1, gH, g3, g5, g7, g9, g4, gH4, g6, gH6, g11, g10, eq_self]
        ((refine pCall_view (by simp -implicitDefEqProofs (disch := omega) only [g1, gH, g3, g5, g7, g9, g4, gH4, g6, gH6, g11, g10, if_pos, hed, go_sem, ht, eq_self] <;> rfl) (by simp -implicitDefEqProofs (disch := omega) only [g1, gH, g3, g5, g7, g9, g4, gH4, g6, gH6, g11, g10, if_pos, hed, go_sem, ht, eq_self]) (by first | (apply Or.inl; simp -implicitDefEqProofs (disch := omega) only [g1, gH, g3, g5, g7, g9, g4, gH4, g6, gH6, g11, g10, if_pos, hed, go_sem, ht, eq_self]; done) | (apply Or.inr; rintro r rfl; rfl)) (c5) ?_; rintro _ nx_18 - rfl hnx_18; (try simp only [put_nx, withH_nx, begP_nx] at hnx_18); simp -implicitDefEqProofs (disch := omega) only [g1, gH, g3, g5, g7, g9, g4, gH4, g6, gH6, g11, g10, if_pos, hed, go_sem, ht, eq_self]); (refine pCall_view (by simp -implicitDefEqProofs (disch := omega) only [g1, gH, g3, g5, g7, g9, g4, gH4, g6, gH6, g11, g10, if_pos, hed, go_sem, ht, eq_self] <;> rfl) (by simp -implicitDefEqProofs (disch := omega) only [g1, gH, g3, g5, g7, g9, g4, gH4, g6, gH6, g11, g10, if_pos, hed, go_sem, ht, eq_self]) (by first | (apply Or.inl; simp -implicitDefEqProofs (disch := omega) only [g1, gH, g3, g5, g7, g9, g4, gH4, g6, gH6, g11, g10, if_pos, hed, go_sem, ht, eq_self]; done) | (apply Or.inr; rintro r rfl; rfl)) (c6) ?_; rintro _ nx_19 - rfl hnx_19; (try simp only [put_nx, withH_nx, begP_nx] at hnx_19); simp -implicitDefEqProofs (disch := omega) only [g1, gH, g3, g5, g7, g9, g4, gH4, g6, gH6, g11, g10, if_pos, hed, go_sem, ht, eq_self]))
        (refine end_treeW 0 ?_; simp -implicitDefEqProofs (disch := omega) only [go_sem, ht, eq_self])
      · have hlt : i < s.size := by omega
        have hgx : s[i]? = some (s[i]'hlt) := by simp [hlt]
        have hne := b1.no i
        have hye := b1.yes hw
        by_cases hiw : i = w
        · rw [decide_eq_false (by omega)] at hk
          subst hk
          subst hiw
          have h47 : (47 : UInt8).toNat = 47 := rfl
          simp -implicitDefEqProofs (disch := omega) only [go_sem, ht, g1, gH, g3, g5, g7, g9, g4, gH4, g6, gH6, g11, g10, hye, h47, eq_self]
          exact ⟨⟨⟨a4, rfl, ha4, gH4⟩, ⟨a6, rfl, ha6, gH6⟩, hnx, i + 1, by omega, rfl, by simp⟩, by omega⟩
        · by_cases hik : w < i
          · rw [decide_eq_true hik] at hk
            subst hk
            simp -implicitDefEqProofs (disch := omega) only [go_sem, ht, g1, gH, g3, g5, g7, g9, g4, gH4, g6, gH6, g11, g10, eq_self]
            exact ⟨⟨⟨a4, rfl, ha4, gH4⟩, ⟨a6, rfl, ha6, gH6⟩, hnx, i + 1, by omega, rfl, by simp; omega⟩, by omega⟩
          · rw [decide_eq_false hik] at hk
            subst hk
            have hne := hne (by omega)
            rw [hgx] at hne
            generalize s[i]'hlt = xb at *
            obtain ⟨x, hxb⟩ : ∃ x, xb.toNat = x := ⟨_, rfl⟩
            have hx47 : x ≠ 47 := fun e => hne (by congr 1; exact UInt8.toNat_inj.1 (by rw [hxb, e]; rfl))
            have hxd : decide ((x : Int) = 47) = false := by simp; omega
            simp -implicitDefEqProofs (disch := omega) only [go_sem, ht, g1, gH, g3, g5, g7, g9, g4, gH4, g6, gH6, g11, g10, hgx, hxb, hxd, eq_self]
            exact ⟨⟨⟨a4, rfl, ha4, gH4⟩, ⟨a6, rfl, ha6, gH6⟩, hnx, i + 1, by omega, rfl, by simp; omega⟩, by omega⟩
open Go.ChangeShapes Go.WideShapes Go.ChangeAt Go.RowKit
set_option maxRecDepth 100000 in
theorem ratioBack_lifted (os : Os) (started : os.Started) (H : Type) (enc : TypeId × Value → H) :
    ReturnsInHanded {} Try.checked os 11 .any (Rows.ratioBackSpec.pre6 enc Try.prog Try.f11 Rows.ratioBackRow.domain false) (Rows.ratioBackSpec.post enc Try.prog Try.f11 false true false false) := by
  refine returnsInHanded_of_change_sized (C := Try.checked) law_own started (by kernel_rfl) Try.func11
    (ChangeSpec.witness6 (enc := enc) (C := Try.checked) false ⟨#[], #[.agg #[.bool false, .slice none 0 0, .slice none 0 0]], []⟩ 8 (by kernel_rfl) (by kernel_rfl) (by kernel_rfl) (by kernel_rfl)) ?_
  intro W base args ds gs before hval0 hW hcnd hsz0 _
  have hsz : (DataW.weightsEach Try.prog (Try.f11.params.toList ++ Rows.ratioBackSpec.plain.varTypes Try.prog) (ds ++ gs)).all (· ≤ reachBytes) = true := hsz0
  have hval : ∀ (j : Nat) t v, Try.f11.params[j]? = some t → args[j]? = some v → Value.okWide Try.prog W .any base t v := hval0
  have hW' := hW
  obtain ⟨p, q, hA0, hV, rfl, hfz, hnd⟩ := hW
  have hA : DataW.TrodAll enc Try.prog W 0 (fun _ => true) true Try.f11.params.toList args.toList ds p := hA0
  rw [Try.params11] at hA hval hsz
  obtain ⟨v0, vs0, d0, ds0, p0, q0, hargs, rfl, rfl, h0, r0⟩ := trodAll_cons hA
  obtain ⟨rfl, rfl, rfl⟩ := trodAll_nil r0
  obtain rfl : args = #[v0] := by cases args; simp_all
  obtain ⟨rfl, rfl⟩ := trodVars_none hV
  simp only [List.append_nil, List.cons_append, List.nil_append, DataW.weightsEach, List.all_append, Bool.and_eq_true] at hsz
  have lt0 : ∀ x ∈ p0, x.block < W.heap.size := by obtain ⟨m, hm⟩ := h0; exact DataW.trod_lt m _ _ _ hm
  obtain ⟨f0, x0, y0, lm0, len0, ln0, lem0, rep0⟩ := arg_ratio Try.underlying28 (by kernel_rfl) rfl rfl (by kernel_rfl) (by kernel_rfl) Try.underlying24 (by kernel_rfl) rfl rfl (by kernel_rfl) (by kernel_rfl) Try.underlying4 Try.underlying22 Try.underlying22 Try.underlying39 (by kernel_rfl) (by kernel_rfl) (by kernel_rfl) (hval 0 28 v0 rfl rfl) h0 hsz.1
  refine (law_run (rback_law lm0 len0 ln0 lem0) (vs := [v0]) (by simp only [RepL]; exact ⟨rep0, trivial⟩)).mono fun e W' ⟨⟨v, r, he, hr, hx⟩, bel⟩ => ?_
  subst he; rw [hx _ hr]
  exact ⟨_, rfl, _, _, _, [], _, [], hW', trodAll_mk1 (shut_bool Try.underlying4 _), (trodAll_cons_mk (Below.trod law_laidOut (by kernel_rfl) (of_decide_eq_true (by kernel_rfl)) h0 bel lt0) trodAll_mk0), rfl, bel.frame _, fun h => by cases h⟩
theorem ratioBack_holds : Rows.RatioBackSaid :=
  OpenClaim.holds_of_wide 11 Try.f11 rfl rfl rfl rfl rfl rfl rfl ⟨rfl, rfl, rfl, rfl, rfl⟩ rfl rfl rfl rfl rfl (by kernel_rfl) Try.func11 (by kernel_rfl)
    (of_decide_eq_true (by kernel_rfl)) (by unfold Func.isWrapper; first | (rw [if_pos (by decide +kernel)]; kernel_rfl) | (rw [if_neg (by decide +kernel)]; exact ⟨rfl, rfl⟩))
    (fun os started H enc _ => ratioBack_lifted os started H enc)
end Go.Proofs.Ytgebemjmckgomaa
