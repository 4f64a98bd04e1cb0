/- The document's numbers and their texts. -/
import Derived.Test.YtgebemjmckgomaaRefH
import Derived.Test.YtgebemjmckgomaaWholeT
set_option maxRecDepth 100000
set_option linter.unusedVariables false
set_option linter.unusedSimpArgs false
namespace Go.Proofs.Ytgebemjmckgomaa.Ref

/-- The lowest k decimal digits, the highest first. -/
def low : Nat → Nat → List Nat
  | 0, _ => []
  | k + 1, n => (n / 10 ^ k % 10) :: low k n
theorem low_zero (n : Nat) : low 0 n = [] := rfl
theorem low_succ (k n : Nat) : low (k + 1) n = (n / 10 ^ k % 10) :: low k n := rfl
theorem low_len : ∀ (k n : Nat), (low k n).length = k
  | 0, _ => rfl
  | k + 1, n => by rw [low_succ, List.length_cons, low_len k n]
theorem low_add : ∀ (a b n : Nat), low (a + b) n = low a (n / 10 ^ b) ++ low b n
  | 0, b, n => by rw [Nat.zero_add]; rfl
  | a + 1, b, n => by
    rw [show a + 1 + b = (a + b) + 1 by omega, low_succ, low_succ, low_add a b n, Nat.div_div_eq_div_mul, ← Nat.pow_add, Nat.add_comm b a]; rfl
theorem low_four (n : Nat) : low 4 (n % 10000) = low 4 n := by
  simp only [low_succ, low_zero]
  have h3 : (10 : Nat) ^ 3 = 1000 := rfl
  have h2 : (10 : Nat) ^ 2 = 100 := rfl
  have h1 : (10 : Nat) ^ 1 = 10 := rfl
  have h0 : (10 : Nat) ^ 0 = 1 := rfl
  rw [h3, h2, h1, h0]
  congr 1
  · omega
  congr 1
  · omega
  congr 1
  · omega
  congr 1
  omega
theorem low_digs : ∀ (m N : Nat), 10 ^ m ≤ N → N < 10 ^ (m + 1) → low (m + 1) N = (digs N).reverse
  | 0, N, h1, h2 => by
    have e : N / 10 = 0 := by omega
    rw [digs_pos (by omega), e, digs_zero, low_succ, low_zero]
    simp
  | m + 1, N, h1, h2 => by
    have h1' : 10 ^ m ≤ N / 10 := by rw [Nat.pow_succ] at h1; omega
    have h2' : N / 10 < 10 ^ (m + 1) := by rw [Nat.pow_succ] at h2; omega
    have hp : 0 < 10 ^ m := Nat.pow_pos (by decide)
    rw [low_add (m + 1) 1 N, digs_pos (by omega), List.reverse_cons, ← low_digs m (N / 10) h1' h2', Nat.pow_one]
    congr 1
    rw [low_succ, low_zero]; simp
/-- Their bytes. -/
def lowL (k n : Nat) : List UInt8 := (low k n).map fun d => UInt8.ofNat (dig d)
def lowB (k n : Nat) : ByteArray := ⟨(lowL k n).toArray⟩
theorem lowL_succ (k n : Nat) : lowL (k + 1) n = UInt8.ofNat (dig (n / 10 ^ k % 10)) :: lowL k n := rfl
theorem lowL_len (k n : Nat) : (lowL k n).length = k := by rw [lowL, List.length_map, low_len]
theorem lowB_size (k n : Nat) : (lowB k n).size = k := by rw [lowB, bsize, lowL_len]
theorem bapp (l m : List UInt8) : (⟨l.toArray⟩ : ByteArray) ++ ⟨m.toArray⟩ = ⟨(l ++ m).toArray⟩ := by
  apply ByteArray.ext; simp [ByteArray.data_append]
theorem lowB_add (a b n : Nat) : lowB a (n / 10 ^ b) ++ lowB b n = lowB (a + b) n := by
  rw [lowB, lowB, lowB, bapp]
  unfold lowL
  rw [low_add, List.map_append]
theorem lowB_one (k n : Nat) : (⟨#[UInt8.ofNat (dig (n / 10 ^ k % 10))]⟩ : ByteArray) ++ lowB k n = lowB (k + 1) n := by
  rw [lowB, lowB, lowL_succ, show (#[UInt8.ofNat (dig (n / 10 ^ k % 10))] : Array UInt8) = [UInt8.ofNat (dig (n / 10 ^ k % 10))].toArray from rfl, bapp]; rfl
theorem lowB_get (m n : Nat) : (lowB (m + 1) n)[0]? = some (UInt8.ofNat (dig (n / 10 ^ m % 10))) := by
  rw [lowB, lowL_succ, bget0]
theorem lowB_ext (m n : Nat) : (lowB (m + 1) n).extract 1 (m + 1) = lowB m n := by
  have := bext (UInt8.ofNat (dig (n / 10 ^ m % 10))) (lowL m n)
  rw [lowL_len] at this
  rw [lowB, lowL_succ, this]; rfl
theorem lowB_txt {m N : Nat} (h1 : 10 ^ m ≤ N) (h2 : N < 10 ^ (m + 1)) : lowB (m + 1) N = txt N := by
  have hp : 0 < 10 ^ m := Nat.pow_pos (by decide)
  rw [txt_pos (by omega), lowB, lowL, low_digs m N h1 h2, List.map_reverse, List.map_reverse, List.map_map]; rfl
theorem digit_byte {d : Nat} (h : d < 10) : (⟨#[48, 49, 50, 51, 52, 53, 54, 55, 56, 57]⟩ : ByteArray).extract d (d + 1) = ⟨#[UInt8.ofNat (dig d)]⟩ := by
  have : ∀ d : Fin 10, (⟨#[48, 49, 50, 51, 52, 53, 54, 55, 56, 57]⟩ : ByteArray).extract d.1 (d.1 + 1) = ⟨#[UInt8.ofNat (dig d.1)]⟩ := by decide
  exact this ⟨d, h⟩
end Go.Proofs.Ytgebemjmckgomaa.Ref
namespace Go.Proofs.Ytgebemjmckgomaa.Ref

theorem D_get : ∀ (i n : Nat), (D n).getD i 0 = n / 10000 ^ i % 10000
  | 0, n => by
    by_cases h : n = 0
    · subst h; rw [D_zero]; rfl
    · rw [D_pos h]; simp
  | i + 1, n => by
    by_cases h : n = 0
    · subst h; rw [D_zero]; simp
    · rw [D_pos h, List.getD_cons_succ, D_get i, Nat.div_div_eq_div_mul, Nat.pow_succ, Nat.mul_comm]
theorem pow4 (i : Nat) : 10000 ^ i = 10 ^ (4 * i) := by rw [Nat.pow_mul]
theorem D_lt_ten (n : Nat) : n < 10 ^ (4 * (D n).length) := by
  rw [← pow4]
  exact D_len_le.1 (Nat.le_refl _)
theorem text_step (i n : Nat) : lowB 4 ((D n).getD i 0) ++ lowB (4 * i) n = lowB (4 * (i + 1)) n := by
  rw [D_get, pow4, lowB, lowL, low_four, ← lowL, ← lowB, lowB_add]
  congr 1; omega
set_option maxHeartbeats 2000000 in
theorem text_z {k : Nat} {z : Int} (h : Z k z) (hk : k ≤ 100000) : PT Try.prog 105 [NZ z] (isV (.val (.string (wtxt z)))) := by
  have hL := lenZ h
  have hok := okZ h (by omega)
  rw [NZ_def]
  unfold wtxt
  obtain ⟨sg, esg⟩ : ∃ sg, decide (z < 0) = sg := ⟨_, rfl⟩
  have hsg : (z < 0) ↔ sg = true := by rw [← esg]; simp
  have hz0 : z.natAbs = 0 → sg = false := fun h0 => by rw [← esg]; simp; omega
  rw [esg]
  simp only [hsg]
  generalize z.natAbs = n at *
  clear hsg esg h
  by_cases h0 : n = 0
  · subst h0
    have hl : (D 0).length = 0 := by rw [D_zero]; rfl
    rw [hz0 rfl]
    refine PCalls.enter (n := 56) (rs := [.tmp 2]) (tb := []) Try.func105 rfl rfl rfl (by kernel_rfl) (by kernel_rfl) (by simp) fun c hc ht => ?_
    simp -implicitDefEqProofs (disch := omega) only [go_sem, ht, eq_self]
    (refine end_treeW 0 ?_; simp -implicitDefEqProofs (disch := omega) only [go_sem, ht, eq_self])
    rfl
  have hlp : 0 < (D n).length := D_len_pos h0
  have hlt := Hide.mk (D_lt_ten n)
  refine PCalls.enter (n := 56) (rs := [.tmp 2]) (tb := []) Try.func105 rfl rfl rfl (by kernel_rfl) (by kernel_rfl) (by simp) fun c hc ht => ?_
  simp -implicitDefEqProofs (disch := omega) only [go_sem, ht, eq_self]
  refine LW.loopW hc ht (by kernel_rfl) (fun t => t.sl 1 = .ptr 0 0 ∧ t.H 0 = some [.val (.bool sg), .sl (D n).length ((D n).map I)] ∧ ∃ i : Nat, i ≤ (D n).length ∧ t.sl 4 = .val (.int .i64 i) ∧ t.sl 3 = .val (.string (lowB (4 * i) n)))
    (fun t => match t.sl 4 with | .val (.int _ i) => (D n).length - i.toNat | _ => 0) ?_ ?_
  · simp -implicitDefEqProofs (disch := omega) only [go_sem, ht, eq_self]
    exact ⟨0, by omega, rfl, rfl⟩
  · rintro t ⟨h1, hH, i, hi, h4, h3⟩
    by_cases hil : i = (D n).length
    · rw [← hil] at hlt
      simp -implicitDefEqProofs (disch := omega) only [go_sem, ht, h1, hH, h4, h3, eq_self]
      refine LW.loopW hc ht (by kernel_rfl) (fun s => s.sl 1 = .ptr 0 0 ∧ s.H 0 = some [.val (.bool sg), .sl (D n).length ((D n).map I)] ∧ ∃ m : Nat, m + 1 ≤ 4 * i ∧ s.sl 3 = .val (.string (lowB (m + 1) n)) ∧ Hide (n < 10 ^ (m + 1)))
        (fun s => match s.sl 3 with | .val (.string b) => b.size | _ => 0) ?_ ?_
      · simp -implicitDefEqProofs (disch := omega) only [go_sem, ht, h1, hH, h3, eq_self]
        obtain ⟨m, em⟩ : ∃ m, 4 * i = m + 1 := ⟨4 * i - 1, by omega⟩
        rw [em] at hlt ⊢
        exact ⟨m, by omega, rfl, hlt⟩
      · clear h1 hH h3 h4
        rintro s ⟨h1, hH, m, hm, h3, hlt⟩
        have hb := lowB_get m n
        have hbs := lowB_size (m + 1) n
        have hdl : n / 10 ^ m % 10 < 10 := Nat.mod_lt _ (by decide)
        have hbn : (UInt8.ofNat (dig (n / 10 ^ m % 10))).toNat = 48 + n / 10 ^ m % 10 := by
          rw [UInt8.toNat_ofNat', dig]; omega
        by_cases hd : m ≠ 0 ∧ n / 10 ^ m % 10 = 0
        · obtain ⟨hm0, hd⟩ := hd
          have he := lowB_ext m n
          have hlt2 : Hide (n < 10 ^ m) := Hide.mk (by
            have := hlt.out
            rw [Nat.pow_succ] at this
            have h2 := Nat.div_lt_of_lt_mul this
            rw [Nat.mod_eq_of_lt h2] at hd
            rcases Nat.div_eq_zero_iff.1 hd with h | h
            · exact absurd (Nat.pow_pos (n := m) (show 0 < 10 by decide)) (by omega)
            · exact h)
          obtain ⟨m', rfl⟩ : ∃ m', m = m' + 1 := ⟨m - 1, by omega⟩
          have hbs' := lowB_size (m' + 1) n
          rw [hd] at hb hbn
          simp -implicitDefEqProofs (disch := omega) only [go_sem, ht, h1, hH, h3, hbs, hb, hbn, he, eq_self]
          exact ⟨⟨m', by omega, rfl, hlt2⟩, by omega⟩
        · have hge : 10 ^ m ≤ n := by
            by_cases hm0 : m = 0
            · subst hm0; simp; omega
            · have hd : n / 10 ^ m % 10 ≠ 0 := fun h => hd ⟨hm0, h⟩
              rcases Nat.lt_or_ge n (10 ^ m) with h | h
              · rw [Nat.div_eq_of_lt h] at hd; simp at hd
              · exact h
          have ht1 := lowB_txt hge hlt.out
          rw [ht1] at h3 hbs hb
          have hb0 : m = 0 ∨ n / 10 ^ m % 10 ≠ 0 := by omega
          clear hge hd
          generalize n / 10 ^ m % 10 = dg at *
          by_cases hm0 : m = 0
          · cases sg
            · simp -implicitDefEqProofs (disch := omega) only [go_sem, ht, h1, hH, h3, hbs, eq_self]
              (refine end_treeW 0 ?_; simp -implicitDefEqProofs (disch := omega) only [go_sem, ht, eq_self])
            · simp -implicitDefEqProofs (disch := omega) only [go_sem, ht, h1, hH, h3, hbs, eq_self]
              refine ⟨by show 1 + (m + 1) ≤ _; omega, ?_⟩
              (refine end_treeW 0 ?_; simp -implicitDefEqProofs (disch := omega) only [go_sem, ht, eq_self])
          · have hdg : dg ≠ 0 := by omega
            cases sg
            · simp -implicitDefEqProofs (disch := omega) only [go_sem, ht, h1, hH, h3, hbs, hb, hbn, eq_self]
              (refine end_treeW 0 ?_; simp -implicitDefEqProofs (disch := omega) only [go_sem, ht, eq_self])
            · simp -implicitDefEqProofs (disch := omega) only [go_sem, ht, h1, hH, h3, hbs, hb, hbn, eq_self]
              refine ⟨by show 1 + (m + 1) ≤ _; omega, ?_⟩
              (refine end_treeW 0 ?_; simp -implicitDefEqProofs (disch := omega) only [go_sem, ht, eq_self])
    · have hst := text_step i n
      have hx : (D n).getD i 0 < 10000 := hok.lm.get i
      have hsz := lowB_size (4 * i) n
      have hlit : (⟨#[48, 49, 50, 51, 52, 53, 54, 55, 56, 57]⟩ : ByteArray).size = 10 := rfl
      simp -implicitDefEqProofs (disch := omega) only [go_sem, ht, h1, hH, h3, h4, eq_self]
      generalize (D n).getD i 0 = v at *
      refine LW.loopW hc ht (by kernel_rfl) (fun s => s.sl 1 = .ptr 0 0 ∧ s.H 0 = some [.val (.bool sg), .sl (D n).length ((D n).map I)] ∧ s.sl 4 = .val (.int .i64 i) ∧ s.sl 3 = .val (.string (lowB (4 * i) n)) ∧
          ∃ j w : Nat, j ≤ 4 ∧ s.sl 7 = .val (.int .i64 j) ∧ s.sl 5 = .val (.int .i64 w) ∧ s.sl 6 = .val (.string (lowB j v)) ∧ Hide (w = v / 10 ^ j) ∧ w ≤ v)
        (fun s => match s.sl 7 with | .val (.int _ j) => 4 - j.toNat | _ => 0) ?_ ?_
      · simp -implicitDefEqProofs (disch := omega) only [go_sem, ht, h1, hH, h3, h4, eq_self]
        exact ⟨0, v, by omega, rfl, rfl, rfl, Hide.mk (by simp), by omega⟩
      · clear h1 hH h3 h4
        rintro s ⟨h1, hH, h4, h3, j, w, hj, h7, h5, h6, hw, hwv⟩
        by_cases hj4 : j = 4
        · subst hj4
          have hs4 := lowB_size 4 v
          simp -implicitDefEqProofs (disch := omega) only [go_sem, ht, h1, hH, h3, h4, h7, h5, h6, hsz, hs4, eq_self]
          exact ⟨by omega, ⟨i + 1, by omega, rfl, by rw [hst]⟩, by omega⟩
        · have hd := digit_byte (d := w % 10) (by omega)
          have hone := lowB_one j v
          have hsj := lowB_size j v
          rw [← hw.out] at hone
          have hw' : Hide (w / 10 = v / 10 ^ (j + 1)) := Hide.mk (by rw [hw.out, Nat.div_div_eq_div_mul, ← Nat.pow_succ])
          clear hw
          simp -implicitDefEqProofs (disch := omega) only [go_sem, ht, h1, hH, h3, h4, h7, h5, h6, hd, hone, hsj, hlit, eq_self]
          exact ⟨by show 1 + j ≤ _; omega, ⟨j + 1, w / 10, by omega, rfl, rfl, rfl, hw', by omega⟩, by omega⟩
end Go.Proofs.Ytgebemjmckgomaa.Ref
namespace Go.Proofs.Ytgebemjmckgomaa.Ref

theorem dv_cons (b : UInt8) (l : List UInt8) : dv (b :: l) = (b.toNat - 48) * 10 ^ l.length + dv l := by
  have : ∀ (l : List UInt8) (a : Nat), l.foldl (fun v b => 10 * v + (b.toNat - 48)) a = a * 10 ^ l.length + dv l := by
    intro l
    induction l with
    | nil => intro a; simp [dv]
    | cons c l ih =>
      intro a
      have e : dv (c :: l) = (10 * 0 + (c.toNat - 48)) * 10 ^ l.length + dv l := by rw [← ih]; rfl
      rw [List.foldl_cons, ih, e, List.length_cons, Nat.pow_succ, Nat.add_mul, Nat.add_mul]
      rw [show 10 * 0 * 10 ^ l.length = 0 by simp, show 10 * a * 10 ^ l.length = a * (10 ^ l.length * 10) by rw [Nat.mul_comm 10 a, Nat.mul_assoc, Nat.mul_comm 10]]
      omega
  have h := this l (b.toNat - 48)
  rw [dv, List.foldl_cons, show 10 * 0 + (b.toNat - 48) = b.toNat - 48 by omega, h]
theorem digits_eq {z q r v ten b : Nat} {l : List UInt8} {x : UInt8} (hl : l.length = 4 * q + r) (hd : dv l = z + 10000 ^ q * v) (ht : ten = 10 ^ r) : dv (x :: l) = z + 10000 ^ q * (v + ten * (x.toNat - 48)) := by
  rw [dv_cons, hl, hd, ht, Nat.pow_add, ← pow4, Nat.mul_add]
  have : (x.toNat - 48) * (10000 ^ q * 10 ^ r) = 10000 ^ q * (10 ^ r * (x.toNat - 48)) := by rw [Nat.mul_comm (x.toNat - 48), Nat.mul_assoc]
  omega
theorem drop_byte (s : ByteArray) {i : Nat} (h : i < s.size) : s.data.toList.drop i = s[i] :: s.data.toList.drop (i + 1) := by
  have h' : i < s.data.toList.length := by simpa using h
  rw [List.drop_eq_getElem_cons h']
  rfl
theorem all_byte {s : ByteArray} (hall : s.data.toList.all isDg = true) {i : Nat} (h : i < s.size) : 48 ≤ s[i].toNat ∧ s[i].toNat ≤ 57 := by
  have h' : i < s.data.toList.length := by simpa using h
  have := List.all_eq_true.1 hall (s.data.toList[i]) (List.getElem_mem h')
  exact dig_of this

theorem digits_z {s : ByteArray} (hs : s.size ≤ 5120) (hs0 : s.size ≠ 0) (hall : s.data.toList.all isDg = true) : PT Try.prog 127 [.val (.string s)] (isV (NZ (dv s.data.toList : Nat))) := by
  rw [← NZ_nat, NP_def]
  refine PCalls.enter (n := 37) (rs := [.cell 2 75]) (tb := []) Try.func127 rfl rfl rfl (by kernel_rfl) (by kernel_rfl) (by simp) fun c hc ht => ?_
  simp -implicitDefEqProofs (disch := omega) only [go_sem, ht, eq_self]
  refine LW.ghost (Gh.nil 3 1 (by simp -implicitDefEqProofs (disch := omega) only [go_sem, ht, eq_self])) ?_
  refine LW.loopW hc ht (by kernel_rfl) (fun t => t.sl 0 = .val (.string s) ∧ t.sl 2 = .ptr 0 0 ∧ t.H 0 = some [.val (.bool false), .val (.slice none 0 0)] ∧ ∃ (j q r v ten : Nat) (zs : List Nat) (id cap : Nat) (rest : List Value), j ≤ s.size ∧ t.sl 6 = .val (.int .i64 ((j : Int) - 1)) ∧
      t.sl 4 = .val (.int .i64 v) ∧ t.sl 5 = .val (.int .i64 ten) ∧ t.sl 3 = .ref id 0 zs.length cap 1 ∧ t.H id = some (zs.map I ++ rest.map .val) ∧ zs.length + rest.length = cap ∧ id < t.nx ∧ id ≠ 0 ∧ Lm zs ∧ zs.length = q ∧ s.size - j = 4 * q + r ∧
      v < ten ∧ ten ≤ 1000 ∧ r < 4 ∧ Hide (ten = 10 ^ r) ∧ Hide (dv (s.data.toList.drop j) = V zs + 10000 ^ q * v))
    (fun t => match t.sl 6 with | .val (.int _ j) => (j + 1).toNat | _ => 0) ?_ ?_
  · simp -implicitDefEqProofs (disch := omega) only [go_sem, ht, eq_self]
    refine ⟨s.size, 0, 0, 0, 1, [], _, 0, [], Nat.le_refl _, by congr 2; omega, rfl, rfl, rfl, upd_self _ _ _, rfl, by omega, by omega, Lm_nil, rfl, by omega, by omega, by omega, by omega, Hide.mk rfl, Hide.mk ?_⟩
    rw [List.drop_of_length_le (by simp)]; rfl
  · rintro t ⟨g0, g2, gH, j, q, r, v, ten, zs, id, cap, rest, hj, h6, h4, h5, h3, hH, hcap, hid, hid0, hzm, hzq, hp, hv, ht9, hr, hten, heq⟩
    have hVa : V (zs ++ [v]) = V zs + 10000 ^ q * v := by rw [V_append, hzq]; simp [V]
    by_cases hj0 : j = 0
    · subst hj0
      rw [show (((0 : Nat) : Int) - 1) = -1 from rfl] at h6
      have hm : Lm (zs ++ [v]) := Lm_append.2 ⟨hzm, Lm_cons.2 ⟨by omega, Lm_nil⟩⟩
      have hmd := made_z (xs := zs ++ [v]) (b := false) ⟨hm, by simp; omega⟩
      rw [hVa, ← heq.out, sg_f, ← NZ_nat, NP_def, SI_def] at hmd
      rw [List.drop_zero, show (zs ++ [v]).length = zs.length + 1 by simp] at hmd
      have hTk : ∀ l : List PV, List.take (zs.length + 1) ((zs ++ [v]).map I ++ l) = (zs ++ [v]).map I := fun l => List.take_left' (by simp)
      simp -implicitDefEqProofs (disch := omega) only [go_sem, ht, g0, g2, gH, h3, h4, h5, h6, hH, eq_self]
      (refine append_own (by simp -implicitDefEqProofs (disch := omega) only [srcP_ref, srcP_sl, srcP_nil, Option.isSome_some, hH, go_sem, ht, eq_self] <;> rfl) (by simp -implicitDefEqProofs (disch := omega) only [srcP_ref, srcP_sl, srcP_nil, Option.isSome_some, hH, go_sem, ht, eq_self] <;> rfl) (by simp -implicitDefEqProofs (disch := omega) only [srcP_ref, srcP_sl, srcP_nil, Option.isSome_some, hH, go_sem, ht, eq_self] <;> rfl) (by simp -implicitDefEqProofs (disch := omega) only [srcP_ref, srcP_sl, srcP_nil, Option.isSome_some, hH, go_sem, ht, eq_self] <;> rfl) (by simp -implicitDefEqProofs (disch := omega) only [srcP_ref, srcP_sl, srcP_nil, Option.isSome_some, hH, go_sem, ht, eq_self] <;> rfl) (by simp -implicitDefEqProofs (disch := omega) only [srcP_ref, srcP_sl, srcP_nil, Option.isSome_some, hH, go_sem, ht, eq_self] <;> rfl) (by simp -implicitDefEqProofs (disch := omega) only [srcP_ref, srcP_sl, srcP_nil, Option.isSome_some, hH, go_sem, ht, eq_self] <;> rfl) (by simp -implicitDefEqProofs (disch := omega) only [srcP_ref, srcP_sl, srcP_nil, Option.isSome_some, hH, go_sem, ht, eq_self] <;> rfl) (by simp <;> omega) (by first | assumption | (simp <;> omega)) (by first | rfl | simp) (by first | omega | (simp <;> omega)) ?_; intro id1 cap1 rest1 H1 nx1 hH1 hcap1 hid1 hnx1 hfr1 hfs1; simp only [put_nx, withH_nx, put_H, withH_H] at hid1 hnx1 hfr1 hfs1; (try simp only [app_U, ← List.map_append] at hH1))
      simp only [app_I] at hH1
      have hH0 : H1 0 = some [.val (.bool false), .val (.slice none 0 0)] := by rw [hfr1 _ (by omega) (by omega)]; simp -implicitDefEqProofs (disch := omega) only [go_sem, ht, gH, eq_self]
      have hid10 : id1 ≠ 0 := by omega
      simp -implicitDefEqProofs (disch := omega) only [go_sem, ht, g0, g2, hH0, h3, h4, h5, h6, eq_self]
      (refine pCall_frz (fun i => decide (i = id1)) 1 (by simp -implicitDefEqProofs (disch := omega) only [dropH_at, decide_eq_true_eq, g0, g2, hH0, h3, h4, h5, h6, hH1, hTk, if_pos, if_neg, Nat.le_add_right, go_sem, ht, eq_self] <;> rfl) (by simp -implicitDefEqProofs (disch := omega) only [dropH_at, decide_eq_true_eq, g0, g2, hH0, h3, h4, h5, h6, hH1, hTk, if_pos, if_neg, Nat.le_add_right, go_sem, ht, eq_self]) (by simp -implicitDefEqProofs (disch := omega) only [dropH_at, decide_eq_true_eq, g0, g2, hH0, h3, h4, h5, h6, hH1, hTk, if_pos, if_neg, Nat.le_add_right, go_sem, ht, eq_self] <;> rfl) (by simp -implicitDefEqProofs (disch := omega) only [dropH_at, decide_eq_true_eq, g0, g2, hH0, h3, h4, h5, h6, hH1, hTk, if_pos, if_neg, Nat.le_add_right, go_sem, ht, eq_self]) (hmd) ?_; rintro _ nx - rfl hnx; (try simp only [put_nx, withH_nx, begP_nx] at hnx); simp -implicitDefEqProofs (disch := omega) only [dropH_at, decide_eq_true_eq, g0, g2, hH0, h3, h4, h5, h6, hH1, hTk, if_pos, if_neg, Nat.le_add_right, go_sem, ht, eq_self])
      (refine end_treeM 2 ?_; simp -implicitDefEqProofs (disch := omega) only [go_sem, ht, g2, dropH_at, decide_eq_true_eq, if_neg, eq_self])
    · obtain ⟨j', rfl⟩ : ∃ j', j = j' + 1 := ⟨j - 1, by omega⟩
      have h6' : t.sl 6 = .val (.int .i64 (j' : Nat)) := by rw [h6]; congr 2; omega
      have hlt : j' < s.size := by omega
      have hby := all_byte hall hlt
      have hde := digits_eq (x := s[j']'hlt) (b := 0) (by simp; omega) heq.out hten.out
      rw [← drop_byte s hlt] at hde
      have hde := Hide.mk hde
      have hgx : s[j']? = some (s[j']'hlt) := by simp [hlt]
      generalize s[j']'hlt = xb at *
      obtain ⟨x, hx⟩ : ∃ x, xb.toNat = x := ⟨_, rfl⟩
      rw [hx] at hde hby
      have hmb : ten * (x - 48) ≤ ten * 9 := Nat.mul_le_mul_left _ (by omega)
      clear h6 heq
      by_cases hr3 : r = 3
      · have hten3 : ten = 1000 := by rw [hten.out, hr3]
        subst hten3
        simp -implicitDefEqProofs (disch := omega) only [go_sem, ht, g0, g2, gH, h3, h4, h5, h6', hH, hgx, hx, eq_self]
        (refine append_own (by simp -implicitDefEqProofs (disch := omega) only [srcP_ref, srcP_sl, srcP_nil, Option.isSome_some, hH, go_sem, ht, eq_self] <;> rfl) (by simp -implicitDefEqProofs (disch := omega) only [srcP_ref, srcP_sl, srcP_nil, Option.isSome_some, hH, go_sem, ht, eq_self] <;> rfl) (by simp -implicitDefEqProofs (disch := omega) only [srcP_ref, srcP_sl, srcP_nil, Option.isSome_some, hH, go_sem, ht, eq_self] <;> rfl) (by simp -implicitDefEqProofs (disch := omega) only [srcP_ref, srcP_sl, srcP_nil, Option.isSome_some, hH, go_sem, ht, eq_self] <;> rfl) (by simp -implicitDefEqProofs (disch := omega) only [srcP_ref, srcP_sl, srcP_nil, Option.isSome_some, hH, go_sem, ht, eq_self] <;> rfl) (by simp -implicitDefEqProofs (disch := omega) only [srcP_ref, srcP_sl, srcP_nil, Option.isSome_some, hH, go_sem, ht, eq_self] <;> rfl) (by simp -implicitDefEqProofs (disch := omega) only [srcP_ref, srcP_sl, srcP_nil, Option.isSome_some, hH, go_sem, ht, eq_self] <;> rfl) (by simp -implicitDefEqProofs (disch := omega) only [srcP_ref, srcP_sl, srcP_nil, Option.isSome_some, hH, go_sem, ht, eq_self] <;> rfl) (by simp <;> omega) (by first | assumption | (simp <;> omega)) (by first | rfl | simp) (by first | omega | (simp <;> omega)) ?_; intro id1 cap1 rest1 H1 nx1 hH1 hcap1 hid1 hnx1 hfr1 hfs1; simp only [put_nx, withH_nx, put_H, withH_H] at hid1 hnx1 hfr1 hfs1; (try simp only [app_U, ← List.map_append] at hH1))
        simp only [app_I] at hH1
        have hH0 : H1 0 = some [.val (.bool false), .val (.slice none 0 0)] := by rw [hfr1 _ (by omega) (by omega)]; simp -implicitDefEqProofs (disch := omega) only [go_sem, ht, gH, eq_self]
        have hm : Lm (zs ++ [v + 1000 * (x - 48)]) := Lm_append.2 ⟨hzm, Lm_cons.2 ⟨by omega, Lm_nil⟩⟩
        simp -implicitDefEqProofs (disch := omega) only [go_sem, ht, g0, g2, hH0, h3, h4, h5, h6', eq_self]
        exact ⟨⟨j', q + 1, 0, 0, 1, zs ++ [v + 1000 * (x - 48)], id1, cap1, rest1, by omega, rfl, rfl, rfl, by simp, hH1, by simpa using hcap1, by omega, by omega, hm, by simp; omega, by omega, by omega, by omega, by omega, Hide.mk rfl, Hide.mk (by rw [hde.out, V_append, hzq]; simp [V])⟩, by omega⟩
      · have ht2 : ten ≤ 100 := by
          have h1 : r = 0 ∨ r = 1 ∨ r = 2 := by omega
          rw [hten.out]
          rcases h1 with h1 | h1 | h1 <;> subst h1 <;> decide
        have hten' : Hide (10 * ten = 10 ^ (r + 1)) := Hide.mk (by rw [hten.out, Nat.pow_succ, Nat.mul_comm])
        simp -implicitDefEqProofs (disch := omega) only [go_sem, ht, g0, g2, gH, h3, h4, h5, h6', hH, hgx, hx, eq_self]
        exact ⟨⟨j', q, r + 1, v + ten * (x - 48), 10 * ten, zs, id, cap, rest, by omega, rfl, rfl, rfl, rfl, hH, hcap, hid, hid0, hzm, hzq, by omega, by omega, by omega, by omega, hten', hde⟩, by omega⟩
end Go.Proofs.Ytgebemjmckgomaa.Ref
namespace Go.Proofs.Ytgebemjmckgomaa.Ref

theorem get_opt {s : ByteArray} {i : Nat} (h : i < s.size) : s[i]? = some (s.get! i) := by
  have e : s.get! i = s[i]'h := by
    cases s with
    | mk d =>
      have h' : i < d.size := h
      show d[i]! = d[i]
      exact getElem!_pos d i h'
  rw [e]
  simp [h]
theorem decode_45 {s : ByteArray} (h0 : 0 < s.size) : (Utf8.decode s 0).1 = 45 ↔ (s.get! 0).toNat = 45 := by
  constructor
  · intro h
    unfold Utf8.decode at h
    simp only [Nat.zero_add, Nat.add_zero] at h
    split at h
    · exact h
    split at h
    · split at h
      · rename_i h1 h2
        simp only at h
        omega
      · simp [Utf8.runeError] at h
    split at h
    · split at h
      · rename_i h1 h2
        simp only [Bool.and_eq_true, decide_eq_true_eq] at h2
        simp only at h
        omega
      · simp [Utf8.runeError] at h
    split at h
    · split at h
      · rename_i h1 h2
        simp only [Bool.and_eq_true, decide_eq_true_eq] at h2
        simp only at h
        omega
      · simp [Utf8.runeError] at h
    · simp [Utf8.runeError] at h
  · intro h
    unfold Utf8.decode
    simp only [Nat.zero_add, Nat.add_zero]
    rw [if_pos (by omega)]
    exact h
theorem decode_8722 {s : ByteArray} (h0 : 0 < s.size) : (Utf8.decode s 0).1 = 8722 ↔ 3 ≤ s.size ∧ (s.get! 0).toNat = 226 ∧ (s.get! 1).toNat = 136 ∧ (s.get! 2).toNat = 146 := by
  constructor
  · intro h
    refine ⟨decode_minus h, ?_⟩
    have b0 := (s.get! 0).toNat_lt
    have b1 := (s.get! 1).toNat_lt
    have b2 := (s.get! 2).toNat_lt
    unfold Utf8.decode at h
    simp only [Nat.zero_add, Nat.add_zero] at h
    split at h
    · omega
    split at h
    · split at h
      · rename_i h1 h2
        simp only at h
        omega
      · simp [Utf8.runeError] at h
    split at h
    · split at h
      · rename_i h1 h2
        simp only [Bool.and_eq_true, decide_eq_true_eq, beq_iff_eq] at h1 h2
        simp only at h
        omega
      · simp [Utf8.runeError] at h
    split at h
    · split at h
      · rename_i h1 h2
        simp only [Bool.and_eq_true, decide_eq_true_eq] at h2
        simp only at h
        omega
      · simp [Utf8.runeError] at h
    · simp [Utf8.runeError] at h
  · rintro ⟨h1, h2, h3, h4⟩
    unfold Utf8.decode
    simp only [Nat.zero_add, Nat.add_zero, h2, h3, h4]
    have e1 : decide (1 < s.size) = true := by simp; omega
    have e2 : decide (2 < s.size) = true := by simp; omega
    rw [e1, e2]
    rfl
theorem mlen_byte (s : ByteArray) : mlen s = if 3 ≤ s.size ∧ (s.get! 0).toNat = 226 ∧ (s.get! 1).toNat = 136 ∧ (s.get! 2).toNat = 146 then 3 else if 0 < s.size ∧ (s.get! 0).toNat = 45 then 1 else 0 := by
  unfold mlen
  by_cases h0 : s.size = 0
  · rw [if_pos h0, if_neg (by omega), if_neg (by omega)]
  rw [if_neg h0]
  have h0 : 0 < s.size := by omega
  by_cases h1 : (Utf8.decode s 0).1 = 45
  · have := (decode_45 h0).1 h1
    rw [if_pos h1, if_neg (by omega), if_pos ⟨h0, this⟩]
  · have h1' : (s.get! 0).toNat ≠ 45 := fun h => h1 ((decode_45 h0).2 h)
    rw [if_neg h1]
    by_cases h2 : (Utf8.decode s 0).1 = 8722
    · rw [if_pos h2, if_pos ((decode_8722 h0).1 h2)]
    · rw [if_neg h2, if_neg (fun h => h2 ((decode_8722 h0).2 h)), if_neg (by omega)]

theorem natural_z {s : ByteArray} (hs : s.size ≤ 140737488351232) : PT Try.prog 102 [.val (.string s)] (isV (.tup [NZ ((parseP s).1 : Nat), .val (.int .i64 (parseP s).2)])) := by
  rw [← NZ_nat, NP_def]
  have hD0 : (D 0).length = 0 := by rw [D_zero]; rfl
  by_cases h1 : 5120 < s.size
  · have e : parseP s = (0, 2) := if_pos h1
    rw [e]
    simp only [D_zero]
    refine PCalls.enter (n := 32) (rs := [.cell 2 75, .tmp 3]) (tb := []) Try.func102 rfl rfl rfl (by kernel_rfl) (by kernel_rfl) (by simp) fun c hc ht => ?_
    simp -implicitDefEqProofs (disch := omega) only [go_sem, ht, eq_self]
    (refine end_treeM 2 ?_; simp -implicitDefEqProofs (disch := omega) only [go_sem, ht, eq_self])
  have hp : parseP s = if s.size = 0 then (0, 10) else if s.data.toList.all isDg then (dv s.data.toList, 0) else (0, 10) := by unfold parseP; rw [if_neg h1]
  refine PCalls.enter (n := 32) (rs := [.cell 2 75, .tmp 3]) (tb := []) Try.func102 rfl rfl rfl (by kernel_rfl) (by kernel_rfl) (by simp) fun c hc ht => ?_
  simp -implicitDefEqProofs (disch := omega) only [go_sem, ht, eq_self]
  refine LW.loopW hc ht (by kernel_rfl) (fun t => t.sl 0 = .val (.string s) ∧ t.sl 2 = .ptr 0 0 ∧ t.H 0 = some [.val (.bool false), .val (.slice none 0 0)] ∧ 0 < t.nx ∧ ∃ i : Nat, i ≤ s.size ∧ t.sl 4 = .val (.int .i64 i) ∧ Hide ((s.data.toList.take i).all isDg = true))
    (fun t => match t.sl 4 with | .val (.int _ i) => s.size - i.toNat | _ => 0) ?_ ?_
  · simp -implicitDefEqProofs (disch := omega) only [go_sem, ht, eq_self]
    exact ⟨0, by omega, rfl, Hide.mk (by simp)⟩
  · rintro t ⟨g0, g2, gH, hnx, i, hi, h4, hdg⟩
    by_cases hie : i = s.size
    · have hall := hdg.out
      rw [List.take_of_length_le (by simp; omega)] at hall
      by_cases hs0 : s.size = 0
      · rw [hp, if_pos hs0]
        simp only [D_zero]
        simp -implicitDefEqProofs (disch := omega) only [go_sem, ht, g0, g2, gH, h4, eq_self]
        (refine end_treeM 2 ?_; simp -implicitDefEqProofs (disch := omega) only [go_sem, ht, g2, gH, eq_self])
      · have hd := digits_z (by omega) hs0 hall
        rw [← NZ_nat, NP_def] at hd
        rw [hp, if_neg hs0, if_pos hall]
        simp -implicitDefEqProofs (disch := omega) only [go_sem, ht, g0, g2, gH, h4, eq_self]
        ((refine pCall_view (by simp -implicitDefEqProofs (disch := omega) only [g2, gH, go_sem, ht, eq_self] <;> rfl) (by simp -implicitDefEqProofs (disch := omega) only [g2, gH, go_sem, ht, eq_self]) (by first | (apply Or.inl; simp -implicitDefEqProofs (disch := omega) only [g2, gH, go_sem, ht, eq_self]; done) | (apply Or.inr; rintro r rfl; rfl)) (hd) ?_; rintro _ nx_1 - rfl hnx_1; (try simp only [put_nx, withH_nx, begP_nx] at hnx_1); simp -implicitDefEqProofs (disch := omega) only [g2, gH, go_sem, ht, eq_self]))
        (refine end_treeM 2 ?_; simp -implicitDefEqProofs (disch := omega) only [go_sem, ht, g2, gH, eq_self])
    · have hlt : i < s.size := by omega
      have hgx : s[i]? = some (s[i]'hlt) := by simp [hlt]
      have hst : isDg (s[i]'hlt) = true → Hide ((s.data.toList.take (i + 1)).all isDg = true) := fun h => Hide.mk (by rw [take_byte s hlt, List.all_append, hdg.out]; simp [h])
      have hno := not_all hlt
      have hgd : isDg (s[i]'hlt) = (decide (48 ≤ (s[i]'hlt).toNat) && decide ((s[i]'hlt).toNat ≤ 57)) := rfl
      generalize s[i]'hlt = xb at *
      obtain ⟨x, hx⟩ : ∃ x, xb.toNat = x := ⟨_, rfl⟩
      rw [hx] at hgd
      by_cases hd : 48 ≤ x ∧ x ≤ 57
      · have hst := hst (by rw [hgd]; simp; omega)
        simp -implicitDefEqProofs (disch := omega) only [go_sem, ht, g0, g2, gH, h4, hgx, hx, eq_self]
        exact ⟨⟨hnx, i + 1, by omega, rfl, hst⟩, by omega⟩
      · have hno := hno (by rw [hgd]; simp; omega)
        rw [hp, if_neg (by omega), if_neg (by rw [hno]; simp)]
        simp only [D_zero]
        by_cases hlo : x < 48
        · simp -implicitDefEqProofs (disch := omega) only [go_sem, ht, g0, g2, gH, h4, hgx, hx, eq_self]
          (refine end_treeM 2 ?_; simp -implicitDefEqProofs (disch := omega) only [go_sem, ht, g2, gH, eq_self])
        · simp -implicitDefEqProofs (disch := omega) only [go_sem, ht, g0, g2, gH, h4, hgx, hx, eq_self]
          (refine end_treeM 2 ?_; simp -implicitDefEqProofs (disch := omega) only [go_sem, ht, g2, gH, eq_self])
end Go.Proofs.Ytgebemjmckgomaa.Ref

namespace Go.Proofs.Ytgebemjmckgomaa.Ref

-- left out: rafterref02.Text
theorem parse_ok10 (s : ByteArray) : Ok (D (parseP s).1) := by
  have h0 : Ok (D 0) := by rw [D_zero]; exact ⟨fun x hx => by simp at hx, by simp⟩
  unfold parseP
  split
  · exact h0
  split
  · exact h0
  split
  · rename_i h1 h2 h3
    have hlt := dv_lt _ _ rfl h3
    obtain ⟨K, hK, hl⟩ : ∃ K, K ≤ 5120 ∧ s.data.toList.length ≤ K := ⟨5120, Nat.le_refl _, by simp; omega⟩
    refine ⟨Lm_D _, Nat.le_trans (D_len_le.2 (Nat.lt_of_lt_of_le hlt (Nat.le_trans (Nat.pow_le_pow_right (by decide) hl) (Nat.pow_le_pow_left (show 10 ≤ 10000 by decide) _)))) (by omega)⟩
  · exact h0
set_option maxHeartbeats 1000000 in
theorem number_z {s : ByteArray} (hs : s.size ≤ 140737488351232) : PT Try.prog 101 [.val (.string s)] (isV (.tup [NZ (wparseP s).1, .val (.int .i64 (wparseP s).2)])) := by
  have hm := mlen_le s
  have hb := mlen_byte s
  have hp := natural_z (s := s.extract (mlen s) s.size) (by rw [ByteArray.size_extract]; omega)
  have hok := parse_ok10 (s.extract (mlen s) s.size)
  have hmi := minus_z (z := ((parseP (s.extract (mlen s) s.size)).1 : Nat)) hok
  unfold wparseP
  simp only
  by_cases h3 : 3 ≤ s.size ∧ (s.get! 0).toNat = 226 ∧ (s.get! 1).toNat = 136 ∧ (s.get! 2).toNat = 146
  · rw [if_pos h3] at hb
    rw [hb] at hp hmi ⊢
    obtain ⟨h3, k0, k1, k2⟩ := h3
    have g0 := get_opt (s := s) (i := 0) (by omega)
    have g1 := get_opt (s := s) (i := 1) (by omega)
    have g2 := get_opt (s := s) (i := 2) (by omega)
    rw [show decide ((3 : Nat) ≠ 0) = true from rfl, sg_t]
    generalize s.get! 0 = b0 at *
    generalize s.get! 1 = b1 at *
    generalize s.get! 2 = b2 at *
    obtain ⟨s', es⟩ : ∃ s', s.extract 3 s.size = s' := ⟨_, rfl⟩
    rw [es] at hp hmi ⊢
    generalize (((parseP s').1 : Nat) : Int) = n at *
    generalize -n = n' at *
    generalize (parseP s').2 = e at *
    refine PCalls.enter (n := 47) (rs := [.cell 2 75, .tmp 3]) (tb := []) Try.func101 rfl rfl rfl (by kernel_rfl) (by kernel_rfl) (by simp) fun c hc ht => ?_
    simp -implicitDefEqProofs (disch := omega) only [go_sem, ht, g0, g1, g2, k0, k1, k2, es, eq_self]
    ((refine pCall_view (by simp -implicitDefEqProofs (disch := omega) only [go_sem, ht, eq_self] <;> rfl) (by simp -implicitDefEqProofs (disch := omega) only [go_sem, ht, eq_self]) (by first | (apply Or.inl; simp -implicitDefEqProofs (disch := omega) only [go_sem, ht, eq_self]; done) | (apply Or.inr; rintro r rfl; rfl)) (hp) ?_; rintro _ nx_2 - rfl hnx_2; (try simp only [put_nx, withH_nx, begP_nx] at hnx_2); simp -implicitDefEqProofs (disch := omega) only [go_sem, ht, eq_self]); (refine pCall_view (by simp -implicitDefEqProofs (disch := omega) only [go_sem, ht, eq_self] <;> rfl) (by simp -implicitDefEqProofs (disch := omega) only [go_sem, ht, eq_self]) (by first | (apply Or.inl; simp -implicitDefEqProofs (disch := omega) only [go_sem, ht, eq_self]; done) | (apply Or.inr; rintro r rfl; rfl)) (hmi) ?_; rintro _ nx_3 - rfl hnx_3; (try simp only [put_nx, withH_nx, begP_nx] at hnx_3); simp -implicitDefEqProofs (disch := omega) only [go_sem, ht, eq_self]))
    (refine end_treeM 2 ?_; simp -implicitDefEqProofs (disch := omega) only [go_sem, ht, eq_self])
  rw [if_neg h3] at hb
  by_cases h1 : 0 < s.size ∧ (s.get! 0).toNat = 45
  · rw [if_pos h1] at hb
    rw [hb] at hp hmi ⊢
    obtain ⟨h1, k0⟩ := h1
    have g0 := get_opt (s := s) (i := 0) (by omega)
    rw [show decide ((1 : Nat) ≠ 0) = true from rfl, sg_t]
    clear h3
    generalize s.get! 0 = b0 at *
    obtain ⟨s', es⟩ : ∃ s', s.extract 1 s.size = s' := ⟨_, rfl⟩
    rw [es] at hp hmi ⊢
    generalize (((parseP s').1 : Nat) : Int) = n at *
    generalize -n = n' at *
    generalize (parseP s').2 = e at *
    by_cases hl : 3 ≤ s.size
    · refine PCalls.enter (n := 47) (rs := [.cell 2 75, .tmp 3]) (tb := []) Try.func101 rfl rfl rfl (by kernel_rfl) (by kernel_rfl) (by simp) fun c hc ht => ?_
      simp -implicitDefEqProofs (disch := omega) only [go_sem, ht, g0, k0, es, eq_self]
      ((refine pCall_view (by simp -implicitDefEqProofs (disch := omega) only [go_sem, ht, eq_self] <;> rfl) (by simp -implicitDefEqProofs (disch := omega) only [go_sem, ht, eq_self]) (by first | (apply Or.inl; simp -implicitDefEqProofs (disch := omega) only [go_sem, ht, eq_self]; done) | (apply Or.inr; rintro r rfl; rfl)) (hp) ?_; rintro _ nx_4 - rfl hnx_4; (try simp only [put_nx, withH_nx, begP_nx] at hnx_4); simp -implicitDefEqProofs (disch := omega) only [go_sem, ht, eq_self]); (refine pCall_view (by simp -implicitDefEqProofs (disch := omega) only [go_sem, ht, eq_self] <;> rfl) (by simp -implicitDefEqProofs (disch := omega) only [go_sem, ht, eq_self]) (by first | (apply Or.inl; simp -implicitDefEqProofs (disch := omega) only [go_sem, ht, eq_self]; done) | (apply Or.inr; rintro r rfl; rfl)) (hmi) ?_; rintro _ nx_5 - rfl hnx_5; (try simp only [put_nx, withH_nx, begP_nx] at hnx_5); simp -implicitDefEqProofs (disch := omega) only [go_sem, ht, eq_self]))
      (refine end_treeM 2 ?_; simp -implicitDefEqProofs (disch := omega) only [go_sem, ht, eq_self])
    · refine PCalls.enter (n := 47) (rs := [.cell 2 75, .tmp 3]) (tb := []) Try.func101 rfl rfl rfl (by kernel_rfl) (by kernel_rfl) (by simp) fun c hc ht => ?_
      simp -implicitDefEqProofs (disch := omega) only [go_sem, ht, g0, k0, es, eq_self]
      ((refine pCall_view (by simp -implicitDefEqProofs (disch := omega) only [go_sem, ht, eq_self] <;> rfl) (by simp -implicitDefEqProofs (disch := omega) only [go_sem, ht, eq_self]) (by first | (apply Or.inl; simp -implicitDefEqProofs (disch := omega) only [go_sem, ht, eq_self]; done) | (apply Or.inr; rintro r rfl; rfl)) (hp) ?_; rintro _ nx_6 - rfl hnx_6; (try simp only [put_nx, withH_nx, begP_nx] at hnx_6); simp -implicitDefEqProofs (disch := omega) only [go_sem, ht, eq_self]); (refine pCall_view (by simp -implicitDefEqProofs (disch := omega) only [go_sem, ht, eq_self] <;> rfl) (by simp -implicitDefEqProofs (disch := omega) only [go_sem, ht, eq_self]) (by first | (apply Or.inl; simp -implicitDefEqProofs (disch := omega) only [go_sem, ht, eq_self]; done) | (apply Or.inr; rintro r rfl; rfl)) (hmi) ?_; rintro _ nx_7 - rfl hnx_7; (try simp only [put_nx, withH_nx, begP_nx] at hnx_7); simp -implicitDefEqProofs (disch := omega) only [go_sem, ht, eq_self]))
      (refine end_treeM 2 ?_; simp -implicitDefEqProofs (disch := omega) only [go_sem, ht, eq_self])
  rw [if_neg h1] at hb
  rw [hb, ext_all] at hp hmi ⊢
  rw [show decide ((0 : Nat) ≠ 0) = false from rfl, sg_f]
  generalize (((parseP s).1 : Nat) : Int) = n at *
  generalize (parseP s).2 = e at *
  clear hmi
  by_cases h0 : s.size = 0
  · refine PCalls.enter (n := 47) (rs := [.cell 2 75, .tmp 3]) (tb := []) Try.func101 rfl rfl rfl (by kernel_rfl) (by kernel_rfl) (by simp) fun c hc ht => ?_
    simp -implicitDefEqProofs (disch := omega) only [go_sem, ht, eq_self]
    ((refine pCall_view (by simp -implicitDefEqProofs (disch := omega) only [go_sem, ht, eq_self] <;> rfl) (by simp -implicitDefEqProofs (disch := omega) only [go_sem, ht, eq_self]) (by first | (apply Or.inl; simp -implicitDefEqProofs (disch := omega) only [go_sem, ht, eq_self]; done) | (apply Or.inr; rintro r rfl; rfl)) (hp) ?_; rintro _ nx_8 - rfl hnx_8; (try simp only [put_nx, withH_nx, begP_nx] at hnx_8); simp -implicitDefEqProofs (disch := omega) only [go_sem, ht, eq_self]))
    (refine end_treeM 2 ?_; simp -implicitDefEqProofs (disch := omega) only [go_sem, ht, eq_self])
  have g0 := get_opt (s := s) (i := 0) (by omega)
  by_cases hl : s.size < 3
  · generalize s.get! 0 = b0 at *
    have k0 : b0.toNat ≠ 45 := by omega
    refine PCalls.enter (n := 47) (rs := [.cell 2 75, .tmp 3]) (tb := []) Try.func101 rfl rfl rfl (by kernel_rfl) (by kernel_rfl) (by simp) fun c hc ht => ?_
    simp -implicitDefEqProofs (disch := omega) only [go_sem, ht, g0, eq_self]
    ((refine pCall_view (by simp -implicitDefEqProofs (disch := omega) only [go_sem, ht, eq_self] <;> rfl) (by simp -implicitDefEqProofs (disch := omega) only [go_sem, ht, eq_self]) (by first | (apply Or.inl; simp -implicitDefEqProofs (disch := omega) only [go_sem, ht, eq_self]; done) | (apply Or.inr; rintro r rfl; rfl)) (hp) ?_; rintro _ nx_9 - rfl hnx_9; (try simp only [put_nx, withH_nx, begP_nx] at hnx_9); simp -implicitDefEqProofs (disch := omega) only [go_sem, ht, eq_self]))
    (refine end_treeM 2 ?_; simp -implicitDefEqProofs (disch := omega) only [go_sem, ht, eq_self])
  have g1 := get_opt (s := s) (i := 1) (by omega)
  have g2 := get_opt (s := s) (i := 2) (by omega)
  generalize s.get! 0 = b0 at *
  generalize s.get! 1 = b1 at *
  generalize s.get! 2 = b2 at *
  have k0 : b0.toNat ≠ 45 := by omega
  by_cases j0 : b0.toNat = 226
  · by_cases j1 : b1.toNat = 136
    · have j2 : b2.toNat ≠ 146 := by omega
      refine PCalls.enter (n := 47) (rs := [.cell 2 75, .tmp 3]) (tb := []) Try.func101 rfl rfl rfl (by kernel_rfl) (by kernel_rfl) (by simp) fun c hc ht => ?_
      simp -implicitDefEqProofs (disch := omega) only [go_sem, ht, g0, g1, g2, j0, j1, eq_self]
      ((refine pCall_view (by simp -implicitDefEqProofs (disch := omega) only [go_sem, ht, eq_self] <;> rfl) (by simp -implicitDefEqProofs (disch := omega) only [go_sem, ht, eq_self]) (by first | (apply Or.inl; simp -implicitDefEqProofs (disch := omega) only [go_sem, ht, eq_self]; done) | (apply Or.inr; rintro r rfl; rfl)) (hp) ?_; rintro _ nx_10 - rfl hnx_10; (try simp only [put_nx, withH_nx, begP_nx] at hnx_10); simp -implicitDefEqProofs (disch := omega) only [go_sem, ht, eq_self]))
      (refine end_treeM 2 ?_; simp -implicitDefEqProofs (disch := omega) only [go_sem, ht, eq_self])
    · refine PCalls.enter (n := 47) (rs := [.cell 2 75, .tmp 3]) (tb := []) Try.func101 rfl rfl rfl (by kernel_rfl) (by kernel_rfl) (by simp) fun c hc ht => ?_
      simp -implicitDefEqProofs (disch := omega) only [go_sem, ht, g0, g1, g2, j0, eq_self]
      ((refine pCall_view (by simp -implicitDefEqProofs (disch := omega) only [go_sem, ht, eq_self] <;> rfl) (by simp -implicitDefEqProofs (disch := omega) only [go_sem, ht, eq_self]) (by first | (apply Or.inl; simp -implicitDefEqProofs (disch := omega) only [go_sem, ht, eq_self]; done) | (apply Or.inr; rintro r rfl; rfl)) (hp) ?_; rintro _ nx_11 - rfl hnx_11; (try simp only [put_nx, withH_nx, begP_nx] at hnx_11); simp -implicitDefEqProofs (disch := omega) only [go_sem, ht, eq_self]))
      (refine end_treeM 2 ?_; simp -implicitDefEqProofs (disch := omega) only [go_sem, ht, eq_self])
  · refine PCalls.enter (n := 47) (rs := [.cell 2 75, .tmp 3]) (tb := []) Try.func101 rfl rfl rfl (by kernel_rfl) (by kernel_rfl) (by simp) fun c hc ht => ?_
    simp -implicitDefEqProofs (disch := omega) only [go_sem, ht, g0, g1, g2, eq_self]
    ((refine pCall_view (by simp -implicitDefEqProofs (disch := omega) only [go_sem, ht, eq_self] <;> rfl) (by simp -implicitDefEqProofs (disch := omega) only [go_sem, ht, eq_self]) (by first | (apply Or.inl; simp -implicitDefEqProofs (disch := omega) only [go_sem, ht, eq_self]; done) | (apply Or.inr; rintro r rfl; rfl)) (hp) ?_; rintro _ nx_12 - rfl hnx_12; (try simp only [put_nx, withH_nx, begP_nx] at hnx_12); simp -implicitDefEqProofs (disch := omega) only [go_sem, ht, eq_self]))
    (refine end_treeM 2 ?_; simp -implicitDefEqProofs (disch := omega) only [go_sem, ht, eq_self])
end Go.Proofs.Ytgebemjmckgomaa.Ref

namespace Go.Proofs.Ytgebemjmckgomaa.Ref

theorem parse_z {K : Nat} (hK : K = 5120) (s : ByteArray) : Z K (wparseP s).1 := by
  unfold wparseP
  simp only
  unfold Z
  rw [sg_abs]
  generalize s.extract (mlen s) s.size = s'
  have h0 : 0 < 4294967296 ^ K := Nat.pow_pos (by decide)
  unfold parseP
  split
  · exact h0
  split
  · exact h0
  split
  · rename_i h1 h2 h3
    have hlt := dv_lt _ _ rfl h3
    have hl : s'.data.toList.length ≤ K := by simp; omega
    exact Nat.lt_of_lt_of_le hlt (Nat.le_trans (Nat.pow_le_pow_right (by decide) hl) (Nat.pow_le_pow_left (show 10 ≤ 4294967296 by decide) _))
  · exact h0
theorem wparse_zero (s : ByteArray) (h : (wparseP s).2 ≠ 0) : (wparseP s).1 = 0 := by
  unfold wparseP at *
  simp only at *
  rw [parse_zero h]
  cases decide (mlen s ≠ 0) <;> rfl
-- left out: rafterref02.Parse
end Go.Proofs.Ytgebemjmckgomaa.Ref
