/- Part 30 of the way to the statement: the walk and what it needs. -/
import Derived.Test.YtfjdfnlkobeehaaKDeF26
import Derived.Test.YtfjdfnlkobeehaaKDeF29
section
set_option linter.unusedVariables false
set_option linter.unusedSimpArgs false
namespace Go.Proofs.Ytfjdfnlkobeehaa.Ref

def I (x : Nat) : PV := .val (.int .i64 x)
theorem I_def (x : Nat) : I x = .val (.int .i64 x) := rfl
def SI (xs : List Nat) : PV := .sl xs.length (xs.map I)
theorem SI_def (xs : List Nat) : SI xs = .sl xs.length (xs.map I) := rfl
theorem flatL_I (xs : List Nat) : flatL (xs.map I) = true := by
  induction xs with
  | nil => rfl
  | cons x xs ih => simp [flatL, flat, I, ih]
theorem flat_SI (xs : List Nat) : flat (SI xs) = true := flatL_I xs
theorem oneP_I (xs : List Nat) : (xs.map I).all oneP = true := by
  induction xs with
  | nil => rfl
  | cons x xs ih => simp [oneP, I, Value.oneCell', ih]
theorem flatI_take (xs : List Nat) (n : Nat) : flatL ((xs.map I).take n) = true := flatL_take n (flatL_I xs)
theorem flatI_drop (xs : List Nat) (n : Nat) : flatL ((xs.map I).drop n) = true := flatL_drop n (flatL_I xs)
theorem flatI_sub (xs : List Nat) (n m : Nat) : flatL (((xs.map I).drop n).take m) = true := flatL_take m (flatI_drop xs n)
theorem repl_I (n : Nat) : repl n [PV.val (.int .i64 0)] = (List.replicate n 0).map I := by rw [repl_one]; simp [I]
theorem get_I {xs : List Nat} {i : Nat} (l : List PV) (h : i < xs.length) : (xs.map I ++ l)[i]? = some (.val (.int .i64 (xs.getD i 0 : Nat))) := by
  rw [List.getElem?_append_left (by simpa using h)]
  simp [h, I]
theorem head_I {xs : List Nat} (h : 0 < xs.length) : (xs.map I).head? = some (.val (.int .i64 (xs.getD 0 0 : Nat))) := by
  cases xs with
  | nil => simp at h
  | cons x l => rfl
theorem set_I {xs : List Nat} {i x : Nat} (l : List PV) (h : i < xs.length) : spl (xs.map I ++ l) i [.val (.int .i64 (x : Nat))] = (xs.set i x).map I ++ l := by
  unfold spl
  simp only [List.length_singleton]
  rw [List.take_append_of_le_length (by simpa using Nat.le_of_lt h), List.drop_append_of_le_length (by simp; omega), List.set_eq_take_append_cons_drop, if_pos h]
  simp [I]
theorem set_I' {xs : List Nat} {i x : Nat} (h : i < xs.length) : spl (xs.map I) i [.val (.int .i64 (x : Nat))] = (xs.set i x).map I := by
  have := set_I (x := x) [] h
  simpa using this
theorem own_split {zs : List Nat} (h : Lm zs) (rest : List Value) : zs.map I ++ rest.map .val = (D (V zs)).map I ++ (List.replicate (zs.length - (D (V zs)).length) (Value.int .i64 0) ++ rest).map .val := by
  have hl := D_len_V h
  have e : zs = D (V zs) ++ List.replicate (zs.length - (D (V zs)).length) 0 := by
    refine V_inj h (Lm_append.2 ⟨Lm_D _, Lm_repl _⟩) (by simp; omega) ?_
    rw [V_append, V_repl, V_D]; simp
  conv => lhs; rw [e]
  simp [I]
theorem own_split' {zs : List Nat} (h : Lm zs) : zs.map I = (D (V zs)).map I ++ (List.replicate (zs.length - (D (V zs)).length) (Value.int .i64 0)).map .val := by
  have := own_split h []
  simpa using this
theorem app_I (zs : List Nat) (c : Nat) : zs.map I ++ [PV.val (.int .i64 (c : Nat))] = (zs ++ [c]).map I := by simp [I]
theorem take_Il (xs : List Nat) (l : List PV) : List.take xs.length (xs.map I ++ l) = xs.map I := by
  rw [List.take_append_of_le_length (by simp)]; exact List.take_of_length_le (by simp)
theorem frzL_I (D : Nat → Bool) (H : Nat → Option (List PV)) (d : Nat) (xs : List Nat) : (xs.map I).mapM (Ytfjdfnlkobeehaa.frz D H d) = some (xs.map I) := frzL_flat D H d (flatL_I xs)
theorem unU_I (xs : List Nat) : (xs.map I).map unU = xs := by
  induction xs with
  | nil => rfl
  | cons x xs ih => simpa [I, unU] using ih

attribute [go_sem] get_I set_I set_I' head_I flatI_take flatI_drop flatI_sub I_def SI_def flatL_I oneP_I frzL_I take_Il
attribute [go_sem low] repl_I
end Go.Proofs.Ytfjdfnlkobeehaa.Ref
end

section
set_option maxRecDepth 100000
set_option linter.unusedVariables false
set_option linter.unusedSimpArgs false
namespace Go.Proofs.Ytfjdfnlkobeehaa.Ref

structure Ok (xs : List Nat) : Prop where
  lm : Lm xs
  len : xs.length ≤ 1099511627776
theorem Ok.short {xs : List Nat} (h : Ok xs) : Ok (Ref.D (V xs)) := ⟨Lm_D _, Nat.le_trans (D_len_V h.lm) h.len⟩

theorem cut_calls {xs : List Nat} (h : Ok xs) : PT Try.prog 141 [SI xs] (isV (SI (D (V xs)))) := by
  have hlen := h.len
  refine PCalls.enter (n := 21) (rs := [.tmp 2]) (tb := []) Try.func141 rfl rfl rfl (by kernel_rfl) (by kernel_rfl) (by simp) fun c hc ht => ?_
  simp -implicitDefEqProofs (disch := omega) only [go_sem, ht]
  refine LW.loopW hc ht (by kernel_rfl) (fun s => s.sl 0 = .sl xs.length (xs.map I) ∧ ∃ k : Nat, k ≤ xs.length ∧ s.sl 3 = .val (.int .i64 k) ∧ ∀ i, k ≤ i → i < xs.length → xs.getD i 0 = 0)
    (fun s => match s.sl 3 with | .val (.int _ k) => k.toNat | _ => 0) ?_ ?_
  · simp -implicitDefEqProofs (disch := omega) only [go_sem, ht]
    exact ⟨_, Nat.le_refl _, rfl, fun i h h' => by omega⟩
  · rintro s ⟨h0, k, hk, h3, hz⟩
    by_cases hk0 : k = 0
    · subst hk0
      have e := D_take h.lm hk hz (.inl rfl)
      simp -implicitDefEqProofs (disch := omega) only [go_sem, ht, h0, h3]
      refine end_treeW 0 ?_
      simp -implicitDefEqProofs (disch := omega) only [go_sem, ht]
      rw [← e]; simp [SI]
    · simp -implicitDefEqProofs (disch := omega) only [go_sem, ht, h0, h3]
      have e1 : ((k : Int) - 1).toNat = k - 1 := by omega
      refine ⟨fun h => ⟨⟨k - 1, by omega, rfl, fun i h1 h2 => ?_⟩, by omega⟩, fun hn => ?_⟩
      · by_cases hi : i = k - 1
        · subst hi; omega
        · exact hz i (by omega) h2
      · have e := D_take h.lm hk hz (.inr (by omega))
        refine end_treeW 0 ?_
        simp -implicitDefEqProofs (disch := omega) only [go_sem, ht]
        rw [← e]; simp [SI, Nat.min_eq_left hk]

theorem cut_own {H : Nat → Option (List PV)} {nx id n cap : Nat} {xs : List Nat} {rest : List Value} (hlm : Lm xs) (hn : xs.length = n) (hlen : n ≤ 2199023255552) (hcap : n ≤ cap) (hH : H id = some (xs.map I ++ rest.map .val)) :
    PCalls Try.prog 141 [.ref id 0 n cap 1] H nx (memQ (.ref id 0 (D (V xs)).length cap 1) H nx) := by
  refine PCalls.enter (n := 21) (rs := [.tmp 2]) (tb := []) Try.func141 rfl rfl rfl (by kernel_rfl) (by kernel_rfl) (by simp) fun c hc ht => ?_
  simp -implicitDefEqProofs (disch := omega) only [go_sem, ht]
  refine LW.loopW hc ht (by kernel_rfl) (fun s => s.H = H ∧ s.nx = nx ∧ s.sl 0 = .ref id 0 n cap 1 ∧ ∃ k : Nat, k ≤ n ∧ s.sl 3 = .val (.int .i64 k) ∧ ∀ i, k ≤ i → i < xs.length → xs.getD i 0 = 0)
    (fun s => match s.sl 3 with | .val (.int _ k) => k.toNat | _ => 0) ?_ ?_
  · simp -implicitDefEqProofs (disch := omega) only [go_sem, ht]
    exact ⟨_, Nat.le_refl _, rfl, fun i h h' => by omega⟩
  · rintro s ⟨eH, en, h0, k, hk, h3, hz⟩
    by_cases hk0 : k = 0
    · subst hk0
      have e := D_take hlm (Nat.zero_le _) hz (.inl rfl)
      simp -implicitDefEqProofs (disch := omega) only [go_sem, ht, h0, h3]
      (refine end_plain (by simp -implicitDefEqProofs (disch := omega) only [eH, en, go_sem, ht] <;> rfl) ?_; simp only [tupP_1, tupP_2]; refine ⟨?_, ?_, ?_⟩ <;> try simp -implicitDefEqProofs (disch := omega) only [eH, en, go_sem, ht])
      rw [← e]; simp
    · simp -implicitDefEqProofs (disch := omega) only [go_sem, ht, h0, h3, eH, en, hH]
      refine ⟨fun h => ⟨⟨k - 1, by omega, rfl, fun i h1 h2 => ?_⟩, by omega⟩, fun hn' => ?_⟩
      · by_cases hi : i = k - 1
        · subst hi; omega
        · exact hz i (by omega) h2
      · have e := D_take hlm (by omega : k ≤ xs.length) hz (.inr (by omega))
        (refine end_plain (by simp -implicitDefEqProofs (disch := omega) only [eH, en, go_sem, ht] <;> rfl) ?_; simp only [tupP_1, tupP_2]; refine ⟨?_, ?_, ?_⟩ <;> try simp -implicitDefEqProofs (disch := omega) only [eH, en, go_sem, ht])
        rw [← e]; simp; omega

theorem small_bound {ds xs : List Nat} {i c k more : Nat} (hx : Lm xs) (hk : k ≤ 4294967296) (hm : more ≤ 4294967296) (hc : 0 < c) (h : V ds + 10000 ^ i * c = V xs * k + more) : i < xs.length + 3 := by
  have h1 := V_lt hx
  have h2 : V xs * k + more < 10000 ^ (xs.length + 3) := by
    have h3 : V xs * k ≤ V xs * 4294967296 := Nat.mul_le_mul_left _ hk
    have h4 : 10000 ^ (xs.length + 3) = 10000 ^ xs.length * 1000000000000 := by rw [Nat.pow_add]
    rw [h4]
    generalize 10000 ^ xs.length = P at *
    generalize V xs * k = q at *
    omega
  have h5 : 10000 ^ i < 10000 ^ (xs.length + 3) := by
    have : 10000 ^ i * 1 ≤ 10000 ^ i * c := Nat.mul_le_mul_left _ hc
    generalize 10000 ^ i * c = q at *
    generalize 10000 ^ (xs.length + 3) = Q at *
    generalize V xs * k = r at *
    omega
  exact (Nat.pow_lt_pow_iff_right (by decide)).1 h5
theorem arith7 {a P c b z t : Nat} (h : a + P * c = b) (ht : t = c + z) : (a + P * (t % 10000)) + (P * 10000) * (t / 10000) = b + P * z := by
  have h2 := Nat.mod_add_div t 10000
  generalize t % 10000 = r at *
  generalize t / 10000 = q at *
  rw [Nat.mul_assoc, Nat.add_assoc, ← Nat.mul_add, h2, ht, Nat.mul_add]
  omega

theorem small_calls {xs : List Nat} {k more : Nat} (h : Ok xs) (hk : k ≤ 4294967296) (hm : more ≤ 4294967296) : PT Try.prog 136 [SI xs, .val (.int .i64 k), .val (.int .i64 more)] (isV (SI (D (V xs * k + more)))) := by
  have hlen := h.len
  refine PCalls.enter (n := 42) (rs := [.tmp 6]) (tb := []) Try.func136 rfl rfl rfl (by kernel_rfl) (by kernel_rfl) (by simp) fun c hc ht => ?_
  simp -implicitDefEqProofs (disch := omega) only [go_sem, ht]
  refine LW.ghost (Gh.nil 7 1 (by simp -implicitDefEqProofs (disch := omega) only [go_sem, ht])) ?_
  refine LW.loopW hc ht (by kernel_rfl) (fun t => t.sl 0 = .sl xs.length (xs.map I) ∧ t.sl 1 = .val (.int .i64 k) ∧ ∃ i c : Nat, t.sl 9 = .val (.int .i64 i) ∧ t.sl 8 = .val (.int .i64 c) ∧ c ≤ 4294967296 ∧ (i ≤ xs.length ∨ i ≤ xs.length + 3) ∧
      ∃ (ds : List Nat) (id cap : Nat) (rest : List Value), ds.length = i ∧ t.sl 7 = .ref id 0 i cap 1 ∧ t.H id = some (ds.map I ++ rest.map .val) ∧ i + rest.length = cap ∧ id < t.nx ∧ Lm ds ∧ Hide (V ds + 10000 ^ i * c = V (xs.take i) * k + more))
      (fun t => match t.sl 9, t.sl 8 with | .val (.int _ i), .val (.int _ c) => (xs.length - i.toNat) * 4294967297 + c.toNat | _, _ => 0) ?_ ?_
  · simp -implicitDefEqProofs (disch := omega) only [go_sem, ht]
    exact ⟨0, more, rfl, rfl, hm, by omega, [], 0, 0, [], rfl, rfl, by rw [upd_self]; rfl, rfl, by omega, Lm_nil, Hide.mk (by simp [V])⟩
  · rintro t ⟨h0, h1, i, c', h9, h8, hc', hi, ds, id, cap, rest, hdl, h7, hH, hcap, hid, hdm, heq⟩
    have hi : i ≤ xs.length + 3 := by omega
    by_cases hil : i < xs.length
    · have hxg := h.lm.get i
      have hxk : xs.getD i 0 * k ≤ 9999 * 4294967296 := Nat.mul_le_mul (by omega) hk
      have key : Hide (V (ds ++ [(c' + xs.getD i 0 * k) % 10000]) + 10000 ^ (i + 1) * ((c' + xs.getD i 0 * k) / 10000) = V (xs.take (i + 1)) * k + more) := by
        refine Hide.mk ?_
        rw [V_append, hdl, V_cons, V_nil, Nat.mul_zero, Nat.add_zero, Nat.pow_succ, arith7 heq.out rfl, V_take_succ xs hil, Nat.add_mul, Nat.mul_assoc]
        omega
      clear heq
      simp -implicitDefEqProofs (disch := omega) only [go_sem, ht, h0, h1, h9, h8, h7, hH]
      (refine append_ownX (by refine ⟨?_, ?_, ?_, ?_, ?_, ?_, ?_, ?_⟩ <;> (simp -implicitDefEqProofs (disch := omega) only [srcP_ref, srcP_sl, srcP_nil, Option.isSome_some, hH, go_sem, ht] <;> rfl)) (by simp <;> omega) (by first | assumption | (simp <;> omega)) (by first | rfl | simp) (by first | omega | (simp <;> omega)) ?_; intro id1 cap1 rest1 H1 nx1 hH1 hcap1 hid1 hnx1 hfr1 hfs1; simp only [put_nx, withH_nx, put_H, withH_H] at hid1 hnx1 hfr1 hfs1; (try simp only [app_U, ← List.map_append] at hH1))
      simp only [app_I] at hH1
      simp -implicitDefEqProofs (disch := omega) only [go_sem, ht, h0, h1, h9, h8, h7]
      exact ⟨⟨i + 1, _, rfl, rfl, by omega, by omega, ds ++ [(c' + xs.getD i 0 * k) % 10000], id1, cap1, rest1, by simp [hdl], rfl, hH1, hcap1, by omega, Lm_append.2 ⟨hdm, fun x hx => by simp at hx; omega⟩, key⟩, by omega⟩
    · have et : V (xs.take i) = V xs := by rw [List.take_of_length_le (by omega)]
      by_cases hc0 : c' = 0
      · have e : V xs * k + more = V ds := by
          have := heq.out
          rw [et, hc0, Nat.mul_zero, Nat.add_zero] at this
          exact this.symm
        rw [e]
        simp -implicitDefEqProofs (disch := omega) only [go_sem, ht, h0, h1, h9, h8, h7, hH]
        have hdd := D_len_V hdm
        have hqs : (ds.map I ++ List.map PV.val rest).take (D (V ds)).length = (D (V ds)).map I := by
          have := take_Il (D (V ds)) ((List.replicate (ds.length - (D (V ds)).length) (Value.int .i64 0) ++ rest).map .val)
          rwa [← own_split hdm rest] at this
        (apply pCall_mem; exact (cut_own (xs := ds) (rest := rest) hdm hdl (by omega) (show i ≤ cap by omega) (by simp -implicitDefEqProofs (disch := omega) only [hH, go_sem, ht] <;> rfl)); rintro _ _ _ ⟨rfl, rfl, rfl⟩ -; simp -implicitDefEqProofs (disch := omega) only [hH, go_sem, ht])
        (refine end_treeN 2 ?_; simp -implicitDefEqProofs (disch := omega) only [go_sem, ht, hH, hqs])
        omega
      · have hb := small_bound (ds := ds) (i := i) (c := c') h.lm hk hm (Nat.pos_of_ne_zero hc0) (by have := heq.out; rwa [et] at this)
        have key : Hide (V (ds ++ [c' % 10000]) + 10000 ^ (i + 1) * (c' / 10000) = V (xs.take (i + 1)) * k + more) := by
          refine Hide.mk ?_
          have := arith7 (z := 0) heq.out rfl
          rw [Nat.add_zero, Nat.mul_zero, Nat.add_zero, et] at this
          rw [V_append, hdl, V_cons, V_nil, Nat.mul_zero, Nat.add_zero, Nat.pow_succ, this, List.take_of_length_le (by omega)]
        clear heq
        simp -implicitDefEqProofs (disch := omega) only [go_sem, ht, h0, h1, h9, h8, h7, hH]
        (refine append_ownX (by refine ⟨?_, ?_, ?_, ?_, ?_, ?_, ?_, ?_⟩ <;> (simp -implicitDefEqProofs (disch := omega) only [srcP_ref, srcP_sl, srcP_nil, Option.isSome_some, hH, go_sem, ht] <;> rfl)) (by simp <;> omega) (by first | assumption | (simp <;> omega)) (by first | rfl | simp) (by first | omega | (simp <;> omega)) ?_; intro id1 cap1 rest1 H1 nx1 hH1 hcap1 hid1 hnx1 hfr1 hfs1; simp only [put_nx, withH_nx, put_H, withH_H] at hid1 hnx1 hfr1 hfs1; (try simp only [app_U, ← List.map_append] at hH1))
        simp only [app_I] at hH1
        simp -implicitDefEqProofs (disch := omega) only [go_sem, ht, h0, h1, h9, h8, h7]
        exact ⟨⟨i + 1, _, rfl, rfl, by omega, by omega, ds ++ [c' % 10000], id1, cap1, rest1, by simp [hdl], rfl, hH1, hcap1, by omega, Lm_append.2 ⟨hdm, fun x hx => by simp at hx; omega⟩, key⟩, by omega⟩
end Go.Proofs.Ytfjdfnlkobeehaa.Ref

namespace Go.Proofs.Ytfjdfnlkobeehaa.Ref

theorem spl_full2 (a b x y : PV) : spl [a, b] 0 [x, y] = [x, y] := rfl
attribute [go_sem] spl_full2

theorem nilS {st : PS} (t : Nat) (ht : st.sl t = .val (.slice none 0 0)) : Gh st { st with sl := upd st.sl t (.sl 0 []) } := by
  rintro c a w ⟨ρ, h⟩
  refine ⟨ρ, h.own, fun u => ?_, h.size, h.defers, h.frame, h.grow, h.ids, h.ρk, h.fF, h.fA, h.sw⟩
  by_cases hu : u = t
  · subst hu
    show Rep _ (upd st.sl u _ u) _
    rw [upd_self]
    have := nn1_rep (h.slots u)
    rw [ht] at this
    exact this
  · show Rep _ (upd st.sl t _ u) _
    rw [upd_ne _ _ hu]; exact h.slots u


def NP (neg : Bool) (n : Nat) : PV := .agg [.val (.bool neg), SI (D n)]
theorem NP_def (neg : Bool) (n : Nat) : NP neg n = .agg [.val (.bool neg), .sl (D n).length ((D n).map I)] := rfl

theorem cutBy_calls {xs : List Nat} (h : Ok xs) : PT Try.prog 132 [SI xs, .val (.int .i64 4294967296)] (isV (.tup [SI (D (V xs / 4294967296)), .val (.int .i64 (V xs % 4294967296 : Nat))])) := by
  have hlen := h.len
  refine PCalls.enter (n := 38) (rs := [.tmp 4, .tmp 5]) (tb := []) Try.func132 rfl rfl rfl (by kernel_rfl) (by kernel_rfl) (by simp) fun c hc ht => ?_
  simp -implicitDefEqProofs (disch := omega) only [go_sem, ht]
  refine LW.loopW hc ht (by kernel_rfl) (fun t => t.sl 0 = .sl xs.length (xs.map I) ∧ t.sl 1 = .val (.int .i64 4294967296) ∧ ∃ k : Nat, k ≤ xs.length ∧ t.sl 8 = .val (.int .i64 ((k : Int) - 1)) ∧
      ∃ (zs : List Nat) (id r : Nat), zs.length = xs.length ∧ t.sl 6 = .ref id 0 xs.length xs.length 1 ∧ t.H id = some (zs.map I) ∧ id < t.nx ∧ t.sl 7 = .val (.int .i64 (r : Nat)) ∧ r < 4294967296 ∧
      Lm zs ∧ Hide (V (zs.drop k) * 4294967296 + r = V (xs.drop k)))
      (fun t => match t.sl 8 with | .val (.int _ j) => (j + 1).toNat | _ => 0) ?_ ?_
  · simp -implicitDefEqProofs (disch := omega) only [go_sem, ht]
    exact ⟨xs.length, Nat.le_refl _, rfl, List.replicate xs.length 0, 0, 0, by simp, rfl, by rw [upd_self], by omega, rfl, by omega, Lm_repl _, Hide.mk (by rw [List.drop_of_length_le (by simp), List.drop_of_length_le (by simp)]; simp [V])⟩
  · rintro t ⟨h0, h1, k, hk, h8, zs, id, r, hzl, h6, hH, hid, h7, hr, hzm, heq⟩
    by_cases hk0 : k = 0
    · subst hk0
      have heq := heq.out
      rw [List.drop_zero, List.drop_zero] at heq
      have e1 : V xs / 4294967296 = V zs := by omega
      have e2 : V xs % 4294967296 = r := by omega
      rw [e1, e2]
      clear e1 e2 heq
      have hdl := D_len_V hzm
      have hqs : (zs.map I).take (D (V zs)).length = (D (V zs)).map I := by
        have := take_Il (D (V zs)) ((List.replicate (zs.length - (D (V zs)).length) (Value.int .i64 0)).map .val)
        rwa [← own_split' hzm] at this
      simp -implicitDefEqProofs (disch := omega) only [go_sem, ht, h0, h1, h8, h7, h6, hH]
      (apply pCall_mem; exact (cut_own (xs := zs) (rest := []) hzm hzl (by omega) (Nat.le_refl _) (by simp -implicitDefEqProofs (disch := omega) only [hH, h7, List.map_nil, go_sem, ht] <;> rfl)); rintro _ _ _ ⟨rfl, rfl, rfl⟩ -; simp -implicitDefEqProofs (disch := omega) only [hH, h7, List.map_nil, go_sem, ht])
      (refine end_treeN 2 ?_; simp -implicitDefEqProofs (disch := omega) only [go_sem, ht, hH, hqs])
      exact hdl
    · have e1 : ((k : Int) - 1).toNat = k - 1 := by omega
      have e2 : k - 1 + 1 = k := by omega
      have hxg := h.lm.get (k - 1)
      have hd := V_drop xs (i := k - 1) (by omega)
      rw [e2, ← heq.out] at hd
      have hq : (r * 10000 + xs.getD (k - 1) 0) / 4294967296 < 10000 := by omega
      have hset : Lm (zs.set (k - 1) ((r * 10000 + xs.getD (k - 1) 0) / 4294967296)) := fun x hx => by
        rcases List.mem_or_eq_of_mem_set hx with h | h
        · exact hzm x h
        · omega
      have key : Hide (V ((zs.set (k - 1) ((r * 10000 + xs.getD (k - 1) 0) / 4294967296)).drop (k - 1)) * 4294967296 + (r * 10000 + xs.getD (k - 1) 0) % 4294967296 = V (xs.drop (k - 1))) := by
        refine Hide.mk ?_
        rw [V_set_drop (by omega), hd, e2]
        omega
      clear hd heq
      simp -implicitDefEqProofs (disch := omega) only [go_sem, ht, h0, h1, h8, h7, h6, hH, e1]
      exact ⟨⟨k - 1, by omega, by congr 2, _, id, _, by simp [hzl], rfl, upd_self _ _ _, hid, rfl, by omega, hset, key⟩, by omega⟩

theorem made_calls {xs : List Nat} (h : Ok xs) : PT Try.prog 128 [.val (.bool false), SI xs] (isV (NP false (V xs))) := by
  have hlen := h.short.len
  rw [NP_def]
  refine PCalls.enter (n := 15) (rs := [.cell 4 103]) (tb := []) Try.func128 rfl rfl rfl (by kernel_rfl) (by kernel_rfl) (by simp) fun c hc ht => ?_
  simp -implicitDefEqProofs (disch := omega) only [go_sem, ht]
  (refine pCall_vw (by refine ⟨⟨?_, ?_⟩, ?_, ?_⟩; rotate_left 2; (first | (right; rintro r rfl; rfl) | left); all_goals ((try simp -implicitDefEqProofs (disch := omega) only [go_sem, ht]) <;> rfl)) (cut_calls h) ?_; rintro _ nx - rfl hnx; simp -implicitDefEqProofs (disch := omega) only [go_sem, ht])
  (refine end_treeN 2 ?_; simp -implicitDefEqProofs (disch := omega) only [go_sem, ht])

theorem from_calls {xs : List Nat} (h : Ytfjdfnlkobeehaa.Lm xs) (hl : xs.length ≤ 1000000) : PT Try.prog 125 [Ytfjdfnlkobeehaa.SU xs] (isV (NP false (Ytfjdfnlkobeehaa.V xs))) := by
  have hok : ∀ k, k ≤ xs.length → Ok (D (Ytfjdfnlkobeehaa.V (xs.drop k))) := fun k hk => ⟨Lm_D _, by
    have h1 := Ytfjdfnlkobeehaa.V_lt (h.drop k)
    rw [List.length_drop] at h1
    have h2 : Ytfjdfnlkobeehaa.V (xs.drop k) < 10000 ^ (3 * (xs.length - k)) := by
      rw [Nat.pow_mul]
      exact Nat.lt_of_lt_of_le h1 (Nat.pow_le_pow_left (by decide) _)
    have := D_len_le.2 h2
    omega⟩
  refine PCalls.enter (n := 21) (rs := [.cell 2 103]) (tb := []) Try.func125 rfl rfl rfl (by kernel_rfl) (by kernel_rfl) (by simp) fun c hc ht => ?_
  simp -implicitDefEqProofs (disch := omega) only [go_sem, ht]
  refine LW.ghost (nilS 3 (by simp -implicitDefEqProofs (disch := omega) only [go_sem, ht])) ?_
  refine LW.loopW hc ht (by kernel_rfl) (fun t => t.sl 0 = .sl xs.length (xs.map Ytfjdfnlkobeehaa.U) ∧ t.sl 2 = .ptr 0 0 ∧ t.H 0 = some [.val (.bool false), .val (.slice none 0 0)] ∧ 0 < t.nx ∧ ∃ k : Nat, k ≤ xs.length ∧ t.sl 4 = .val (.int .i64 ((k : Int) - 1)) ∧
      t.sl 3 = .sl (D (Ytfjdfnlkobeehaa.V (xs.drop k))).length ((D (Ytfjdfnlkobeehaa.V (xs.drop k))).map I))
      (fun t => match t.sl 4 with | .val (.int _ j) => (j + 1).toNat | _ => 0) ?_ ?_
  · simp -implicitDefEqProofs (disch := omega) only [go_sem, ht]
    exact ⟨xs.length, Nat.le_refl _, rfl, by rw [List.drop_length, Ytfjdfnlkobeehaa.V_nil, D_zero]; rfl⟩
  · rintro t ⟨h0, h2, hH, hnx, k, hk, h4, h3⟩
    by_cases hk0 : k = 0
    · subst hk0
      have hmd := made_calls (hok 0 hk)
      rw [V_D, List.drop_zero] at hmd
      rw [List.drop_zero] at h3
      have hl2 := (hok 0 hk).len
      rw [List.drop_zero] at hl2
      rw [NP_def] at hmd ⊢
      simp -implicitDefEqProofs (disch := omega) only [go_sem, ht, h0, h2, h4, h3]
      (refine pCall_vw (by refine ⟨⟨?_, ?_⟩, ?_, ?_⟩; rotate_left 2; (first | (right; rintro r rfl; rfl) | left); all_goals ((try simp -implicitDefEqProofs (disch := omega) only [h0, h2, h4, h3, hH, go_sem, ht]) <;> rfl)) (hmd) ?_; rintro _ nx - rfl hnx; simp -implicitDefEqProofs (disch := omega) only [h0, h2, h4, h3, hH, go_sem, ht])
      (refine end_treeN 2 ?_; simp -implicitDefEqProofs (disch := omega) only [go_sem, ht, hH, h2])
    · have e1 : ((k : Int) - 1).toNat = k - 1 := by omega
      have e2 : k - 1 + 1 = k := by omega
      have hxg := h.get (k - 1)
      have hsm := small_calls (k := 4294967296) (more := xs.getD (k - 1) 0) (hok k hk) (Nat.le_refl _) (by omega)
      have ev : V (D (Ytfjdfnlkobeehaa.V (xs.drop k))) * 4294967296 + xs.getD (k - 1) 0 = Ytfjdfnlkobeehaa.V (xs.drop (k - 1)) := by
        rw [V_D, Ytfjdfnlkobeehaa.V_drop xs (i := k - 1) (by omega), e2]; omega
      rw [ev] at hsm
      simp -implicitDefEqProofs (disch := omega) only [go_sem, ht, h0, h2, h4, h3, e1]
      (refine pCall_vw (by refine ⟨⟨?_, ?_⟩, ?_, ?_⟩; rotate_left 2; (first | (right; rintro r rfl; rfl) | left); all_goals ((try simp -implicitDefEqProofs (disch := omega) only [h0, h2, h4, h3, e1, hH, go_sem, ht]) <;> rfl)) (hsm) ?_; rintro _ nx - rfl hnx; simp -implicitDefEqProofs (disch := omega) only [h0, h2, h4, h3, e1, hH, go_sem, ht])
      exact ⟨⟨by omega, k - 1, by omega, rfl, rfl⟩, by omega⟩
end Go.Proofs.Ytfjdfnlkobeehaa.Ref

namespace Go.Proofs.Ytfjdfnlkobeehaa.Ref

theorem limbs_calls {n : Nat} {neg : Bool} (h : Ok (D n)) (hl : (Ytfjdfnlkobeehaa.D n).length ≤ 1099511627776) : PT Try.prog 115 [NP neg n] (isV (Ytfjdfnlkobeehaa.SU (Ytfjdfnlkobeehaa.D n))) := by
  have hlen := h.len
  rw [NP_def]
  refine PCalls.enter (n := 23) (rs := [.tmp 2]) (tb := []) Try.func115 rfl rfl rfl (by kernel_rfl) (by kernel_rfl) (by simp) fun c hc ht => ?_
  simp -implicitDefEqProofs (disch := omega) only [go_sem, ht]
  refine append_nil (e := 3) (b := 8) (m := (D n).length) (z := .int .i64 0) (ys := (D n).map I) T23_elem rfl T3_size T3_bytes T3_zero (by simp -implicitDefEqProofs (disch := omega) only [go_sem, ht, srcP_sl]) (by simp -implicitDefEqProofs (disch := omega) only [go_sem, ht]) (by omega) (fun h0 => ?_) fun cap' rest' h1 h2 => ?_
  · have hn := D_len_zero.1 h0
    subst hn
    simp -implicitDefEqProofs (disch := omega) only [go_sem, ht]
    refine LW.loopW hc ht (by kernel_rfl) (fun t => t.sl 4 = .val (.slice none 0 0) ∧ t.sl 3 = .val (.slice none 0 0)) (fun _ => 0) ?_ ?_
    · simp -implicitDefEqProofs (disch := omega) only [go_sem, ht]
    · rintro t ⟨h4, h3⟩
      simp -implicitDefEqProofs (disch := omega) only [go_sem, ht, h4, h3]
      (refine end_treeN 2 ?_; simp -implicitDefEqProofs (disch := omega) only [go_sem, ht, h4, h3])
      rw [Ytfjdfnlkobeehaa.D_zero]; rfl
  · simp -implicitDefEqProofs (disch := omega) only [go_sem, ht]
    refine LW.ghost (Gh.frzAll _) ?_
    refine LW.ghost (Gh.nil 3 1 (by simp -implicitDefEqProofs (disch := omega) only [go_sem, ht])) ?_
    refine LW.loopW hc ht (by kernel_rfl) (fun t => ∃ m : Nat, Ok (D m) ∧ t.sl 4 = .sl (D m).length ((D m).map I) ∧
        ∃ (us : List Nat) (id cap : Nat) (rest : List Value), t.sl 3 = .ref id 0 us.length cap 1 ∧ t.H id = some (us.map Ytfjdfnlkobeehaa.U ++ rest.map .val) ∧ us.length + rest.length = cap ∧ id < t.nx ∧ Hide (Ytfjdfnlkobeehaa.D n = us ++ Ytfjdfnlkobeehaa.D m))
      (fun t => match t.sl 4 with | .sl _ cs => V (cs.map unU) | _ => 0) ?_ ?_
    · simp -implicitDefEqProofs (disch := omega) only [go_sem, ht]
      rw [if_pos (Nat.le_add_right _ _)]
      exact ⟨n, h, rfl, [], 2, 0, [], rfl, by rw [upd_self]; rfl, rfl, by omega, Hide.mk rfl⟩
    · clear h1 h2 rest' cap'
      rintro t ⟨m, hm, h4, us, id, cap, rest, h3, hH, hcap, hid, heq⟩
      have hml := hm.len
      have hul : us.length ≤ 1099511627776 := by
        have := congrArg List.length heq.out
        rw [List.length_append] at this
        omega
      by_cases hm0 : m = 0
      · subst hm0
        have hz : (D 0).length = 0 := by rw [D_zero]; rfl
        have e : Ytfjdfnlkobeehaa.D n = us := by have := heq.out; rwa [Ytfjdfnlkobeehaa.D_zero, List.append_nil] at this
        rw [e]
        simp -implicitDefEqProofs (disch := omega) only [go_sem, ht, h4, h3, hz]
        (refine end_treeN 2 ?_; simp -implicitDefEqProofs (disch := omega) only [go_sem, ht, h4, h3, hH])
        omega
      · have hp := D_len_pos hm0
        have hcb := cutBy_calls hm
        rw [V_D] at hcb
        have hm2 : Ok (D (m / 4294967296)) := ⟨Lm_D _, Nat.le_trans (D_len_mono (Nat.div_le_self _ _)) hml⟩
        have heq2 : Hide (Ytfjdfnlkobeehaa.D n = (us ++ [m % 4294967296]) ++ Ytfjdfnlkobeehaa.D (m / 4294967296)) := Hide.mk (by rw [heq.out, Ytfjdfnlkobeehaa.D_pos hm0, List.append_assoc]; rfl)
        have hmm : m % 4294967296 < 4294967296 := Nat.mod_lt _ (by decide)
        have hlt : m / 4294967296 < m := Nat.div_lt_self (by omega) (by decide)
        clear heq
        simp -implicitDefEqProofs (disch := omega) only [go_sem, ht, h4, h3, hH]
        (refine pCall_vw (by refine ⟨⟨?_, ?_⟩, ?_, ?_⟩; rotate_left 2; (first | (right; rintro r rfl; rfl) | left); all_goals ((try simp -implicitDefEqProofs (disch := omega) only [h4, h3, hH, go_sem, ht]) <;> rfl)) (hcb) ?_; rintro _ nx - rfl hnx; simp -implicitDefEqProofs (disch := omega) only [h4, h3, hH, go_sem, ht])
        (refine append_ownX (by refine ⟨?_, ?_, ?_, ?_, ?_, ?_, ?_, ?_⟩ <;> (simp -implicitDefEqProofs (disch := omega) only [srcP_ref, srcP_sl, srcP_nil, Option.isSome_some, hH, h3, go_sem, ht] <;> rfl)) (by simp <;> omega) (by first | assumption | (simp <;> omega)) (by first | rfl | simp) (by first | omega | (simp <;> omega)) ?_; intro id1 cap1 rest1 H1 nx1 hH1 hcap1 hid1 hnx1 hfr1 hfs1; simp only [put_nx, withH_nx, put_H, withH_H] at hid1 hnx1 hfr1 hfs1; (try simp only [app_U, ← List.map_append] at hH1))
        simp -implicitDefEqProofs (disch := omega) only [go_sem, ht, h4, h3]
        exact ⟨⟨m / 4294967296, hm2, rfl, us ++ [m % 4294967296], id1, cap1, rest1, by simp, hH1, by simp; omega, by omega, heq2⟩, by simpa only [unU_I, V_D] using hlt⟩

theorem size_calls {a b : Nat} {f g : Bool} (ha : Ok (D a)) (hb : Ok (D b)) : PT Try.prog 130 [NP f a, NP g b] (isV (.val (.int .i64 (cmpI a b)))) := by
  have hal := ha.len
  have hbl := hb.len
  have hdx := V_D a
  have hdy := V_D b
  rw [NP_def, NP_def]
  refine PCalls.enter (n := 50) (rs := [.tmp 4]) (tb := [(8, [(0, []), (1, []), (2, []), (3, []), (4, []), (5, []), (6, []), (7, []), (8, []), (9, []), (10, [])]), (10, [(0, []), (1, []), (2, []), (3, []), (4, []), (5, []), (6, []), (7, []), (8, []), (9, []), (10, [])])]) Try.func130 rfl rfl rfl (by kernel_rfl) (by kernel_rfl) (by simp) fun c hc ht => ?_
  simp -implicitDefEqProofs (disch := omega) only [go_sem, ht]
  refine ⟨fun hne => ⟨fun hlt => ?_, fun hge => ?_⟩, fun he => ?_⟩
  · have := cmpI_lt (D_lt_of_len (a := a) (b := b) (by omega))
    (refine end_treeW 0 ?_; simp -implicitDefEqProofs (disch := omega) only [go_sem, ht])
    rw [this]
  · have := cmpI_gt (D_lt_of_len (a := b) (b := a) (by omega))
    (refine end_treeW 0 ?_; simp -implicitDefEqProofs (disch := omega) only [go_sem, ht])
    rw [this]
  have he : (D a).length = (D b).length := by omega
  refine LW.loopW hc ht (by kernel_rfl) (fun s => s.sl 2 = .ptr 0 0 ∧ s.sl 3 = .ptr 1 0 ∧ s.H 0 = some [.val (.bool f), .sl (D a).length ((D a).map I)] ∧ s.H 1 = some [.val (.bool g), .sl (D b).length ((D b).map I)] ∧
      ∃ k : Nat, k ≤ (D a).length ∧ s.sl 5 = .val (.int .i64 ((k : Int) - 1)) ∧ V ((D a).drop k) = V ((D b).drop k))
    (fun s => match s.sl 5 with | .val (.int _ k) => (k + 1).toNat | _ => 0) ?_ ?_
  · simp -implicitDefEqProofs (disch := omega) only [go_sem, ht]
    exact ⟨(D a).length, Nat.le_refl _, rfl, by rw [List.drop_length, he, List.drop_length]⟩
  · rintro s ⟨h2, h3, hH0, hH1, k, hk, h5, hs⟩
    by_cases hk0 : k = 0
    · subst hk0
      have hab : a = b := by simpa [hdx, hdy] using hs
      simp -implicitDefEqProofs (disch := omega) only [go_sem, ht, h2, h3, hH0, hH1, h5]
      have := cmpI_eq hab
      (refine end_treeW 0 ?_; simp -implicitDefEqProofs (disch := omega) only [go_sem, ht])
      rw [this]
    · have e1 : ((k : Int) - 1).toNat = k - 1 := by omega
      have e2 : k - 1 + 1 = k := by omega
      simp -implicitDefEqProofs (disch := omega) only [go_sem, ht, h2, h3, hH0, hH1, h5, e1]
      refine ⟨fun hlt => ?_, fun hge => ⟨fun hgt => ?_, fun hle => ⟨⟨k - 1, by omega, by congr 2, ?_⟩, by omega⟩⟩⟩
      · have := cmpI_lt (show a < b by
          rw [← hdx, ← hdy]
          exact V_lt_of_top ha.lm he (i := k - 1) (by omega) (by rw [e2]; exact hs) (by omega))
        (refine end_treeW 0 ?_; simp -implicitDefEqProofs (disch := omega) only [go_sem, ht])
        rw [this]
      · have := cmpI_gt (show b < a by
          rw [← hdx, ← hdy]
          exact V_lt_of_top hb.lm he.symm (i := k - 1) (by omega) (by rw [e2]; exact hs.symm) (by omega))
        (refine end_treeW 0 ?_; simp -implicitDefEqProofs (disch := omega) only [go_sem, ht])
        rw [this]
      · rw [V_drop _ (by omega), V_drop (D b) (by omega), e2, hs]
        omega


theorem nOk {xs : List Nat} (h : Ytfjdfnlkobeehaa.Lm xs) (hl : xs.length ≤ 1000000) : Ok (D (Ytfjdfnlkobeehaa.V xs)) := ⟨Lm_D _, by
    have h1 := Ytfjdfnlkobeehaa.V_lt h
    have h2 : Ytfjdfnlkobeehaa.V xs < 10000 ^ (3 * xs.length) := by
      rw [Nat.pow_mul]
      exact Nat.lt_of_lt_of_le h1 (Nat.pow_le_pow_left (by decide) _)
    have := D_len_le.2 h2
    omega⟩


end Go.Proofs.Ytfjdfnlkobeehaa.Ref

namespace Go.Proofs.Ytfjdfnlkobeehaa




theorem copy_calls {xs : List Nat} (h : Ok xs) : PL 102 [SU xs] xs := by
  have := h.len
  refine PCalls.enter (n := 5) (rs := [.tmp 2]) (tb := []) Try.func102 rfl rfl rfl (by kernel_rfl) (by kernel_rfl) (by simp) fun c hc ht => ?_
  simp -implicitDefEqProofs (disch := omega) only [go_sem, ht]
  refine append_nil (e := 93) (b := 4) (m := xs.length) (z := .int .u32 0) (ys := xs.map U) T28_elem rfl T93_size T93_bytes T93_zero (by simp -implicitDefEqProofs (disch := omega) only [go_sem, ht, srcP_sl]) (by simp -implicitDefEqProofs (disch := omega) only [go_sem, ht]) (by omega) (fun h0 => ?_) fun cap' rest' h1 h2 => ?_
  · have : xs = [] := List.eq_nil_of_length_eq_zero h0
    subst this
    simp -implicitDefEqProofs (disch := omega) only [go_sem, ht]
    exact end_own_nil mk_id (by simp -implicitDefEqProofs (disch := omega) only [go_sem, ht])
  · simp -implicitDefEqProofs (disch := omega) only [go_sem, ht]
    exact end_own1 (mk := fun p => p) (by simp -implicitDefEqProofs (disch := omega) only [go_sem, ht] <;> rfl) (by simp -implicitDefEqProofs (disch := omega) only [go_sem, ht] <;> rfl) (by simp <;> omega) (by simp <;> omega)
end Go.Proofs.Ytfjdfnlkobeehaa
end
