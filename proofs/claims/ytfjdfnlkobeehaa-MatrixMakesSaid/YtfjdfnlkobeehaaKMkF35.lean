/- Part 35 of the way to the statement: the walk and what it needs. -/
import Derived.Test.YtfjdfnlkobeehaaKMkF30
import Derived.Test.YtfjdfnlkobeehaaKMkF31
import Derived.Test.YtfjdfnlkobeehaaKMkF34
section
set_option maxRecDepth 100000
set_option linter.unusedVariables false
set_option linter.unusedSimpArgs false
namespace Go.Proofs.Ytfjdfnlkobeehaa.Ref

end Go.Proofs.Ytfjdfnlkobeehaa.Ref

namespace Go.Proofs.Ytfjdfnlkobeehaa.Ref

def J (z : Int) : PV := .val (.int .i64 z)
theorem J_def (z : Int) : J z = .val (.int .i64 z) := rfl
theorem get_J {zs : List Int} {i : Nat} (l : List PV) (h : i < zs.length) : (zs.map J ++ l)[i]? = some (.val (.int .i64 (zs.getD i 0))) := by
  rw [List.getElem?_append_left (by simpa using h)]
  simp [h, J]
theorem set_J {zs : List Int} {i : Nat} {x : Int} (l : List PV) (h : i < zs.length) : spl (zs.map J ++ l) i [.val (.int .i64 x)] = (zs.set i x).map J ++ l := by
  unfold spl
  simp only [List.length_singleton]
  rw [List.take_append_of_le_length (by simpa using Nat.le_of_lt h), List.drop_append_of_le_length (by simp; omega), List.set_eq_take_append_cons_drop, if_pos h]
  simp [J]
attribute [go_sem] get_J set_J J_def
end Go.Proofs.Ytfjdfnlkobeehaa.Ref

namespace Go.Proofs.Ytfjdfnlkobeehaa.Ref

end Go.Proofs.Ytfjdfnlkobeehaa.Ref

namespace Go.Proofs.Ytfjdfnlkobeehaa.Ref

theorem V_set {zs : List Nat} {k v : Nat} (h : k < zs.length) : V (zs.set k v) + 10000 ^ k * zs.getD k 0 = V zs + 10000 ^ k * v := by
  induction zs generalizing k with
  | nil => simp at h
  | cons z zs ih =>
    cases k with
    | zero => simp [V]; omega
    | succ k =>
      have := ih (k := k) (by simpa using h)
      simp only [List.set_cons_succ, V, Nat.pow_succ, List.getD_cons_succ]
      have h2 : 10000 * (V (zs.set k v) + 10000 ^ k * zs.getD k 0) = 10000 * (V zs + 10000 ^ k * v) := by rw [this]
      rw [Nat.mul_add, Nat.mul_add, ← Nat.mul_assoc, ← Nat.mul_assoc, Nat.mul_comm 10000 (10000 ^ k)] at h2
      omega
theorem V_set_take {zs : List Nat} {k n v : Nat} (h : k < n) (hn : n ≤ zs.length) : V ((zs.set k v).take n) + 10000 ^ k * zs.getD k 0 = V (zs.take n) + 10000 ^ k * v := by
  have := V_set (zs := zs.take n) (k := k) (v := v) (by simp; omega)
  rw [← List.take_set, List.getD_eq_getElem?_getD, List.getElem?_take, if_pos h, ← List.getD_eq_getElem?_getD] at this
  exact this
theorem mul_step {zs vs : List Nat} {A x y c i j m P : Nat} (hm : j < m) (hz : i + m ≤ zs.length) (hv : V (vs.take (j + 1)) = V (vs.take j) + 10000 ^ j * y) (h : V (zs.take (i + m)) + 10000 ^ (i + j) * c = P + 10000 ^ i * (x * V (vs.take j))) :
    V ((zs.set (i + j) ((c + (x * y + zs.getD (i + j) 0)) % 10000)).take (i + m)) + 10000 ^ (i + (j + 1)) * ((c + (x * y + zs.getD (i + j) 0)) / 10000) = P + 10000 ^ i * (x * V (vs.take (j + 1))) := by
  have h1 := V_set_take (zs := zs) (k := i + j) (n := i + m) (v := (c + (x * y + zs.getD (i + j) 0)) % 10000) (by omega) hz
  generalize zs.getD (i + j) 0 = z at *
  have h2 := Nat.mod_add_div (c + (x * y + z)) 10000
  generalize (c + (x * y + z)) % 10000 = r at *
  generalize (c + (x * y + z)) / 10000 = q at *
  have h3 : 10000 ^ (i + j) * (r + 10000 * q) = 10000 ^ (i + j) * (c + (x * y + z)) := by rw [h2]
  have h4 : 10000 ^ i * (x * V (vs.take (j + 1))) = 10000 ^ i * (x * V (vs.take j)) + 10000 ^ (i + j) * (x * y) := by
    rw [hv, Nat.mul_add, Nat.mul_add, Nat.pow_add, Nat.mul_left_comm x, Nat.mul_assoc]
  rw [h4, ← Nat.add_assoc i j 1, Nat.pow_succ, Nat.mul_assoc]
  rw [Nat.mul_add, Nat.mul_add, Nat.mul_add] at h3
  omega
theorem mul_end {us zs : List Nat} {c i m W : Nat} (hi : i < us.length) (hz : i + m < zs.length) (h : V (zs.take (i + m)) + 10000 ^ (i + m) * c = V (us.take i) * W + 10000 ^ i * (us.getD i 0 * W)) :
    V ((zs.set (i + m) c).take (i + 1 + m)) = V (us.take (i + 1)) * W := by
  rw [Nat.add_right_comm, V_take_succ _ (by simpa using hz), List.take_set_of_le (Nat.le_refl _), List.getD_eq_getElem?_getD, List.getElem?_set_self hz, V_take_succ us hi, Nat.add_mul, Nat.mul_assoc, ← h]
  rfl

end Go.Proofs.Ytfjdfnlkobeehaa.Ref
end

section
set_option maxRecDepth 100000
set_option linter.unusedVariables false
set_option linter.unusedSimpArgs false
namespace Go.Proofs.Ytfjdfnlkobeehaa.Ref

end Go.Proofs.Ytfjdfnlkobeehaa.Ref

namespace Go.Proofs.Ytfjdfnlkobeehaa.Ref

end Go.Proofs.Ytfjdfnlkobeehaa.Ref

namespace Go.Proofs.Ytfjdfnlkobeehaa.Ref

end Go.Proofs.Ytfjdfnlkobeehaa.Ref

namespace Go.Proofs.Ytfjdfnlkobeehaa.Ref


end Go.Proofs.Ytfjdfnlkobeehaa.Ref
end

section
set_option maxRecDepth 100000
set_option linter.unusedVariables false
set_option linter.unusedSimpArgs false
namespace Go.Proofs.Ytfjdfnlkobeehaa.Ref


def NZ (z : Int) : PV := NP (decide (z < 0)) z.natAbs
theorem NZ_def (z : Int) : NZ z = .agg [.val (.bool (decide (z < 0))), .sl (D z.natAbs).length ((D z.natAbs).map I)] := rfl
end Go.Proofs.Ytfjdfnlkobeehaa.Ref
end

section
set_option maxRecDepth 100000
set_option linter.unusedVariables false
set_option linter.unusedSimpArgs false
namespace Go.Proofs.Ytfjdfnlkobeehaa.Ref

theorem limbs_eq (n : Nat) : (bl n + 31) / 32 = (Ytfjdfnlkobeehaa.D n).length := by
  by_cases h : n = 0
  · subst h; rw [bl_zero, Ytfjdfnlkobeehaa.D_zero]; rfl
  · have h1 := bl_top h
    have h2 : bl ((Ytfjdfnlkobeehaa.D n).getD ((Ytfjdfnlkobeehaa.D n).length - 1) 0) ≤ 32 := bl_le.2 (Ytfjdfnlkobeehaa.Lm.get (Ytfjdfnlkobeehaa.Lm_D n) _)
    have h3 := bl_pos' (Ytfjdfnlkobeehaa.D_last n h)
    have h4 := Ytfjdfnlkobeehaa.D_len_pos h
    omega
end Go.Proofs.Ytfjdfnlkobeehaa.Ref

namespace Go.Proofs.Ytfjdfnlkobeehaa.Ref

attribute [go_sem] NZ_def

end Go.Proofs.Ytfjdfnlkobeehaa.Ref
end

section
set_option maxRecDepth 100000
set_option linter.unusedVariables false
set_option linter.unusedSimpArgs false
namespace Go.Proofs.Ytfjdfnlkobeehaa

theorem sz_lenM {m : List (List (Bool × List Nat))} : ∀ n, n ≤ m.length → sz (fun k => lenW (m.getD k [])) n = lenM (m.take n)
  | 0, _ => by simp [sz_zero, lenM]
  | n + 1, h => by
    rw [sz_succ, sz_lenM n (by omega), lenM_take (by omega)]; omega

theorem sized {m : List (List (Bool × List Nat))} {cols B : Nat} (hlm : ∀ l ∈ m, ∀ p ∈ l, Lm p.2) (hc : ∀ l ∈ m, l.length = cols) (hB : lenM m ≤ B) (hn : m.length ≤ 1000000) :
    (∀ c, EZ 4294967296 B m.length cols (echW (m.map vals) c)) ∧ ∀ c k, k < m.length → ∀ x ∈ (echW (m.map vals) c).1.getD k [], Z (B + 1) x := by
  have hE : ∀ c, EZ 4294967296 B m.length cols (echW (m.map vals) c) := by
    have := EZ.all (β := 4294967296) (B := B) (cols := cols) (rows := m.map vals) (κ := fun k => lenW (m.getD k [])) (fun z hz => by
      obtain ⟨l, hl, rfl⟩ := List.mem_map.1 hz
      rw [vals_len]; exact hc l hl) (fun k hk x hx => by
      rw [List.length_map] at hk
      have e : (m.map vals).getD k [] = vals (m.getD k []) := by simp [hk]
      rw [e] at hx
      obtain ⟨p, hp, rfl⟩ := List.mem_map.1 hx
      have h1 := hlm _ (getD_mem (d := []) hk) p hp
      rw [WV_abs]
      exact Nat.le_of_lt (V_lt' h1 (Nat.le_of_lt (lenW_mem hp)))) (by
      rw [List.length_map, sz_lenM _ (Nat.le_refl _), List.take_length]; exact hB)
    rwa [List.length_map] at this
  refine ⟨hE, fun c k hk x hx => ?_⟩
  have := (hE c).short (by omega) (by omega) hk x hx
  exact Nat.lt_of_le_of_lt this (Nat.pow_lt_pow_right (by decide) (by omega))


def wrongM (m : List (List (Bool × List Nat))) (c : Int) : Bool := decide (c < 0 ∨ 32 < c ∨ 64 < m.length ∨ ∃ l ∈ m, (l.length : Int) ≠ c)
theorem wrongM_false {m : List (List (Bool × List Nat))} {c : Int} (h : wrongM m c = false) : ∃ cols : Nat, c = cols ∧ cols ≤ 32 ∧ m.length ≤ 64 ∧ ∀ l ∈ m, l.length = cols := by
  have h := of_decide_eq_false h
  refine ⟨c.toNat, by omega, by omega, by omega, fun l hl => ?_⟩
  have : ¬ (l.length : Int) ≠ c := fun hne => h (.inr (.inr (.inr ⟨l, hl, hne⟩)))
  omega
theorem wrong_calls {m : List (List (Bool × List Nat))} {cn : Int} : PT Try.prog 52 [SM m, .val (.int .i64 cn)] (isV (.val (.bool (wrongM m cn)))) := by
  by_cases h1 : cn < 0
  · rw [show wrongM m cn = true from decide_eq_true (.inl h1)]
    refine PCalls.enter (n := 29) (rs := [.tmp 4]) (tb := []) Try.func52 rfl rfl rfl (by kernel_rfl) (by kernel_rfl) (by simp) fun c hc ht => ?_
    simp -implicitDefEqProofs (disch := omega) only [go_sem, ht]
    (refine end_treeW 0 ?_; simp -implicitDefEqProofs (disch := omega) only [go_sem, ht])
  by_cases h2 : 32 < cn
  · rw [show wrongM m cn = true from decide_eq_true (.inr (.inl h2))]
    refine PCalls.enter (n := 29) (rs := [.tmp 4]) (tb := []) Try.func52 rfl rfl rfl (by kernel_rfl) (by kernel_rfl) (by simp) fun c hc ht => ?_
    simp -implicitDefEqProofs (disch := omega) only [go_sem, ht]
    (refine end_treeW 0 ?_; simp -implicitDefEqProofs (disch := omega) only [go_sem, ht])
  by_cases h3 : 64 < m.length
  · rw [show wrongM m cn = true from decide_eq_true (.inr (.inr (.inl h3)))]
    refine PCalls.enter (n := 29) (rs := [.tmp 4]) (tb := []) Try.func52 rfl rfl rfl (by kernel_rfl) (by kernel_rfl) (by simp) fun c hc ht => ?_
    simp -implicitDefEqProofs (disch := omega) only [go_sem, ht]
    (refine end_treeW 0 ?_; simp -implicitDefEqProofs (disch := omega) only [go_sem, ht])
  refine PCalls.enter (n := 29) (rs := [.tmp 4]) (tb := []) Try.func52 rfl rfl rfl (by kernel_rfl) (by kernel_rfl) (by simp) fun c hc ht => ?_
  simp -implicitDefEqProofs (disch := omega) only [go_sem, ht]
  refine LW.loopW hc ht (by kernel_rfl) (fun t => t.sl 1 = .val (.int .i64 cn) ∧ t.sl 18 = .sl m.length (m.map SW) ∧ t.sl 19 = .val (.int .i64 m.length) ∧ ∃ i : Nat, i ≤ m.length ∧ t.sl 20 = .val (.int .i64 i) ∧ ∀ l ∈ m.take i, (l.length   : Int) = cn)
    (fun t => match t.sl 20 with | .val (.int _ k) => m.length - k.toNat | _ => 0) ?_ ?_
  · simp -implicitDefEqProofs (disch := omega) only [go_sem, ht]
    exact ⟨0, Nat.zero_le _, rfl, by simp⟩
  · rintro t ⟨h1', h18, h19, i, hi, h20, hall⟩
    by_cases hil : i = m.length
    · subst hil
      rw [List.take_length] at hall
      rw [show wrongM m cn = false from decide_eq_false (by
        rintro (h | h | h | ⟨l, hl, hne⟩)
        · exact h1 h
        · exact h2 h
        · exact h3 h
        · exact hne (hall l hl))]
      simp -implicitDefEqProofs (disch := omega) only [go_sem, ht, h1', h18, h19, h20]
      (refine end_treeW 0 ?_; simp -implicitDefEqProofs (disch := omega) only [go_sem, ht])
    · have hlt : i < m.length := by omega
      have hgi := get_SM' hlt
      have hmem := getD_mem (d := []) hlt
      have hst := getD_take (d := []) hlt
      by_cases he : ((m.getD i []).length   : Int) = cn
      · generalize m.getD i [] = l0 at *
        simp -implicitDefEqProofs (disch := omega) only [go_sem, ht, h1', h18, h19, h20, hgi, he]
        refine ⟨⟨i + 1, by omega, rfl, fun l hl => ?_⟩, by omega⟩
        rw [hst] at hl
        rcases List.mem_append.1 hl with hl | hl
        · exact hall l hl
        · have : l = l0 := by simpa using hl
          rw [this]; exact he
      · rw [show wrongM m cn = true from decide_eq_true (.inr (.inr (.inr ⟨_, hmem, he⟩)))]
        generalize m.getD i [] = l0 at *
        simp -implicitDefEqProofs (disch := omega) only [go_sem, ht, h1', h18, h19, h20, hgi, he]
        (refine end_treeW 0 ?_; simp -implicitDefEqProofs (disch := omega) only [go_sem, ht])

def longZ (W : List (List Int)) : Bool := decide (∃ z ∈ W, ∃ x ∈ z, 32 < (D x.natAbs).length)
theorem elong_calls {W : List (List Int)} {k cols : Nat} (h : ∀ z ∈ W, z.length = cols ∧ ∀ x ∈ z, Z k x) (hk : k ≤ 1000000) (hn : W.length ≤ 1000000) (hcols : cols ≤ 1000000) : PT Try.prog 93 [SM (W.map CZ)] (isV (.val (.bool (longZ W)))) := by
  refine PCalls.enter (n := 24) (rs := [.tmp 2]) (tb := []) Try.func93 rfl rfl rfl (by kernel_rfl) (by kernel_rfl) (by simp) fun c hc ht => ?_
  simp -implicitDefEqProofs (disch := omega) only [go_sem, ht]
  refine LW.loopW hc ht (by kernel_rfl) (fun t => t.sl 7 = .sl W.length ((W.map CZ).map SW) ∧ t.sl 8 = .val (.int .i64 W.length) ∧ ∃ i : Nat, i ≤ W.length ∧ t.sl 9 = .val (.int .i64 i) ∧ ∀ z ∈ W.take i, ∀ x ∈ z, (D x.natAbs).length ≤ 32)
    (fun t => match t.sl 9 with | .val (.int _ k) => W.length - k.toNat | _ => 0) ?_ ?_
  · have hml : (W.map CZ).length = W.length := by simp
    simp -implicitDefEqProofs (disch := omega) only [go_sem, ht, hml]
    exact ⟨0, Nat.zero_le _, rfl, by simp⟩
  · rintro t ⟨h7, h8, i, hi, h9, hall⟩
    by_cases hil : i = W.length
    · subst hil
      rw [List.take_length] at hall
      rw [show longZ W = false from decide_eq_false (by
        rintro ⟨z, hz, x, hx, hlt⟩
        have := hall z hz x hx
        omega)]
      simp -implicitDefEqProofs (disch := omega) only [go_sem, ht, h7, h8, h9]
      (refine end_treeW 0 ?_; simp -implicitDefEqProofs (disch := omega) only [go_sem, ht])
    · have hlt : i < W.length := by omega
      have hgi := get_SM' (m := W.map CZ) (i := i) (by simpa using hlt)
      rw [getD_CZ hlt] at hgi
      have hmem := getD_mem (d := []) hlt
      have hst := getD_take (d := []) hlt
      obtain ⟨hzl, hzz⟩ := h _ hmem
      have hczl := CZ_len (W.getD i [])
      have hlg : ∀ j, j < (W.getD i []).length → 32 < (D (vc (W.getD i []) j).natAbs).length → longZ W = true := fun j hj h32 => decide_eq_true ⟨_, hmem, _, List.getElem_mem hj, by rwa [vc_lt hj] at h32⟩
      generalize W.getD i [] = z at *
      simp -implicitDefEqProofs (disch := omega) only [go_sem, ht, h7, h8, h9, hgi, hczl]
      refine LW.loopW hc ht (by kernel_rfl) (fun s => s.sl 7 = .sl W.length ((W.map CZ).map SW) ∧ s.sl 8 = .val (.int .i64 W.length) ∧ s.sl 9 = .val (.int .i64 i) ∧ s.sl 13 = .sl z.length (SWc (CZ z)) ∧ s.sl 14 = .val (.int .i64 z.length) ∧ ∃ j : Nat, j ≤ z.length ∧ s.sl 15 = .val (.int .i64 j) ∧ ∀ x ∈ z.take j, (D x.natAbs).length ≤ 32)
        (fun s => match s.sl 15 with | .val (.int _ k) => z.length - k.toNat | _ => 0) ?_ ?_
      · simp -implicitDefEqProofs (disch := omega) only [go_sem, ht, h7, h8, h9]
        exact ⟨0, Nat.zero_le _, rfl, by simp⟩
      · clear h7 h8 h9
        rintro s ⟨h7, h8, h9, h13, h14, j, hj, h15, hal⟩
        by_cases hjl : j = z.length
        · subst hjl
          rw [List.take_length] at hal
          simp -implicitDefEqProofs (disch := omega) only [go_sem, ht, h7, h8, h9, h13, h14, h15]
          refine ⟨⟨i + 1, by omega, rfl, fun y hy => ?_⟩, by omega⟩
          rw [hst] at hy
          rcases List.mem_append.1 hy with hy | hy
          · exact hall y hy
          · have : y = z := by simpa using hy
            rw [this]; exact hal
        · have hjt : j < z.length := by omega
          have hat := CZ_at hjt
          have hzx : Z k (vc z j) := by rw [vc_lt hjt]; exact hzz _ (List.getElem_mem _)
          have hlm := limbsW (Wn.C hzx hk)
          rw [Ref.limbs_eq] at hlm
          have hln := hzx.len
          have hlgj := hlg j hjt
          by_cases h32 : 32 < (D (vc z j).natAbs).length
          · rw [hlgj h32]
            generalize (D (vc z j).natAbs).length = n at *
            simp -implicitDefEqProofs (disch := omega) only [go_sem, ht, h7, h8, h9, h13, h14, h15, hat]
            (refine pCall_vw (by refine ⟨⟨?_, ?_⟩, ?_, ?_⟩; rotate_left 2; (first | (right; rintro r rfl; rfl) | left); all_goals ((try simp -implicitDefEqProofs (disch := omega) only [h7, h8, h9, h13, h14, h15, hat, go_sem, ht]) <;> rfl)) (hlm) ?_; rintro _ nx - rfl hnx; simp -implicitDefEqProofs (disch := omega) only [h7, h8, h9, h13, h14, h15, hat, go_sem, ht])
            (refine end_treeW 0 ?_; simp -implicitDefEqProofs (disch := omega) only [go_sem, ht])
          · have hle : ∀ x ∈ z.take (j + 1), (D x.natAbs).length ≤ 32 := fun x hx => by
              rw [List.take_succ_eq_append_getElem hjt] at hx
              rcases List.mem_append.1 hx with hx | hx
              · exact hal x hx
              · have : x = z[j] := by simpa using hx
                rw [this, ← vc_lt hjt]; omega
            simp -implicitDefEqProofs (disch := omega) only [go_sem, ht, h7, h8, h9, h13, h14, h15, hat]
            (refine pCall_vw (by refine ⟨⟨?_, ?_⟩, ?_, ?_⟩; rotate_left 2; (first | (right; rintro r rfl; rfl) | left); all_goals ((try simp -implicitDefEqProofs (disch := omega) only [h7, h8, h9, h13, h14, h15, hat, go_sem, ht]) <;> rfl)) (hlm) ?_; rintro _ nx - rfl hnx; simp -implicitDefEqProofs (disch := omega) only [h7, h8, h9, h13, h14, h15, hat, go_sem, ht])
            exact ⟨⟨j + 1, by omega, rfl, hle⟩, by omega⟩
theorem told_calls {W : List (List Int)} {k cols : Nat} (h : ∀ z ∈ W, z.length = cols ∧ ∀ x ∈ z, Z k x) (hk : k ≤ 1000000) (hn : W.length ≤ 1000000) (hcols : cols ≤ 1000000) :
    PT Try.prog 54 [SM (W.map CZ)] (isV (.tup [SM ((if longZ W then [] else W).map CZ), .val (.int .i64 (if longZ W then 2 else 0))])) := by
  have hl := elong_calls h hk hn hcols
  have hfl := SM_flat (W.map CZ)
  by_cases hb : longZ W = true
  · rw [hb] at hl
    rw [if_pos hb, if_pos hb]
    refine PCalls.enter (n := 7) (rs := [.tmp 2, .tmp 3]) (tb := []) Try.func54 rfl rfl rfl (by kernel_rfl) (by kernel_rfl) (by simp) fun c hc ht => ?_
    simp -implicitDefEqProofs (disch := omega) only [go_sem, ht]
    (refine pCall_vw (by refine ⟨⟨?_, ?_⟩, ?_, ?_⟩; rotate_left 2; (first | (right; rintro r rfl; rfl) | left); all_goals ((try simp -implicitDefEqProofs (disch := omega) only [go_sem, ht]) <;> rfl)) (hl) ?_; rintro _ nx - rfl hnx; simp -implicitDefEqProofs (disch := omega) only [go_sem, ht])
    (refine end_treeM 2 ?_; simp -implicitDefEqProofs (disch := omega) only [go_sem, ht, List.map_nil])
  · rw [show longZ W = false by simpa using hb] at hl
    rw [if_neg hb, if_neg hb]
    refine PCalls.enter (n := 7) (rs := [.tmp 2, .tmp 3]) (tb := []) Try.func54 rfl rfl rfl (by kernel_rfl) (by kernel_rfl) (by simp) fun c hc ht => ?_
    simp -implicitDefEqProofs (disch := omega) only [go_sem, ht]
    (refine pCall_vw (by refine ⟨⟨?_, ?_⟩, ?_, ?_⟩; rotate_left 2; (first | (right; rintro r rfl; rfl) | left); all_goals ((try simp -implicitDefEqProofs (disch := omega) only [go_sem, ht]) <;> rfl)) (hl) ?_; rintro _ nx - rfl hnx; simp -implicitDefEqProofs (disch := omega) only [go_sem, ht])
    (refine end_treeM 2 ?_; simp -implicitDefEqProofs (disch := omega) only [go_sem, ht, hfl])


structure RR (T : List (List Int)) (Pv : List Nat) (cols k : Nat) : Prop where
  len : T.length = Pv.length
  row : ∀ i, i < T.length → (T.getD i []).length = cols ∧ ∀ x ∈ T.getD i [], Z k x
  col : ∀ c ∈ Pv, c < cols
  inc : ∀ i j (hi : i < Pv.length) (hj : j < Pv.length), i < j → Pv[i] < Pv[j]
  piv : ∀ i j (hj : j < Pv.length), i < Pv.length → (vc (T.getD i []) Pv[j] ≠ 0 ↔ j = i)
  prm : ∀ i, i < T.length → Prm (T.getD i [])
  hk : k ≤ 1000000
theorem echW_inc (rows : List (List Int)) : ∀ c, (∀ p ∈ (echW rows c).2, p < c) ∧ ∀ i j (hi : i < (echW rows c).2.length) (hj : j < (echW rows c).2.length), i < j → (echW rows c).2[i] < (echW rows c).2[j]
  | 0 => ⟨fun p hp => by simp [echW] at hp, fun i j hi => by simp [echW] at hi⟩
  | c + 1 => by
    obtain ⟨h1, h2⟩ := echW_inc rows c
    have e : (echW rows (c + 1)).2 = (echW rows c).2 ∨ (echW rows (c + 1)).2 = (echW rows c).2 ++ [c] := by
      simp only [echW, stepE]
      split
      · exact .inr rfl
      · exact .inl rfl
    generalize (echW rows (c + 1)).2 = l at *
    generalize (echW rows c).2 = l0 at *
    rcases e with rfl | rfl
    · exact ⟨fun p hp => by have := h1 p hp; omega, h2⟩
    · refine ⟨fun p hp => ?_, fun i j hi hj hij => ?_⟩
      · rcases List.mem_append.1 hp with hp | hp
        · have := h1 p hp; omega
        · have : p = c := by simpa using hp
          omega
      · rw [List.length_append, List.length_singleton] at hi hj
        by_cases hjl : j < l0.length
        · rw [List.getElem_append_left (by omega), List.getElem_append_left hjl]
          exact h2 i j (by omega) hjl hij
        · rw [List.getElem_append_left (by omega), List.getElem_append_right (by omega)]
          simpa using h1 _ (List.getElem_mem (by omega))
theorem neg_vc (z : List Int) (j : Nat) : vc (z.map (- ·)) j = -vc z j := by
  by_cases h : j < z.length
  · rw [vc_lt (by simpa using h), vc_lt h]; simp
  · rw [vc_ge (by simp; omega), vc_ge (by omega)]; rfl
theorem upZ_cases (z : List Int) : upZ z = z ∨ upZ z = z.map (- ·) := by unfold upZ; split; exact .inr rfl; exact .inl rfl
theorem gcdL_neg (z : List Int) : gcdL (z.map (- ·)) = gcdL z := by
  apply Nat.dvd_antisymm
  · exact dvd_gcdL.2 fun x hx => by
      have := gcdL_dvd (z := z.map (- ·)) (List.mem_map.2 ⟨x, hx, rfl⟩)
      simpa using this
  · exact dvd_gcdL.2 fun x hx => by
      obtain ⟨y, hy, rfl⟩ := List.mem_map.1 hx
      have := gcdL_dvd hy
      simpa using this
theorem Prm.neg {z : List Int} (h : Prm z) : Prm (z.map (- ·)) := by
  rcases h with h | h
  · exact .inl (by rw [gcdL_neg]; exact h)
  · exact .inr fun x hx => by
      obtain ⟨y, hy, rfl⟩ := List.mem_map.1 hx
      rw [h y hy]; rfl
theorem Prm.up {z : List Int} (h : Prm z) : Prm (upZ z) := by
  rcases upZ_cases z with e | e
  · rw [e]; exact h
  · rw [e]; exact h.neg
theorem echT_get {rz : List (List Int)} {cols i : Nat} (h : i < (echW rz cols).2.length) (hl : (echW rz cols).2.length ≤ (echW rz cols).1.length) : (echT rz cols).getD i [] = upZ ((echW rz cols).1.getD i []) := by
  unfold echT
  simp only [List.getD_eq_getElem?_getD, List.getElem?_map, List.getElem?_take]
  rw [if_pos h, List.getElem?_eq_getElem (by omega)]; rfl

theorem echT_RR {m : List (List (Bool × List Nat))} {cols B : Nat} (hE : EZ 4294967296 B m.length cols (echW (m.map vals) cols)) (hs : ∀ k, k < m.length → ∀ x ∈ (echW (m.map vals) cols).1.getD k [], Z (B + 1) x) (hB : B + 1 ≤ 1000000) : RR (echT (m.map vals) cols) (echW (m.map vals) cols).2 cols (B + 1) := by
  obtain ⟨O, κ, hI, _⟩ := hE.st
  have htle := hI.tle
  have hlen := hE.len
  have hTl : (echT (m.map vals) cols).length = (echW (m.map vals) cols).2.length := by unfold echT; simp; omega
  have hget : ∀ i, i < (echW (m.map vals) cols).2.length → (echT (m.map vals) cols).getD i [] = upZ ((echW (m.map vals) cols).1.getD i []) := fun i hi => echT_get hi (by omega)
  refine ⟨hTl, fun i hi => ?_, (echW_inc _ cols).1, (echW_inc _ cols).2, fun i j hj hi => ?_, fun i hi => ?_, hB⟩
  · rw [hget i (by omega)]
    obtain ⟨h1, h2⟩ := hE.row i (by omega)
    refine ⟨by rw [upZ_len]; exact h1, fun x hx => ?_⟩
    have hz := hs i (by omega)
    rcases upZ_cases ((echW (m.map vals) cols).1.getD i []) with e | e
    · rw [e] at hx; exact hz x hx
    · rw [e] at hx
      obtain ⟨y, hy, rfl⟩ := List.mem_map.1 hx
      exact (hz y hy).neg
  · rw [hget i hi]
    obtain ⟨_, h2, h3⟩ := hI.piv i hi
    have e : vc (upZ ((echW (m.map vals) cols).1.getD i [])) (echW (m.map vals) cols).2[j] ≠ 0 ↔ vc ((echW (m.map vals) cols).1.getD i []) (echW (m.map vals) cols).2[j] ≠ 0 := by
      rcases upZ_cases ((echW (m.map vals) cols).1.getD i []) with e | e
      · rw [e]
      · rw [e, neg_vc]; omega
    rw [e]
    constructor
    · intro h
      exact Classical.byContradiction fun hne => h (h2 j hj hne)
    · rintro rfl
      exact h3
  · rw [hget i (by omega)]
    exact (hE.row i (by omega)).2.up


structure Mx (m : List (List (Bool × List Nat))) (B : Nat) : Prop where
  lm : ∀ l ∈ m, ∀ p ∈ l, Lm p.2
  len : lenM m ≤ B
  hB : 2 * (B + 1) + 1 ≤ 1000000
theorem Mx.n {m : List (List (Bool × List Nat))} {B : Nat} (h : Mx m B) : m.length ≤ 1000000 := by have := lenM_len m; have := h.len; have := h.hB; omega
theorem Mx.rn {m : List (List (Bool × List Nat))} {B : Nat} (h : Mx m B) {l : List (Bool × List Nat)} (hl : l ∈ m) : Rn l B := by
  have h1 := lenM_mem hl
  have h2 := h.len
  have h3 := h.hB
  exact ⟨fun p hp => ⟨h.lm l hl p hp, by have := lenW_mem hp; omega⟩, by omega⟩
section
variable {m : List (List (Bool × List Nat))} {cols B : Nat}
theorem Mx.ez (h : Mx m B) (hc : ∀ l ∈ m, l.length = cols) : (∀ c, EZ 4294967296 B m.length cols (echW (m.map vals) c)) ∧ ∀ c k, k < m.length → ∀ x ∈ (echW (m.map vals) c).1.getD k [], Z (B + 1) x := sized h.lm hc h.len h.n
theorem Mx.rr (h : Mx m B) (hc : ∀ l ∈ m, l.length = cols) : RR (echT (m.map vals) cols) (echW (m.map vals) cols).2 cols (B + 1) := by
  obtain ⟨h1, h2⟩ := h.ez hc
  exact echT_RR (h1 cols) (h2 cols) (by have := h.hB; omega)
theorem Mx.ech (h : Mx m B) (hc : ∀ l ∈ m, l.length = cols) (hcols : cols ≤ 1000) (hn : m.length ≤ 10000) :
    PT Try.prog 53 [SM m, .val (.int .i64 cols)] (isV (.tup [SM ((echT (m.map vals) cols).map CZ), .sl (echW (m.map vals) cols).2.length ((echW (m.map vals) cols).2.map Ref.I)])) := by
  obtain ⟨h1, h2⟩ := h.ez hc
  exact echelon_calls (fun l hl => ⟨h.rn hl, hc l hl⟩) hcols hn h1 h2 h.hB
theorem mem_getD {α : Type} {W : List α} {z d : α} (h : z ∈ W) : ∃ i, i < W.length ∧ W.getD i d = z := by
  obtain ⟨i, hi, rfl⟩ := List.mem_iff_getElem.1 h
  exact ⟨i, hi, by simp [hi]⟩

def mEch (m : List (List (Bool × List Nat))) (c : Int) : List (List Int) × Int :=
  if wrongM m c then ([], 1) else if longZ (echT (m.map vals) c.toNat) then ([], 2) else (echT (m.map vals) c.toNat, 0)
def mRank (m : List (List (Bool × List Nat))) (c : Int) : Int × Int := if wrongM m c then (0, 1) else ((echW (m.map vals) c.toNat).2.length, 0)
theorem mech_calls (h : Mx m B) {cn : Int} : PT Try.prog 17 [SM m, .val (.int .i64 cn)] (isV (.tup [SM ((mEch m cn).1.map CZ), .val (.int .i64 (mEch m cn).2)])) := by
  have hw := wrong_calls (m := m) (cn := cn)
  unfold mEch
  by_cases hb : wrongM m cn = true
  · rw [hb] at hw
    rw [if_pos hb]
    refine PCalls.enter (n := 21) (rs := [.tmp 4, .tmp 5]) (tb := []) Try.func17 rfl rfl rfl (by kernel_rfl) (by kernel_rfl) (by simp) fun c hc ht => ?_
    simp -implicitDefEqProofs (disch := omega) only [go_sem, ht]
    (refine pCall_vw (by refine ⟨⟨?_, ?_⟩, ?_, ?_⟩; rotate_left 2; (first | (right; rintro r rfl; rfl) | left); all_goals ((try simp -implicitDefEqProofs (disch := omega) only [go_sem, ht]) <;> rfl)) (hw) ?_; rintro _ nx - rfl hnx; simp -implicitDefEqProofs (disch := omega) only [go_sem, ht])
    (refine end_treeM 2 ?_; simp -implicitDefEqProofs (disch := omega) only [go_sem, ht, List.map_nil])
  · rw [if_neg hb]
    have hb' : wrongM m cn = false := by simpa using hb
    obtain ⟨n, rfl, hn, hml, hlc⟩ := wrongM_false hb'
    rw [hb'] at hw
    have he := h.ech hlc (by omega) (by omega)
    have hr := h.rr hlc
    have ht' := told_calls (W := echT (m.map vals) n) (k := B + 1) (cols := n) (fun z hz => by
      obtain ⟨i, hi, rfl⟩ := mem_getD (d := []) hz
      exact hr.row i hi) hr.hk (by have := hr.len; have := (h.ez hlc).1 n; obtain ⟨O, κ, hI, _⟩ := this.st; have := hI.tle; omega) (by omega)
    rw [Int.toNat_natCast]
    have e : (if longZ (echT (m.map vals) n) = true then (([], 2) : List (List Int) × Int) else (echT (m.map vals) n, 0)) = (if longZ (echT (m.map vals) n) = true then [] else echT (m.map vals) n, if longZ (echT (m.map vals) n) = true then 2 else 0) := by split <;> rfl
    rw [e]
    have hfl := SM_flat ((if longZ (echT (m.map vals) n) = true then [] else echT (m.map vals) n).map CZ)
    generalize (if longZ (echT (m.map vals) n) = true then [] else echT (m.map vals) n).map CZ = m2 at *
    generalize (if longZ (echT (m.map vals) n) = true then (2 : Int) else 0) = er at *
    generalize (echT (m.map vals) n).map CZ = m1 at *
    generalize (echW (m.map vals) n).2 = Pv at *
    refine PCalls.enter (n := 21) (rs := [.tmp 4, .tmp 5]) (tb := []) Try.func17 rfl rfl rfl (by kernel_rfl) (by kernel_rfl) (by simp) fun c hc ht => ?_
    simp -implicitDefEqProofs (disch := omega) only [go_sem, ht]
    ((refine pCall_vw (by refine ⟨⟨?_, ?_⟩, ?_, ?_⟩; rotate_left 2; (first | (right; rintro r rfl; rfl) | left); all_goals ((try simp -implicitDefEqProofs (disch := omega) only [go_sem, ht]) <;> rfl)) (hw) ?_; rintro _ nx_1 - rfl hnx_1; simp -implicitDefEqProofs (disch := omega) only [go_sem, ht]); (refine pCall_vw (by refine ⟨⟨?_, ?_⟩, ?_, ?_⟩; rotate_left 2; (first | (right; rintro r rfl; rfl) | left); all_goals ((try simp -implicitDefEqProofs (disch := omega) only [go_sem, ht]) <;> rfl)) (he) ?_; rintro _ nx_2 - rfl hnx_2; simp -implicitDefEqProofs (disch := omega) only [go_sem, ht]); (refine pCall_vw (by refine ⟨⟨?_, ?_⟩, ?_, ?_⟩; rotate_left 2; (first | (right; rintro r rfl; rfl) | left); all_goals ((try simp -implicitDefEqProofs (disch := omega) only [go_sem, ht]) <;> rfl)) (ht') ?_; rintro _ nx_3 - rfl hnx_3; simp -implicitDefEqProofs (disch := omega) only [go_sem, ht]))
    (refine end_treeM 2 ?_; simp -implicitDefEqProofs (disch := omega) only [go_sem, ht, hfl])
theorem mrank_calls (h : Mx m B) {cn : Int} : PT Try.prog 22 [SM m, .val (.int .i64 cn)] (isV (.tup [.val (.int .i64 (mRank m cn).1), .val (.int .i64 (mRank m cn).2)])) := by
  have hw := wrong_calls (m := m) (cn := cn)
  unfold mRank
  by_cases hb : wrongM m cn = true
  · rw [hb] at hw
    rw [if_pos hb]
    refine PCalls.enter (n := 19) (rs := [.tmp 4, .tmp 5]) (tb := []) Try.func22 rfl rfl rfl (by kernel_rfl) (by kernel_rfl) (by simp) fun c hc ht => ?_
    simp -implicitDefEqProofs (disch := omega) only [go_sem, ht]
    (refine pCall_vw (by refine ⟨⟨?_, ?_⟩, ?_, ?_⟩; rotate_left 2; (first | (right; rintro r rfl; rfl) | left); all_goals ((try simp -implicitDefEqProofs (disch := omega) only [go_sem, ht]) <;> rfl)) (hw) ?_; rintro _ nx - rfl hnx; simp -implicitDefEqProofs (disch := omega) only [go_sem, ht])
    (refine end_treeW 0 ?_; simp -implicitDefEqProofs (disch := omega) only [go_sem, ht])
  · rw [if_neg hb]
    have hb' : wrongM m cn = false := by simpa using hb
    obtain ⟨n, rfl, hn, hml, hlc⟩ := wrongM_false hb'
    rw [hb'] at hw
    have he := h.ech hlc (by omega) (by omega)
    rw [Int.toNat_natCast]
    generalize (echT (m.map vals) n).map CZ = m1 at *
    generalize (echW (m.map vals) n).2 = Pv at *
    refine PCalls.enter (n := 19) (rs := [.tmp 4, .tmp 5]) (tb := []) Try.func22 rfl rfl rfl (by kernel_rfl) (by kernel_rfl) (by simp) fun c hc ht => ?_
    simp -implicitDefEqProofs (disch := omega) only [go_sem, ht]
    ((refine pCall_vw (by refine ⟨⟨?_, ?_⟩, ?_, ?_⟩; rotate_left 2; (first | (right; rintro r rfl; rfl) | left); all_goals ((try simp -implicitDefEqProofs (disch := omega) only [go_sem, ht]) <;> rfl)) (hw) ?_; rintro _ nx_4 - rfl hnx_4; simp -implicitDefEqProofs (disch := omega) only [go_sem, ht]); (refine pCall_vw (by refine ⟨⟨?_, ?_⟩, ?_, ?_⟩; rotate_left 2; (first | (right; rintro r rfl; rfl) | left); all_goals ((try simp -implicitDefEqProofs (disch := omega) only [go_sem, ht]) <;> rfl)) (he) ?_; rintro _ nx_5 - rfl hnx_5; simp -implicitDefEqProofs (disch := omega) only [go_sem, ht]))
    (refine end_treeW 0 ?_; simp -implicitDefEqProofs (disch := omega) only [go_sem, ht])
end
end Go.Proofs.Ytfjdfnlkobeehaa
end

section
set_option maxRecDepth 100000
set_option linter.unusedVariables false
set_option linter.unusedSimpArgs false
namespace Go.Proofs.Ytfjdfnlkobeehaa

theorem awake_ech : echT [[2, 4, 2], [1, 2, 3]] 3 = [[1, 2, 0], [0, 0, 1]] := by decide +kernel
theorem D_small {n : Nat} (h : n < 4294967296) : (D n).length ≤ 1 := by
  by_cases h0 : n = 0
  · subst h0; rw [D_zero]; simp
  · rw [D_one (by omega) h]; simp
theorem CZ_lm (zs : List Int) : ∀ p ∈ CZ zs, Lm p.2 := fun p hp => by
  obtain ⟨z, hz, rfl⟩ := List.mem_map.1 hp
  exact Lm_D _
theorem CZ_ok {zs : List Int} {k : Nat} (h : ∀ z ∈ zs, Z k z) (hk : k ≤ 1099511627776) : ∀ p ∈ CZ zs, Ok p.2 := fun p hp => by
  obtain ⟨z, hz, rfl⟩ := List.mem_map.1 hp
  exact (h z hz).ok hk
theorem lenW_CZ {zs : List Int} {k : Nat} (h : ∀ z ∈ zs, Z k z) : lenW (CZ zs) ≤ zs.length * (k + 1) := by
  induction zs with
  | nil => simp [CZ, lenW]
  | cons z zs ih =>
    have h1 := (h z (List.mem_cons_self ..)).len
    have h2 := ih fun x hx => h x (List.mem_cons_of_mem _ hx)
    have e : CZ (z :: zs) = toC z :: CZ zs := rfl
    rw [e]
    simp only [lenW, toC, List.length_cons, Nat.succ_mul]
    omega
theorem lenM_CZ {W : List (List Int)} {k cols : Nat} (h : ∀ z ∈ W, z.length ≤ cols ∧ ∀ x ∈ z, Z k x) : lenM (W.map CZ) ≤ W.length * (1 + cols * (k + 1)) := by
  unfold lenM
  induction W with
  | nil => simp
  | cons z W ih =>
    obtain ⟨h1, h2⟩ := h z (List.mem_cons_self ..)
    have h3 := ih fun x hx => h x (List.mem_cons_of_mem _ hx)
    have h4 := lenW_CZ h2
    have h5 : z.length * (k + 1) ≤ cols * (k + 1) := Nat.mul_le_mul_right _ h1
    simp only [List.map_cons, List.sum_cons, List.length_cons, Nat.succ_mul]
    omega
theorem Mx.C {W : List (List Int)} {k cols B : Nat} (h : ∀ z ∈ W, z.length ≤ cols ∧ ∀ x ∈ z, Z k x) (hB : W.length * (1 + cols * (k + 1)) ≤ B) (h2 : 2 * (B + 1) + 1 ≤ 1000000) : Mx (W.map CZ) B :=
  ⟨fun l hl p hp => by obtain ⟨z, hz, rfl⟩ := List.mem_map.1 hl; exact CZ_lm z p hp, Nat.le_trans (lenM_CZ h) hB, h2⟩
theorem awake_matrix : PT Try.prog 11 [] (isV (.val (.bool true))) := by
  have hz : ∀ (zs : List Int), (∀ z ∈ zs, 0 ≤ z ∧ z ≤ 4) → ∀ z ∈ zs, -9223372036854775808 ≤ z ∧ z ≤ 9223372036854775807 := fun zs h z hz => by have := h z hz; omega
  have hZ : ∀ (zs : List Int), (∀ z ∈ zs, 0 ≤ z ∧ z ≤ 4) → ∀ z ∈ zs, Z 1 z := fun zs h z hz => Z2 (by have := h z hz; omega)
  have a1 : ∀ z ∈ [2, 4, 2], (0 : Int) ≤ z ∧ z ≤ 4 := by decide
  have a2 : ∀ z ∈ [1, 2, 3], (0 : Int) ≤ z ∧ z ≤ 4 := by decide
  have a3 : ∀ z ∈ [1, 2, 0], (0 : Int) ≤ z ∧ z ≤ 4 := by decide
  have a4 : ∀ z ∈ [0, 0, 1], (0 : Int) ≤ z ∧ z ≤ 4 := by decide
  have r1 := row_calls (zs := [2, 4, 2]) (hz _ a1) (by simp)
  have r2 := row_calls (zs := [1, 2, 3]) (hz _ a2) (by simp)
  have r3 := row_calls (zs := [1, 2, 0]) (hz _ a3) (by simp)
  have r4 := row_calls (zs := [0, 0, 1]) (hz _ a4) (by simp)
  have hm : Mx ([[2, 4, 2], [1, 2, 3]].map CZ) 100 := .C (k := 1) (cols := 3) (fun z hz => by
    rcases List.mem_cons.1 hz with rfl | hz
    · exact ⟨by simp, hZ _ a1⟩
    · have : z = [1, 2, 3] := by simpa using hz
      subst this; exact ⟨by simp, hZ _ a2⟩) (by simp) (by omega)
  have he := mech_calls hm (cn := 3)
  have hv : ([[2, 4, 2], [1, 2, 3]].map CZ).map vals = [[2, 4, 2], [1, 2, 3]] := by simp [vals_CZ]
  have hw : wrongM ([[2, 4, 2], [1, 2, 3]].map CZ) 3 = false := decide_eq_false (by simp [CZ_len])
  have hlg : longZ [[1, 2, 0], [0, 0, 1]] = false := decide_eq_false (by
    rintro ⟨z, hzm, x, hx, hlt⟩
    have : x.natAbs < 4294967296 := by
      rcases List.mem_cons.1 hzm with rfl | hzm
      · have := a3 x hx; omega
      · have : z = [0, 0, 1] := by simpa using hzm
        subst this; have := a4 x hx; omega
    have := D_small this
    omega)
  have e : mEch ([[2, 4, 2], [1, 2, 3]].map CZ) 3 = ([[1, 2, 0], [0, 0, 1]], 0) := by
    unfold mEch
    rw [hw, if_neg (by simp), hv, show (3 : Int).toNat = 3 from rfl, awake_ech, hlg, if_neg (by simp)]
  rw [e] at he
  have hs := same_rows (m := [[1, 2, 0], [0, 0, 1]].map CZ) (m' := [[1, 2, 0], [0, 0, 1]].map CZ) (fun l hl => by
    rcases List.mem_cons.1 hl with rfl | hl
    · exact ⟨CZ_ok (hZ _ a3) (by omega), by simp [CZ_len]⟩
    · have : l = CZ [0, 0, 1] := by simpa using hl
      subst this; exact ⟨CZ_ok (hZ _ a4) (by omega), by simp [CZ_len]⟩) (fun l hl => by
    rcases List.mem_cons.1 hl with rfl | hl
    · exact CZ_ok (hZ _ a3) (by omega)
    · have : l = CZ [0, 0, 1] := by simpa using hl
      subst this; exact CZ_ok (hZ _ a4) (by omega)) (by simp)
  rw [decide_eq_true rfl] at hs
  have l1 := CZ_len [2, 4, 2]
  have l2 := CZ_len [1, 2, 3]
  have l3 := CZ_len [1, 2, 0]
  have l4 := CZ_len [0, 0, 1]
  simp only [List.map_cons, List.map_nil, vi_def, List.length_cons, List.length_nil, SM_def] at r1 r2 r3 r4 he hs l1 l2 l3 l4
  refine PCalls.enter (n := 23) (rs := [.tmp 0]) (tb := []) Try.func11 rfl rfl rfl (by kernel_rfl) (by kernel_rfl) (by simp) fun c hc ht => ?_
  simp -implicitDefEqProofs (disch := omega) only [go_sem, ht]
  (refine pCall_frz (fun _ => true) 1 (by simp -implicitDefEqProofs (disch := omega) only [go_sem, ht] <;> rfl) (by simp -implicitDefEqProofs (disch := omega) only [go_sem, ht]) (by simp -implicitDefEqProofs (disch := omega) only [go_sem, ht] <;> rfl) (by simp -implicitDefEqProofs (disch := omega) only [go_sem, ht]) (r1) ?_; rintro _ nx - rfl hnx; (try simp only [put_nx, withH_nx, begP_nx] at hnx); simp -implicitDefEqProofs (disch := omega) only [go_sem, ht])
  (refine pCall_frz (fun _ => true) 1 (by simp -implicitDefEqProofs (disch := omega) only [go_sem, ht] <;> rfl) (by simp -implicitDefEqProofs (disch := omega) only [go_sem, ht]) (by simp -implicitDefEqProofs (disch := omega) only [go_sem, ht] <;> rfl) (by simp -implicitDefEqProofs (disch := omega) only [go_sem, ht]) (r2) ?_; rintro _ nx - rfl hnx; (try simp only [put_nx, withH_nx, begP_nx] at hnx); simp -implicitDefEqProofs (disch := omega) only [go_sem, ht])
  (refine pCall_frz (fun _ => true) 1 (by simp -implicitDefEqProofs (disch := omega) only [go_sem, ht] <;> rfl) (by simp -implicitDefEqProofs (disch := omega) only [go_sem, ht]) (by simp -implicitDefEqProofs (disch := omega) only [go_sem, ht] <;> rfl) (by simp -implicitDefEqProofs (disch := omega) only [go_sem, ht]) (he) ?_; rintro _ nx - rfl hnx; (try simp only [put_nx, withH_nx, begP_nx] at hnx); simp -implicitDefEqProofs (disch := omega) only [go_sem, ht])
  (refine pCall_frz (fun _ => true) 1 (by simp -implicitDefEqProofs (disch := omega) only [go_sem, ht] <;> rfl) (by simp -implicitDefEqProofs (disch := omega) only [go_sem, ht]) (by simp -implicitDefEqProofs (disch := omega) only [go_sem, ht] <;> rfl) (by simp -implicitDefEqProofs (disch := omega) only [go_sem, ht]) (r3) ?_; rintro _ nx - rfl hnx; (try simp only [put_nx, withH_nx, begP_nx] at hnx); simp -implicitDefEqProofs (disch := omega) only [go_sem, ht])
  (refine pCall_frz (fun _ => true) 1 (by simp -implicitDefEqProofs (disch := omega) only [go_sem, ht] <;> rfl) (by simp -implicitDefEqProofs (disch := omega) only [go_sem, ht]) (by simp -implicitDefEqProofs (disch := omega) only [go_sem, ht] <;> rfl) (by simp -implicitDefEqProofs (disch := omega) only [go_sem, ht]) (r4) ?_; rintro _ nx - rfl hnx; (try simp only [put_nx, withH_nx, begP_nx] at hnx); simp -implicitDefEqProofs (disch := omega) only [go_sem, ht])
  (refine pCall_frz (fun _ => true) 1 (by simp -implicitDefEqProofs (disch := omega) only [go_sem, ht] <;> rfl) (by simp -implicitDefEqProofs (disch := omega) only [go_sem, ht]) (by simp -implicitDefEqProofs (disch := omega) only [go_sem, ht] <;> rfl) (by simp -implicitDefEqProofs (disch := omega) only [go_sem, ht]) (hs) ?_; rintro _ nx - rfl hnx; (try simp only [put_nx, withH_nx, begP_nx] at hnx); simp -implicitDefEqProofs (disch := omega) only [go_sem, ht])
  (refine end_treeW 0 ?_; simp -implicitDefEqProofs (disch := omega) only [go_sem, ht])
end Go.Proofs.Ytfjdfnlkobeehaa
end
