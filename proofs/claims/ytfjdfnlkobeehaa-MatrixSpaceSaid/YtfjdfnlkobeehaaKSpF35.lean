/- Part 35 of the way to the statement: the walk and what it needs. -/
import Derived.Test.YtfjdfnlkobeehaaKSpF30
import Derived.Test.YtfjdfnlkobeehaaKSpF31
import Derived.Test.YtfjdfnlkobeehaaKSpF34
section
set_option maxRecDepth 100000
set_option linter.unusedVariables false
set_option linter.unusedSimpArgs false
namespace Go.Proofs.Ytfjdfnlkobeehaa.Ref

end Go.Proofs.Ytfjdfnlkobeehaa.Ref

namespace Go.Proofs.Ytfjdfnlkobeehaa.Ref

def J (z : Int) : PV := .val (.int .i64 z)
theorem J_def (z : Int) : J z = .val (.int .i64 z) := rfl
theorem get_J {zs : List Int} {i : Nat} (l : List PV) (h : i < zs.length) : (zs.map J ++ l)[i]? = some (.val (.int .i64 (zs.getD i 0))) := by
  rw [List.getElem?_append_left (by simpa using h)]
  simp [h, J]
theorem set_J {zs : List Int} {i : Nat} {x : Int} (l : List PV) (h : i < zs.length) : spl (zs.map J ++ l) i [.val (.int .i64 x)] = (zs.set i x).map J ++ l := by
  unfold spl
  simp only [List.length_singleton]
  rw [List.take_append_of_le_length (by simpa using Nat.le_of_lt h), List.drop_append_of_le_length (by simp; omega), List.set_eq_take_append_cons_drop, if_pos h]
  simp [J]
attribute [go_sem] get_J set_J J_def
end Go.Proofs.Ytfjdfnlkobeehaa.Ref

namespace Go.Proofs.Ytfjdfnlkobeehaa.Ref

end Go.Proofs.Ytfjdfnlkobeehaa.Ref

namespace Go.Proofs.Ytfjdfnlkobeehaa.Ref

theorem V_set {zs : List Nat} {k v : Nat} (h : k < zs.length) : V (zs.set k v) + 10000 ^ k * zs.getD k 0 = V zs + 10000 ^ k * v := by
  induction zs generalizing k with
  | nil => simp at h
  | cons z zs ih =>
    cases k with
    | zero => simp [V]; omega
    | succ k =>
      have := ih (k := k) (by simpa using h)
      simp only [List.set_cons_succ, V, Nat.pow_succ, List.getD_cons_succ]
      have h2 : 10000 * (V (zs.set k v) + 10000 ^ k * zs.getD k 0) = 10000 * (V zs + 10000 ^ k * v) := by rw [this]
      rw [Nat.mul_add, Nat.mul_add, ← Nat.mul_assoc, ← Nat.mul_assoc, Nat.mul_comm 10000 (10000 ^ k)] at h2
      omega
theorem V_set_take {zs : List Nat} {k n v : Nat} (h : k < n) (hn : n ≤ zs.length) : V ((zs.set k v).take n) + 10000 ^ k * zs.getD k 0 = V (zs.take n) + 10000 ^ k * v := by
  have := V_set (zs := zs.take n) (k := k) (v := v) (by simp; omega)
  rw [← List.take_set, List.getD_eq_getElem?_getD, List.getElem?_take, if_pos h, ← List.getD_eq_getElem?_getD] at this
  exact this
theorem mul_step {zs vs : List Nat} {A x y c i j m P : Nat} (hm : j < m) (hz : i + m ≤ zs.length) (hv : V (vs.take (j + 1)) = V (vs.take j) + 10000 ^ j * y) (h : V (zs.take (i + m)) + 10000 ^ (i + j) * c = P + 10000 ^ i * (x * V (vs.take j))) :
    V ((zs.set (i + j) ((c + (x * y + zs.getD (i + j) 0)) % 10000)).take (i + m)) + 10000 ^ (i + (j + 1)) * ((c + (x * y + zs.getD (i + j) 0)) / 10000) = P + 10000 ^ i * (x * V (vs.take (j + 1))) := by
  have h1 := V_set_take (zs := zs) (k := i + j) (n := i + m) (v := (c + (x * y + zs.getD (i + j) 0)) % 10000) (by omega) hz
  generalize zs.getD (i + j) 0 = z at *
  have h2 := Nat.mod_add_div (c + (x * y + z)) 10000
  generalize (c + (x * y + z)) % 10000 = r at *
  generalize (c + (x * y + z)) / 10000 = q at *
  have h3 : 10000 ^ (i + j) * (r + 10000 * q) = 10000 ^ (i + j) * (c + (x * y + z)) := by rw [h2]
  have h4 : 10000 ^ i * (x * V (vs.take (j + 1))) = 10000 ^ i * (x * V (vs.take j)) + 10000 ^ (i + j) * (x * y) := by
    rw [hv, Nat.mul_add, Nat.mul_add, Nat.pow_add, Nat.mul_left_comm x, Nat.mul_assoc]
  rw [h4, ← Nat.add_assoc i j 1, Nat.pow_succ, Nat.mul_assoc]
  rw [Nat.mul_add, Nat.mul_add, Nat.mul_add] at h3
  omega
theorem mul_end {us zs : List Nat} {c i m W : Nat} (hi : i < us.length) (hz : i + m < zs.length) (h : V (zs.take (i + m)) + 10000 ^ (i + m) * c = V (us.take i) * W + 10000 ^ i * (us.getD i 0 * W)) :
    V ((zs.set (i + m) c).take (i + 1 + m)) = V (us.take (i + 1)) * W := by
  rw [Nat.add_right_comm, V_take_succ _ (by simpa using hz), List.take_set_of_le (Nat.le_refl _), List.getD_eq_getElem?_getD, List.getElem?_set_self hz, V_take_succ us hi, Nat.add_mul, Nat.mul_assoc, ← h]
  rfl

end Go.Proofs.Ytfjdfnlkobeehaa.Ref
end

section
set_option maxRecDepth 100000
set_option linter.unusedVariables false
set_option linter.unusedSimpArgs false
namespace Go.Proofs.Ytfjdfnlkobeehaa.Ref

end Go.Proofs.Ytfjdfnlkobeehaa.Ref

namespace Go.Proofs.Ytfjdfnlkobeehaa.Ref

end Go.Proofs.Ytfjdfnlkobeehaa.Ref

namespace Go.Proofs.Ytfjdfnlkobeehaa.Ref

end Go.Proofs.Ytfjdfnlkobeehaa.Ref

namespace Go.Proofs.Ytfjdfnlkobeehaa.Ref


end Go.Proofs.Ytfjdfnlkobeehaa.Ref
end

section
set_option maxRecDepth 100000
set_option linter.unusedVariables false
set_option linter.unusedSimpArgs false
namespace Go.Proofs.Ytfjdfnlkobeehaa.Ref


def NZ (z : Int) : PV := NP (decide (z < 0)) z.natAbs
theorem NZ_def (z : Int) : NZ z = .agg [.val (.bool (decide (z < 0))), .sl (D z.natAbs).length ((D z.natAbs).map I)] := rfl
end Go.Proofs.Ytfjdfnlkobeehaa.Ref
end

section
set_option maxRecDepth 100000
set_option linter.unusedVariables false
set_option linter.unusedSimpArgs false
namespace Go.Proofs.Ytfjdfnlkobeehaa.Ref

theorem limbs_eq (n : Nat) : (bl n + 31) / 32 = (Ytfjdfnlkobeehaa.D n).length := by
  by_cases h : n = 0
  · subst h; rw [bl_zero, Ytfjdfnlkobeehaa.D_zero]; rfl
  · have h1 := bl_top h
    have h2 : bl ((Ytfjdfnlkobeehaa.D n).getD ((Ytfjdfnlkobeehaa.D n).length - 1) 0) ≤ 32 := bl_le.2 (Ytfjdfnlkobeehaa.Lm.get (Ytfjdfnlkobeehaa.Lm_D n) _)
    have h3 := bl_pos' (Ytfjdfnlkobeehaa.D_last n h)
    have h4 := Ytfjdfnlkobeehaa.D_len_pos h
    omega
end Go.Proofs.Ytfjdfnlkobeehaa.Ref

namespace Go.Proofs.Ytfjdfnlkobeehaa.Ref

attribute [go_sem] NZ_def

end Go.Proofs.Ytfjdfnlkobeehaa.Ref
end

section
set_option maxRecDepth 100000
set_option linter.unusedVariables false
set_option linter.unusedSimpArgs false
namespace Go.Proofs.Ytfjdfnlkobeehaa

theorem sz_lenM {m : List (List (Bool × List Nat))} : ∀ n, n ≤ m.length → sz (fun k => lenW (m.getD k [])) n = lenM (m.take n)
  | 0, _ => by simp [sz_zero, lenM]
  | n + 1, h => by
    rw [sz_succ, sz_lenM n (by omega), lenM_take (by omega)]; omega

theorem sized {m : List (List (Bool × List Nat))} {cols B : Nat} (hlm : ∀ l ∈ m, ∀ p ∈ l, Lm p.2) (hc : ∀ l ∈ m, l.length = cols) (hB : lenM m ≤ B) (hn : m.length ≤ 1000000) :
    (∀ c, EZ 4294967296 B m.length cols (echW (m.map vals) c)) ∧ ∀ c k, k < m.length → ∀ x ∈ (echW (m.map vals) c).1.getD k [], Z (B + 1) x := by
  have hE : ∀ c, EZ 4294967296 B m.length cols (echW (m.map vals) c) := by
    have := EZ.all (β := 4294967296) (B := B) (cols := cols) (rows := m.map vals) (κ := fun k => lenW (m.getD k [])) (fun z hz => by
      obtain ⟨l, hl, rfl⟩ := List.mem_map.1 hz
      rw [vals_len]; exact hc l hl) (fun k hk x hx => by
      rw [List.length_map] at hk
      have e : (m.map vals).getD k [] = vals (m.getD k []) := by simp [hk]
      rw [e] at hx
      obtain ⟨p, hp, rfl⟩ := List.mem_map.1 hx
      have h1 := hlm _ (getD_mem (d := []) hk) p hp
      rw [WV_abs]
      exact Nat.le_of_lt (V_lt' h1 (Nat.le_of_lt (lenW_mem hp)))) (by
      rw [List.length_map, sz_lenM _ (Nat.le_refl _), List.take_length]; exact hB)
    rwa [List.length_map] at this
  refine ⟨hE, fun c k hk x hx => ?_⟩
  have := (hE c).short (by omega) (by omega) hk x hx
  exact Nat.lt_of_le_of_lt this (Nat.pow_lt_pow_right (by decide) (by omega))


def wrongM (m : List (List (Bool × List Nat))) (c : Int) : Bool := decide (c < 0 ∨ 32 < c ∨ 64 < m.length ∨ ∃ l ∈ m, (l.length : Int) ≠ c)
theorem wrongM_false {m : List (List (Bool × List Nat))} {c : Int} (h : wrongM m c = false) : ∃ cols : Nat, c = cols ∧ cols ≤ 32 ∧ m.length ≤ 64 ∧ ∀ l ∈ m, l.length = cols := by
  have h := of_decide_eq_false h
  refine ⟨c.toNat, by omega, by omega, by omega, fun l hl => ?_⟩
  have : ¬ (l.length : Int) ≠ c := fun hne => h (.inr (.inr (.inr ⟨l, hl, hne⟩)))
  omega
theorem wrong_calls {m : List (List (Bool × List Nat))} {cn : Int} : PT Try.prog 52 [SM m, .val (.int .i64 cn)] (isV (.val (.bool (wrongM m cn)))) := by
  by_cases h1 : cn < 0
  · rw [show wrongM m cn = true from decide_eq_true (.inl h1)]
    refine PCalls.enter (n := 29) (rs := [.tmp 4]) (tb := []) Try.func52 rfl rfl rfl (by kernel_rfl) (by kernel_rfl) (by simp) fun c hc ht => ?_
    simp -implicitDefEqProofs (disch := omega) only [go_sem, ht]
    (refine end_treeW 0 ?_; simp -implicitDefEqProofs (disch := omega) only [go_sem, ht])
  by_cases h2 : 32 < cn
  · rw [show wrongM m cn = true from decide_eq_true (.inr (.inl h2))]
    refine PCalls.enter (n := 29) (rs := [.tmp 4]) (tb := []) Try.func52 rfl rfl rfl (by kernel_rfl) (by kernel_rfl) (by simp) fun c hc ht => ?_
    simp -implicitDefEqProofs (disch := omega) only [go_sem, ht]
    (refine end_treeW 0 ?_; simp -implicitDefEqProofs (disch := omega) only [go_sem, ht])
  by_cases h3 : 64 < m.length
  · rw [show wrongM m cn = true from decide_eq_true (.inr (.inr (.inl h3)))]
    refine PCalls.enter (n := 29) (rs := [.tmp 4]) (tb := []) Try.func52 rfl rfl rfl (by kernel_rfl) (by kernel_rfl) (by simp) fun c hc ht => ?_
    simp -implicitDefEqProofs (disch := omega) only [go_sem, ht]
    (refine end_treeW 0 ?_; simp -implicitDefEqProofs (disch := omega) only [go_sem, ht])
  refine PCalls.enter (n := 29) (rs := [.tmp 4]) (tb := []) Try.func52 rfl rfl rfl (by kernel_rfl) (by kernel_rfl) (by simp) fun c hc ht => ?_
  simp -implicitDefEqProofs (disch := omega) only [go_sem, ht]
  refine LW.loopW hc ht (by kernel_rfl) (fun t => t.sl 1 = .val (.int .i64 cn) ∧ t.sl 18 = .sl m.length (m.map SW) ∧ t.sl 19 = .val (.int .i64 m.length) ∧ ∃ i : Nat, i ≤ m.length ∧ t.sl 20 = .val (.int .i64 i) ∧ ∀ l ∈ m.take i, (l.length   : Int) = cn)
    (fun t => match t.sl 20 with | .val (.int _ k) => m.length - k.toNat | _ => 0) ?_ ?_
  · simp -implicitDefEqProofs (disch := omega) only [go_sem, ht]
    exact ⟨0, Nat.zero_le _, rfl, by simp⟩
  · rintro t ⟨h1', h18, h19, i, hi, h20, hall⟩
    by_cases hil : i = m.length
    · subst hil
      rw [List.take_length] at hall
      rw [show wrongM m cn = false from decide_eq_false (by
        rintro (h | h | h | ⟨l, hl, hne⟩)
        · exact h1 h
        · exact h2 h
        · exact h3 h
        · exact hne (hall l hl))]
      simp -implicitDefEqProofs (disch := omega) only [go_sem, ht, h1', h18, h19, h20]
      (refine end_treeW 0 ?_; simp -implicitDefEqProofs (disch := omega) only [go_sem, ht])
    · have hlt : i < m.length := by omega
      have hgi := get_SM' hlt
      have hmem := getD_mem (d := []) hlt
      have hst := getD_take (d := []) hlt
      by_cases he : ((m.getD i []).length   : Int) = cn
      · generalize m.getD i [] = l0 at *
        simp -implicitDefEqProofs (disch := omega) only [go_sem, ht, h1', h18, h19, h20, hgi, he]
        refine ⟨⟨i + 1, by omega, rfl, fun l hl => ?_⟩, by omega⟩
        rw [hst] at hl
        rcases List.mem_append.1 hl with hl | hl
        · exact hall l hl
        · have : l = l0 := by simpa using hl
          rw [this]; exact he
      · rw [show wrongM m cn = true from decide_eq_true (.inr (.inr (.inr ⟨_, hmem, he⟩)))]
        generalize m.getD i [] = l0 at *
        simp -implicitDefEqProofs (disch := omega) only [go_sem, ht, h1', h18, h19, h20, hgi, he]
        (refine end_treeW 0 ?_; simp -implicitDefEqProofs (disch := omega) only [go_sem, ht])

def longZ (W : List (List Int)) : Bool := decide (∃ z ∈ W, ∃ x ∈ z, 32 < (D x.natAbs).length)
theorem elong_calls {W : List (List Int)} {k cols : Nat} (h : ∀ z ∈ W, z.length = cols ∧ ∀ x ∈ z, Z k x) (hk : k ≤ 1000000) (hn : W.length ≤ 1000000) (hcols : cols ≤ 1000000) : PT Try.prog 93 [SM (W.map CZ)] (isV (.val (.bool (longZ W)))) := by
  refine PCalls.enter (n := 24) (rs := [.tmp 2]) (tb := []) Try.func93 rfl rfl rfl (by kernel_rfl) (by kernel_rfl) (by simp) fun c hc ht => ?_
  simp -implicitDefEqProofs (disch := omega) only [go_sem, ht]
  refine LW.loopW hc ht (by kernel_rfl) (fun t => t.sl 7 = .sl W.length ((W.map CZ).map SW) ∧ t.sl 8 = .val (.int .i64 W.length) ∧ ∃ i : Nat, i ≤ W.length ∧ t.sl 9 = .val (.int .i64 i) ∧ ∀ z ∈ W.take i, ∀ x ∈ z, (D x.natAbs).length ≤ 32)
    (fun t => match t.sl 9 with | .val (.int _ k) => W.length - k.toNat | _ => 0) ?_ ?_
  · have hml : (W.map CZ).length = W.length := by simp
    simp -implicitDefEqProofs (disch := omega) only [go_sem, ht, hml]
    exact ⟨0, Nat.zero_le _, rfl, by simp⟩
  · rintro t ⟨h7, h8, i, hi, h9, hall⟩
    by_cases hil : i = W.length
    · subst hil
      rw [List.take_length] at hall
      rw [show longZ W = false from decide_eq_false (by
        rintro ⟨z, hz, x, hx, hlt⟩
        have := hall z hz x hx
        omega)]
      simp -implicitDefEqProofs (disch := omega) only [go_sem, ht, h7, h8, h9]
      (refine end_treeW 0 ?_; simp -implicitDefEqProofs (disch := omega) only [go_sem, ht])
    · have hlt : i < W.length := by omega
      have hgi := get_SM' (m := W.map CZ) (i := i) (by simpa using hlt)
      rw [getD_CZ hlt] at hgi
      have hmem := getD_mem (d := []) hlt
      have hst := getD_take (d := []) hlt
      obtain ⟨hzl, hzz⟩ := h _ hmem
      have hczl := CZ_len (W.getD i [])
      have hlg : ∀ j, j < (W.getD i []).length → 32 < (D (vc (W.getD i []) j).natAbs).length → longZ W = true := fun j hj h32 => decide_eq_true ⟨_, hmem, _, List.getElem_mem hj, by rwa [vc_lt hj] at h32⟩
      generalize W.getD i [] = z at *
      simp -implicitDefEqProofs (disch := omega) only [go_sem, ht, h7, h8, h9, hgi, hczl]
      refine LW.loopW hc ht (by kernel_rfl) (fun s => s.sl 7 = .sl W.length ((W.map CZ).map SW) ∧ s.sl 8 = .val (.int .i64 W.length) ∧ s.sl 9 = .val (.int .i64 i) ∧ s.sl 13 = .sl z.length (SWc (CZ z)) ∧ s.sl 14 = .val (.int .i64 z.length) ∧ ∃ j : Nat, j ≤ z.length ∧ s.sl 15 = .val (.int .i64 j) ∧ ∀ x ∈ z.take j, (D x.natAbs).length ≤ 32)
        (fun s => match s.sl 15 with | .val (.int _ k) => z.length - k.toNat | _ => 0) ?_ ?_
      · simp -implicitDefEqProofs (disch := omega) only [go_sem, ht, h7, h8, h9]
        exact ⟨0, Nat.zero_le _, rfl, by simp⟩
      · clear h7 h8 h9
        rintro s ⟨h7, h8, h9, h13, h14, j, hj, h15, hal⟩
        by_cases hjl : j = z.length
        · subst hjl
          rw [List.take_length] at hal
          simp -implicitDefEqProofs (disch := omega) only [go_sem, ht, h7, h8, h9, h13, h14, h15]
          refine ⟨⟨i + 1, by omega, rfl, fun y hy => ?_⟩, by omega⟩
          rw [hst] at hy
          rcases List.mem_append.1 hy with hy | hy
          · exact hall y hy
          · have : y = z := by simpa using hy
            rw [this]; exact hal
        · have hjt : j < z.length := by omega
          have hat := CZ_at hjt
          have hzx : Z k (vc z j) := by rw [vc_lt hjt]; exact hzz _ (List.getElem_mem _)
          have hlm := limbsW (Wn.C hzx hk)
          rw [Ref.limbs_eq] at hlm
          have hln := hzx.len
          have hlgj := hlg j hjt
          by_cases h32 : 32 < (D (vc z j).natAbs).length
          · rw [hlgj h32]
            generalize (D (vc z j).natAbs).length = n at *
            simp -implicitDefEqProofs (disch := omega) only [go_sem, ht, h7, h8, h9, h13, h14, h15, hat]
            (refine pCall_vw (by refine ⟨⟨?_, ?_⟩, ?_, ?_⟩; rotate_left 2; (first | (right; rintro r rfl; rfl) | left); all_goals ((try simp -implicitDefEqProofs (disch := omega) only [h7, h8, h9, h13, h14, h15, hat, go_sem, ht]) <;> rfl)) (hlm) ?_; rintro _ nx - rfl hnx; simp -implicitDefEqProofs (disch := omega) only [h7, h8, h9, h13, h14, h15, hat, go_sem, ht])
            (refine end_treeW 0 ?_; simp -implicitDefEqProofs (disch := omega) only [go_sem, ht])
          · have hle : ∀ x ∈ z.take (j + 1), (D x.natAbs).length ≤ 32 := fun x hx => by
              rw [List.take_succ_eq_append_getElem hjt] at hx
              rcases List.mem_append.1 hx with hx | hx
              · exact hal x hx
              · have : x = z[j] := by simpa using hx
                rw [this, ← vc_lt hjt]; omega
            simp -implicitDefEqProofs (disch := omega) only [go_sem, ht, h7, h8, h9, h13, h14, h15, hat]
            (refine pCall_vw (by refine ⟨⟨?_, ?_⟩, ?_, ?_⟩; rotate_left 2; (first | (right; rintro r rfl; rfl) | left); all_goals ((try simp -implicitDefEqProofs (disch := omega) only [h7, h8, h9, h13, h14, h15, hat, go_sem, ht]) <;> rfl)) (hlm) ?_; rintro _ nx - rfl hnx; simp -implicitDefEqProofs (disch := omega) only [h7, h8, h9, h13, h14, h15, hat, go_sem, ht])
            exact ⟨⟨j + 1, by omega, rfl, hle⟩, by omega⟩
theorem told_calls {W : List (List Int)} {k cols : Nat} (h : ∀ z ∈ W, z.length = cols ∧ ∀ x ∈ z, Z k x) (hk : k ≤ 1000000) (hn : W.length ≤ 1000000) (hcols : cols ≤ 1000000) :
    PT Try.prog 54 [SM (W.map CZ)] (isV (.tup [SM ((if longZ W then [] else W).map CZ), .val (.int .i64 (if longZ W then 2 else 0))])) := by
  have hl := elong_calls h hk hn hcols
  have hfl := SM_flat (W.map CZ)
  by_cases hb : longZ W = true
  · rw [hb] at hl
    rw [if_pos hb, if_pos hb]
    refine PCalls.enter (n := 7) (rs := [.tmp 2, .tmp 3]) (tb := []) Try.func54 rfl rfl rfl (by kernel_rfl) (by kernel_rfl) (by simp) fun c hc ht => ?_
    simp -implicitDefEqProofs (disch := omega) only [go_sem, ht]
    (refine pCall_vw (by refine ⟨⟨?_, ?_⟩, ?_, ?_⟩; rotate_left 2; (first | (right; rintro r rfl; rfl) | left); all_goals ((try simp -implicitDefEqProofs (disch := omega) only [go_sem, ht]) <;> rfl)) (hl) ?_; rintro _ nx - rfl hnx; simp -implicitDefEqProofs (disch := omega) only [go_sem, ht])
    (refine end_treeM 2 ?_; simp -implicitDefEqProofs (disch := omega) only [go_sem, ht, List.map_nil])
  · rw [show longZ W = false by simpa using hb] at hl
    rw [if_neg hb, if_neg hb]
    refine PCalls.enter (n := 7) (rs := [.tmp 2, .tmp 3]) (tb := []) Try.func54 rfl rfl rfl (by kernel_rfl) (by kernel_rfl) (by simp) fun c hc ht => ?_
    simp -implicitDefEqProofs (disch := omega) only [go_sem, ht]
    (refine pCall_vw (by refine ⟨⟨?_, ?_⟩, ?_, ?_⟩; rotate_left 2; (first | (right; rintro r rfl; rfl) | left); all_goals ((try simp -implicitDefEqProofs (disch := omega) only [go_sem, ht]) <;> rfl)) (hl) ?_; rintro _ nx - rfl hnx; simp -implicitDefEqProofs (disch := omega) only [go_sem, ht])
    (refine end_treeM 2 ?_; simp -implicitDefEqProofs (disch := omega) only [go_sem, ht, hfl])


structure RR (T : List (List Int)) (Pv : List Nat) (cols k : Nat) : Prop where
  len : T.length = Pv.length
  row : ∀ i, i < T.length → (T.getD i []).length = cols ∧ ∀ x ∈ T.getD i [], Z k x
  col : ∀ c ∈ Pv, c < cols
  inc : ∀ i j (hi : i < Pv.length) (hj : j < Pv.length), i < j → Pv[i] < Pv[j]
  piv : ∀ i j (hj : j < Pv.length), i < Pv.length → (vc (T.getD i []) Pv[j] ≠ 0 ↔ j = i)
  prm : ∀ i, i < T.length → Prm (T.getD i [])
  hk : k ≤ 1000000
theorem echW_inc (rows : List (List Int)) : ∀ c, (∀ p ∈ (echW rows c).2, p < c) ∧ ∀ i j (hi : i < (echW rows c).2.length) (hj : j < (echW rows c).2.length), i < j → (echW rows c).2[i] < (echW rows c).2[j]
  | 0 => ⟨fun p hp => by simp [echW] at hp, fun i j hi => by simp [echW] at hi⟩
  | c + 1 => by
    obtain ⟨h1, h2⟩ := echW_inc rows c
    have e : (echW rows (c + 1)).2 = (echW rows c).2 ∨ (echW rows (c + 1)).2 = (echW rows c).2 ++ [c] := by
      simp only [echW, stepE]
      split
      · exact .inr rfl
      · exact .inl rfl
    generalize (echW rows (c + 1)).2 = l at *
    generalize (echW rows c).2 = l0 at *
    rcases e with rfl | rfl
    · exact ⟨fun p hp => by have := h1 p hp; omega, h2⟩
    · refine ⟨fun p hp => ?_, fun i j hi hj hij => ?_⟩
      · rcases List.mem_append.1 hp with hp | hp
        · have := h1 p hp; omega
        · have : p = c := by simpa using hp
          omega
      · rw [List.length_append, List.length_singleton] at hi hj
        by_cases hjl : j < l0.length
        · rw [List.getElem_append_left (by omega), List.getElem_append_left hjl]
          exact h2 i j (by omega) hjl hij
        · rw [List.getElem_append_left (by omega), List.getElem_append_right (by omega)]
          simpa using h1 _ (List.getElem_mem (by omega))
theorem neg_vc (z : List Int) (j : Nat) : vc (z.map (- ·)) j = -vc z j := by
  by_cases h : j < z.length
  · rw [vc_lt (by simpa using h), vc_lt h]; simp
  · rw [vc_ge (by simp; omega), vc_ge (by omega)]; rfl
theorem upZ_cases (z : List Int) : upZ z = z ∨ upZ z = z.map (- ·) := by unfold upZ; split; exact .inr rfl; exact .inl rfl
theorem gcdL_neg (z : List Int) : gcdL (z.map (- ·)) = gcdL z := by
  apply Nat.dvd_antisymm
  · exact dvd_gcdL.2 fun x hx => by
      have := gcdL_dvd (z := z.map (- ·)) (List.mem_map.2 ⟨x, hx, rfl⟩)
      simpa using this
  · exact dvd_gcdL.2 fun x hx => by
      obtain ⟨y, hy, rfl⟩ := List.mem_map.1 hx
      have := gcdL_dvd hy
      simpa using this
theorem Prm.neg {z : List Int} (h : Prm z) : Prm (z.map (- ·)) := by
  rcases h with h | h
  · exact .inl (by rw [gcdL_neg]; exact h)
  · exact .inr fun x hx => by
      obtain ⟨y, hy, rfl⟩ := List.mem_map.1 hx
      rw [h y hy]; rfl
theorem Prm.up {z : List Int} (h : Prm z) : Prm (upZ z) := by
  rcases upZ_cases z with e | e
  · rw [e]; exact h
  · rw [e]; exact h.neg
theorem echT_get {rz : List (List Int)} {cols i : Nat} (h : i < (echW rz cols).2.length) (hl : (echW rz cols).2.length ≤ (echW rz cols).1.length) : (echT rz cols).getD i [] = upZ ((echW rz cols).1.getD i []) := by
  unfold echT
  simp only [List.getD_eq_getElem?_getD, List.getElem?_map, List.getElem?_take]
  rw [if_pos h, List.getElem?_eq_getElem (by omega)]; rfl

theorem echT_RR {m : List (List (Bool × List Nat))} {cols B : Nat} (hE : EZ 4294967296 B m.length cols (echW (m.map vals) cols)) (hs : ∀ k, k < m.length → ∀ x ∈ (echW (m.map vals) cols).1.getD k [], Z (B + 1) x) (hB : B + 1 ≤ 1000000) : RR (echT (m.map vals) cols) (echW (m.map vals) cols).2 cols (B + 1) := by
  obtain ⟨O, κ, hI, _⟩ := hE.st
  have htle := hI.tle
  have hlen := hE.len
  have hTl : (echT (m.map vals) cols).length = (echW (m.map vals) cols).2.length := by unfold echT; simp; omega
  have hget : ∀ i, i < (echW (m.map vals) cols).2.length → (echT (m.map vals) cols).getD i [] = upZ ((echW (m.map vals) cols).1.getD i []) := fun i hi => echT_get hi (by omega)
  refine ⟨hTl, fun i hi => ?_, (echW_inc _ cols).1, (echW_inc _ cols).2, fun i j hj hi => ?_, fun i hi => ?_, hB⟩
  · rw [hget i (by omega)]
    obtain ⟨h1, h2⟩ := hE.row i (by omega)
    refine ⟨by rw [upZ_len]; exact h1, fun x hx => ?_⟩
    have hz := hs i (by omega)
    rcases upZ_cases ((echW (m.map vals) cols).1.getD i []) with e | e
    · rw [e] at hx; exact hz x hx
    · rw [e] at hx
      obtain ⟨y, hy, rfl⟩ := List.mem_map.1 hx
      exact (hz y hy).neg
  · rw [hget i hi]
    obtain ⟨_, h2, h3⟩ := hI.piv i hi
    have e : vc (upZ ((echW (m.map vals) cols).1.getD i [])) (echW (m.map vals) cols).2[j] ≠ 0 ↔ vc ((echW (m.map vals) cols).1.getD i []) (echW (m.map vals) cols).2[j] ≠ 0 := by
      rcases upZ_cases ((echW (m.map vals) cols).1.getD i []) with e | e
      · rw [e]
      · rw [e, neg_vc]; omega
    rw [e]
    constructor
    · intro h
      exact Classical.byContradiction fun hne => h (h2 j hj hne)
    · rintro rfl
      exact h3
  · rw [hget i (by omega)]
    exact (hE.row i (by omega)).2.up


structure Mx (m : List (List (Bool × List Nat))) (B : Nat) : Prop where
  lm : ∀ l ∈ m, ∀ p ∈ l, Lm p.2
  len : lenM m ≤ B
  hB : 2 * (B + 1) + 1 ≤ 1000000
theorem Mx.n {m : List (List (Bool × List Nat))} {B : Nat} (h : Mx m B) : m.length ≤ 1000000 := by have := lenM_len m; have := h.len; have := h.hB; omega
theorem Mx.rn {m : List (List (Bool × List Nat))} {B : Nat} (h : Mx m B) {l : List (Bool × List Nat)} (hl : l ∈ m) : Rn l B := by
  have h1 := lenM_mem hl
  have h2 := h.len
  have h3 := h.hB
  exact ⟨fun p hp => ⟨h.lm l hl p hp, by have := lenW_mem hp; omega⟩, by omega⟩
section
variable {m : List (List (Bool × List Nat))} {cols B : Nat}
theorem Mx.ez (h : Mx m B) (hc : ∀ l ∈ m, l.length = cols) : (∀ c, EZ 4294967296 B m.length cols (echW (m.map vals) c)) ∧ ∀ c k, k < m.length → ∀ x ∈ (echW (m.map vals) c).1.getD k [], Z (B + 1) x := sized h.lm hc h.len h.n
theorem Mx.rr (h : Mx m B) (hc : ∀ l ∈ m, l.length = cols) : RR (echT (m.map vals) cols) (echW (m.map vals) cols).2 cols (B + 1) := by
  obtain ⟨h1, h2⟩ := h.ez hc
  exact echT_RR (h1 cols) (h2 cols) (by have := h.hB; omega)
theorem Mx.ech (h : Mx m B) (hc : ∀ l ∈ m, l.length = cols) (hcols : cols ≤ 1000) (hn : m.length ≤ 10000) :
    PT Try.prog 53 [SM m, .val (.int .i64 cols)] (isV (.tup [SM ((echT (m.map vals) cols).map CZ), .sl (echW (m.map vals) cols).2.length ((echW (m.map vals) cols).2.map Ref.I)])) := by
  obtain ⟨h1, h2⟩ := h.ez hc
  exact echelon_calls (fun l hl => ⟨h.rn hl, hc l hl⟩) hcols hn h1 h2 h.hB
theorem mem_getD {α : Type} {W : List α} {z d : α} (h : z ∈ W) : ∃ i, i < W.length ∧ W.getD i d = z := by
  obtain ⟨i, hi, rfl⟩ := List.mem_iff_getElem.1 h
  exact ⟨i, hi, by simp [hi]⟩

def mEch (m : List (List (Bool × List Nat))) (c : Int) : List (List Int) × Int :=
  if wrongM m c then ([], 1) else if longZ (echT (m.map vals) c.toNat) then ([], 2) else (echT (m.map vals) c.toNat, 0)
theorem mech_calls (h : Mx m B) {cn : Int} : PT Try.prog 17 [SM m, .val (.int .i64 cn)] (isV (.tup [SM ((mEch m cn).1.map CZ), .val (.int .i64 (mEch m cn).2)])) := by
  have hw := wrong_calls (m := m) (cn := cn)
  unfold mEch
  by_cases hb : wrongM m cn = true
  · rw [hb] at hw
    rw [if_pos hb]
    refine PCalls.enter (n := 21) (rs := [.tmp 4, .tmp 5]) (tb := []) Try.func17 rfl rfl rfl (by kernel_rfl) (by kernel_rfl) (by simp) fun c hc ht => ?_
    simp -implicitDefEqProofs (disch := omega) only [go_sem, ht]
    (refine pCall_vw (by refine ⟨⟨?_, ?_⟩, ?_, ?_⟩; rotate_left 2; (first | (right; rintro r rfl; rfl) | left); all_goals ((try simp -implicitDefEqProofs (disch := omega) only [go_sem, ht]) <;> rfl)) (hw) ?_; rintro _ nx - rfl hnx; simp -implicitDefEqProofs (disch := omega) only [go_sem, ht])
    (refine end_treeM 2 ?_; simp -implicitDefEqProofs (disch := omega) only [go_sem, ht, List.map_nil])
  · rw [if_neg hb]
    have hb' : wrongM m cn = false := by simpa using hb
    obtain ⟨n, rfl, hn, hml, hlc⟩ := wrongM_false hb'
    rw [hb'] at hw
    have he := h.ech hlc (by omega) (by omega)
    have hr := h.rr hlc
    have ht' := told_calls (W := echT (m.map vals) n) (k := B + 1) (cols := n) (fun z hz => by
      obtain ⟨i, hi, rfl⟩ := mem_getD (d := []) hz
      exact hr.row i hi) hr.hk (by have := hr.len; have := (h.ez hlc).1 n; obtain ⟨O, κ, hI, _⟩ := this.st; have := hI.tle; omega) (by omega)
    rw [Int.toNat_natCast]
    have e : (if longZ (echT (m.map vals) n) = true then (([], 2) : List (List Int) × Int) else (echT (m.map vals) n, 0)) = (if longZ (echT (m.map vals) n) = true then [] else echT (m.map vals) n, if longZ (echT (m.map vals) n) = true then 2 else 0) := by split <;> rfl
    rw [e]
    have hfl := SM_flat ((if longZ (echT (m.map vals) n) = true then [] else echT (m.map vals) n).map CZ)
    generalize (if longZ (echT (m.map vals) n) = true then [] else echT (m.map vals) n).map CZ = m2 at *
    generalize (if longZ (echT (m.map vals) n) = true then (2 : Int) else 0) = er at *
    generalize (echT (m.map vals) n).map CZ = m1 at *
    generalize (echW (m.map vals) n).2 = Pv at *
    refine PCalls.enter (n := 21) (rs := [.tmp 4, .tmp 5]) (tb := []) Try.func17 rfl rfl rfl (by kernel_rfl) (by kernel_rfl) (by simp) fun c hc ht => ?_
    simp -implicitDefEqProofs (disch := omega) only [go_sem, ht]
    ((refine pCall_vw (by refine ⟨⟨?_, ?_⟩, ?_, ?_⟩; rotate_left 2; (first | (right; rintro r rfl; rfl) | left); all_goals ((try simp -implicitDefEqProofs (disch := omega) only [go_sem, ht]) <;> rfl)) (hw) ?_; rintro _ nx_1 - rfl hnx_1; simp -implicitDefEqProofs (disch := omega) only [go_sem, ht]); (refine pCall_vw (by refine ⟨⟨?_, ?_⟩, ?_, ?_⟩; rotate_left 2; (first | (right; rintro r rfl; rfl) | left); all_goals ((try simp -implicitDefEqProofs (disch := omega) only [go_sem, ht]) <;> rfl)) (he) ?_; rintro _ nx_2 - rfl hnx_2; simp -implicitDefEqProofs (disch := omega) only [go_sem, ht]); (refine pCall_vw (by refine ⟨⟨?_, ?_⟩, ?_, ?_⟩; rotate_left 2; (first | (right; rintro r rfl; rfl) | left); all_goals ((try simp -implicitDefEqProofs (disch := omega) only [go_sem, ht]) <;> rfl)) (ht') ?_; rintro _ nx_3 - rfl hnx_3; simp -implicitDefEqProofs (disch := omega) only [go_sem, ht]))
    (refine end_treeM 2 ?_; simp -implicitDefEqProofs (disch := omega) only [go_sem, ht, hfl])
end
end Go.Proofs.Ytfjdfnlkobeehaa
end

section
set_option linter.unusedVariables false
set_option linter.unusedSimpArgs false
namespace Go.Proofs.Ytfjdfnlkobeehaa


inductive Sp (I : Vc → Prop) : Vc → Prop
  | zero {w : Vc} : (∀ j, w j = 0) → Sp I w
  | mem {r : Vc} : I r → Sp I r
  | comb {u v w : Vc} {a b g : Int} : Sp I u → Sp I v → g ≠ 0 → (∀ j, g * w j = a * u j + b * v j) → Sp I w
theorem Sp.trans {I J : Vc → Prop} (h : ∀ r, I r → Sp J r) {u : Vc} (hu : Sp I u) : Sp J u := by
  induction hu with
  | zero h => exact .zero h
  | mem hm => exact h _ hm
  | comb _ _ hg hw ih1 ih2 => exact .comb ih1 ih2 hg hw
theorem Sp.scale {I : Vc → Prop} {u w : Vc} {a g : Int} (hu : Sp I u) (hg : g ≠ 0) (hw : ∀ j, g * w j = a * u j) : Sp I w :=
  .comb (a := a) (b := 0) hu hu hg fun j => by rw [hw j]; omega
structure RE (T : List (List Int)) (Pv : List Nat) (cols : Nat) : Prop where
  len : T.length = Pv.length
  row : ∀ i, i < T.length → (T.getD i []).length = cols
  col : ∀ c ∈ Pv, c < cols
  inc : ∀ i j (hi : i < Pv.length) (hj : j < Pv.length), i < j → Pv[i] < Pv[j]
  piv : ∀ i j (hj : j < Pv.length), i < Pv.length → (vc (T.getD i []) Pv[j] ≠ 0 ↔ j = i)
  prm : ∀ i, i < T.length → Prm (T.getD i [])
  lead : ∀ i (hi : i < Pv.length), ∀ j, j < Pv[i] → vc (T.getD i []) j = 0
  pos : ∀ i (hi : i < Pv.length), 0 < vc (T.getD i []) Pv[i]


def sumI (f : Nat → Int) : Nat → Int
  | 0 => 0
  | n + 1 => sumI f n + f n
theorem sumI_congr {f g : Nat → Int} : ∀ {n : Nat}, (∀ k, k < n → f k = g k) → sumI f n = sumI g n
  | 0, _ => rfl
  | n + 1, h => by rw [sumI, sumI, sumI_congr fun k hk => h k (by omega), h n (by omega)]
theorem sumI_zero {f : Nat → Int} {n : Nat} (h : ∀ k, k < n → f k = 0) : sumI f n = 0 := by
  induction n with
  | zero => rfl
  | succ n ih => rw [sumI, ih fun k hk => h k (by omega), h n (by omega)]; rfl
theorem sumI_lin {f g : Nat → Int} {a b : Int} : ∀ n, sumI (fun k => a * f k + b * g k) n = a * sumI f n + b * sumI g n
  | 0 => by simp [sumI]
  | n + 1 => by rw [sumI, sumI, sumI, sumI_lin n]; simp only [Int.mul_add]; omega
theorem sumI_one {f : Nat → Int} {i : Nat} : ∀ {n : Nat}, i < n → (∀ k, k < n → k ≠ i → f k = 0) → sumI f n = f i
  | 0, h, _ => by omega
  | n + 1, h, hz => by
    rw [sumI]
    by_cases hi : i = n
    · subst hi
      rw [sumI_zero fun k hk => hz k (by omega) (by omega)]; omega
    · rw [sumI_one (n := n) (by omega) fun k hk hne => hz k (by omega) hne, hz n (by omega) (fun e => hi e.symm)]; omega
theorem sumI_scale {f : Nat → Int} {a : Int} (n : Nat) : sumI (fun k => a * f k) n = a * sumI f n := by
  have := sumI_lin (f := f) (g := f) (a := a) (b := 0) n
  simp only [Int.zero_mul, Int.add_zero] at this
  exact this
def rowsOf (T : List (List Int)) (r : Vc) : Prop := ∃ i, i < T.length ∧ r = vc (T.getD i [])
section
variable {T : List (List Int)} {Pv : List Nat} {cols : Nat}

theorem exists_coef {d : Nat → Int} : ∀ n, (∀ k, k < n → d k ≠ 0) → ∃ (D : Int) (e : Nat → Int), D ≠ 0 ∧ ∀ k, k < n → e k * d k = D
  | 0, _ => ⟨1, fun _ => 0, by decide, fun k hk => by omega⟩
  | n + 1, h => by
    obtain ⟨D, e, hD, he⟩ := exists_coef n fun k hk => h k (by omega)
    refine ⟨D * d n, fun k => if k = n then D else e k * d n, Int.mul_ne_zero hD (h n (by omega)), fun k hk => ?_⟩
    by_cases hkn : k = n
    · subst hkn
      show (if k = k then D else _) * d k = _
      rw [if_pos rfl]
    · simp only [if_neg hkn]
      rw [Int.mul_right_comm, he k (by omega)]

theorem RE.expand (h : RE T Pv cols) : ∃ (D : Int) (e : Nat → Int), D ≠ 0 ∧ (∀ k, k < Pv.length → e k ≠ 0) ∧ ∀ u, Sp (rowsOf T) u → ∀ j, D * u j = sumI (fun k => e k * u (Pv.getD k 0) * vc (T.getD k []) j) Pv.length := by
  have hne : ∀ k, k < Pv.length → vc (T.getD k []) (Pv.getD k 0) ≠ 0 := fun k hk => by
    have := (h.piv k k hk hk).2 rfl
    rwa [show Pv.getD k 0 = Pv[k] by simp [hk]]
  obtain ⟨D, e, hD, he⟩ := exists_coef Pv.length hne
  refine ⟨D, e, hD, fun k hk h0 => hD (by rw [← he k hk, h0, Int.zero_mul]), fun u hu => ?_⟩
  induction hu with
  | zero hz =>
    intro j
    rw [hz j, sumI_zero fun k hk => by rw [hz]; simp]
    simp
  | mem hm =>
    obtain ⟨i, hi, rfl⟩ := hm
    intro j
    have hi' : i < Pv.length := by rw [← h.len]; exact hi
    rw [sumI_one hi' fun k hk hki => ?_]
    · rw [he i hi']
    · have : vc (T.getD i []) (Pv.getD k 0) = 0 := Classical.byContradiction fun hx => by
        rw [show Pv.getD k 0 = Pv[k] by simp [hk]] at hx
        exact hki ((h.piv i k hk hi').1 hx)
      rw [this]; simp
  | comb _ _ hg hw ih1 ih2 =>
    rename_i u v w a b g s1 s2
    intro j
    have h1 := ih1 j
    have h2 := ih2 j
    have e1 : g * (D * w j) = g * sumI (fun k => e k * w (Pv.getD k 0) * vc (T.getD k []) j) Pv.length := by
      rw [← sumI_scale]
      have : sumI (fun k => g * (e k * w (Pv.getD k 0) * vc (T.getD k []) j)) Pv.length = sumI (fun k => a * (e k * u (Pv.getD k 0) * vc (T.getD k []) j) + b * (e k * v (Pv.getD k 0) * vc (T.getD k []) j)) Pv.length := sumI_congr fun k hk => by
        have hwk := hw (Pv.getD k 0)
        have : g * (e k * w (Pv.getD k 0) * vc (T.getD k []) j) = e k * (g * w (Pv.getD k 0)) * vc (T.getD k []) j := by simp only [Int.mul_left_comm, Int.mul_assoc]
        rw [this, hwk]
        simp only [Int.mul_add, Int.add_mul]
        congr 1 <;> simp only [Int.mul_left_comm, Int.mul_assoc]
      rw [this, sumI_lin, ← h1, ← h2, Int.mul_left_comm, hw j, Int.mul_add]
      congr 1 <;> exact Int.mul_left_comm _ _ _
    exact Int.eq_of_mul_eq_mul_left hg e1
theorem RE.zero (h : RE T Pv cols) {u : Vc} (hu : Sp (rowsOf T) u) (hz : ∀ c ∈ Pv, u c = 0) (j : Nat) : u j = 0 := by
  obtain ⟨D, e, hD, _, hx⟩ := h.expand
  have := hx u hu j
  rw [sumI_zero fun k hk => by rw [hz (Pv.getD k 0) (by rw [show Pv.getD k 0 = Pv[k] by simp [hk]]; exact List.getElem_mem hk)]; simp] at this
  exact (Int.mul_eq_zero.1 this).resolve_left hD

theorem RE.first (h : RE T Pv cols) {u : Vc} (hu : Sp (rowsOf T) u) {c : Nat} (hc : u c ≠ 0) (hz : ∀ j, j < c → u j = 0) : c ∈ Pv := by
  obtain ⟨D, e, hD, hek, hx⟩ := h.expand
  apply Classical.byContradiction
  intro hcp
  
  have := hx u hu c
  rw [sumI_zero fun k hk => ?_] at this
  · exact hc ((Int.mul_eq_zero.1 this).resolve_left hD)
  · have hpk : Pv.getD k 0 = Pv[k] := by simp [hk]
    have hne : Pv[k] ≠ c := fun e => hcp (e ▸ List.getElem_mem hk)
    rcases Nat.lt_or_ge Pv[k] c with h1 | h1
    · rw [hpk, hz _ h1]; simp
    · rw [h.lead k hk c (by omega)]; simp
end
theorem sorted_eq : ∀ {l m : List Nat}, (∀ i j (hi : i < l.length) (hj : j < l.length), i < j → l[i] < l[j]) → (∀ i j (hi : i < m.length) (hj : j < m.length), i < j → m[i] < m[j]) → (∀ x, x ∈ l ↔ x ∈ m) → l = m
  | [], [], _, _, _ => rfl
  | [], y :: m, _, _, h => by have := (h y).2 (List.mem_cons_self ..); simp at this
  | x :: l, [], _, _, h => by have := (h x).1 (List.mem_cons_self ..); simp at this
  | x :: l, y :: m, hl, hm, h => by
    have lx : ∀ z ∈ l, x < z := fun z hz => by
      obtain ⟨i, hi, rfl⟩ := List.mem_iff_getElem.1 hz
      have := hl 0 (i + 1) (by simp) (by simpa using hi) (by omega)
      simpa using this
    have my : ∀ z ∈ m, y < z := fun z hz => by
      obtain ⟨i, hi, rfl⟩ := List.mem_iff_getElem.1 hz
      have := hm 0 (i + 1) (by simp) (by simpa using hi) (by omega)
      simpa using this
    have exy : x = y := by
      have h1 := (h x).1 (List.mem_cons_self ..)
      have h2 := (h y).2 (List.mem_cons_self ..)
      rcases List.mem_cons.1 h1 with e | h1
      · exact e
      · rcases List.mem_cons.1 h2 with e | h2
        · exact e.symm
        · have := my x h1; have := lx y h2; omega
    subst exy
    congr 1
    refine sorted_eq (fun i j hi hj hij => ?_) (fun i j hi hj hij => ?_) fun z => ?_
    · have := hl (i + 1) (j + 1) (by simpa using hi) (by simpa using hj) (by omega)
      simpa using this
    · have := hm (i + 1) (j + 1) (by simpa using hi) (by simpa using hj) (by omega)
      simpa using this
    · constructor
      · intro hz
        rcases List.mem_cons.1 ((h z).1 (List.mem_cons_of_mem _ hz)) with e | h1
        · have := lx z hz; omega
        · exact h1
      · intro hz
        rcases List.mem_cons.1 ((h z).2 (List.mem_cons_of_mem _ hz)) with e | h1
        · have := my z hz; omega
        · exact h1

theorem prm_same {z w : List Int} {a b : Int} (hz : Prm z) (hw : Prm w) (hl : z.length = w.length) (ha : a ≠ 0) (hb : b ≠ 0) (h : ∀ j, a * vc z j = b * vc w j) : z = w ∨ z = w.map (- ·) := by
  have h1 : ∀ j, (vc z j).natAbs = (vc w j).natAbs := fun j => by
    by_cases hj : j < z.length
    · have e1 := prm_le hz ha hb h hj
      have e2 := prm_le hw hb ha (fun j => (h j).symm) (j := j) (by omega)
      omega
    · rw [vc_ge (by omega), vc_ge (by omega)]
  by_cases h0 : ∀ j, vc z j = 0
  · left
    refine List.ext_getElem hl fun i h2 h3 => ?_
    have e1 := h0 i
    have e2 := h1 i
    rw [vc_lt h2] at e1 e2
    rw [vc_lt h3] at e2
    omega
  · obtain ⟨i, hi⟩ : ∃ i, vc z i ≠ 0 := Classical.byContradiction fun hno => h0 fun j => Classical.byContradiction fun hne => hno ⟨j, hne⟩
    have hab : a = b ∨ a = -b := by
      have e1 := congrArg Int.natAbs (h i)
      rw [Int.natAbs_mul, Int.natAbs_mul, ← h1 i] at e1
      have e2 := Nat.eq_of_mul_eq_mul_right (by omega) e1
      omega
    rcases hab with rfl | rfl
    · left
      refine List.ext_getElem hl fun i h2 h3 => ?_
      have := Int.eq_of_mul_eq_mul_left ha (h i)
      rwa [vc_lt h2, vc_lt h3] at this
    · right
      refine List.ext_getElem (by simpa using hl) fun i h2 h3 => ?_
      have e1 := h i
      rw [Int.neg_mul, ← Int.mul_neg] at e1
      have := Int.eq_of_mul_eq_mul_left hb e1
      rw [vc_lt h2, vc_lt (by omega)] at this
      simp only [List.getElem_map]
      omega
theorem RE.uniq {T T' : List (List Int)} {Pv Pv' : List Nat} {cols : Nat} (h : RE T Pv cols) (h' : RE T' Pv' cols) (hs : ∀ r, rowsOf T r → Sp (rowsOf T') r) (hs' : ∀ r, rowsOf T' r → Sp (rowsOf T) r) : T = T' ∧ Pv = Pv' := by
  have key : ∀ {T T' : List (List Int)} {Pv Pv' : List Nat}, RE T Pv cols → RE T' Pv' cols → (∀ r, rowsOf T r → Sp (rowsOf T') r) → ∀ x ∈ Pv, x ∈ Pv' := by
    intro T T' Pv Pv' h h' hs x hx
    obtain ⟨i, hi, rfl⟩ := List.mem_iff_getElem.1 hx
    refine h'.first (hs _ ⟨i, by rw [h.len]; exact hi, rfl⟩) ?_ (h.lead i hi)
    exact (h.piv i i hi hi).2 rfl
  have hp : Pv = Pv' := sorted_eq h.inc h'.inc fun x => ⟨key h h' hs x, key h' h hs' x⟩
  subst hp
  refine ⟨?_, rfl⟩
  have hll : T.length = T'.length := by rw [h.len, h'.len]
  refine List.ext_getElem hll fun i h1 h2 => ?_
  have e1 : T.getD i [] = T[i] := by simp [h1]
  have e2 : T'.getD i [] = T'[i] := by simp [h2]
  have hi : i < Pv.length := by rw [← h.len]; exact h1
  have p1 := h.pos i hi
  have p2 := h'.pos i hi
  have hline : ∀ j, vc (T'.getD i []) Pv[i] * vc (T.getD i []) j = vc (T.getD i []) Pv[i] * vc (T'.getD i []) j := fun j => by
    have hsp : Sp (rowsOf T) (fun j => vc (T'.getD i []) Pv[i] * vc (T.getD i []) j - vc (T.getD i []) Pv[i] * vc (T'.getD i []) j) :=
      .comb (a := vc (T'.getD i []) Pv[i]) (b := -vc (T.getD i []) Pv[i]) (g := 1) (.mem ⟨i, h1, rfl⟩) (hs' _ ⟨i, h2, rfl⟩) (by decide) fun j => by rw [Int.neg_mul]; omega
    have := h.zero hsp (fun c hc => by
      obtain ⟨k, hk, rfl⟩ := List.mem_iff_getElem.1 hc
      by_cases hki : k = i
      · subst hki
        rw [Int.mul_comm]; omega
      · have z1 : vc (T.getD i []) Pv[k] = 0 := Classical.byContradiction fun hx => hki ((h.piv i k hk hi).1 hx)
        have z2 : vc (T'.getD i []) Pv[k] = 0 := Classical.byContradiction fun hx => hki ((h'.piv i k hk hi).1 hx)
        rw [z1, z2]; simp) j
    omega
  rw [← e1, ← e2]
  rcases prm_same (h.prm i h1) (h'.prm i h2) (by rw [h.row i h1, h'.row i h2]) (by omega) (by omega) hline with e | e
  · exact e
  · rw [e, neg_vc] at p1
    omega
end Go.Proofs.Ytfjdfnlkobeehaa
end

section
set_option linter.unusedVariables false
set_option linter.unusedSimpArgs false
namespace Go.Proofs.Ytfjdfnlkobeehaa


theorem step_cases {s : List (List Int) × List Nat} {n c : Nat} (hn : s.1.length = n) :
    (stepE c s = s ∧ ∀ i, s.2.length ≤ i → i < n → vc (s.1.getD i []) c = 0) ∨
    ∃ i, s.2.length ≤ i ∧ i < n ∧ vc (s.1.getD i []) c ≠ 0 ∧ (stepE c s).2 = s.2 ++ [c] ∧ (stepE c s).1.length = n ∧
      ∀ k, k < n → (stepE c s).1.getD k [] = if k = s.2.length then s.1.getD i [] else clearZ (s.1.getD (swp i s.2.length k) []) (s.1.getD i []) c := by
  unfold stepE
  by_cases hf : findP s.1 c s.2.length < s.1.length
  · right
    obtain ⟨hge, hne⟩ := findP_spec hf
    refine ⟨findP s.1 c s.2.length, hge, by omega, hne, by rw [if_pos hf], by rw [if_pos hf]; simp only [clearAll_len, swapL_len]; exact hn, fun k hk => ?_⟩
    rw [if_pos hf]
    have htn : s.2.length < n := by omega
    simp only
    rw [clearAll_get (by rw [swapL_len]; omega), swapL_get (by omega) hf (by omega), swapL_get (by omega) hf (by omega), swp_t]
    by_cases hkt : k = s.2.length
    · rw [if_pos hkt, if_pos hkt, hkt, swp_t]
    · rw [if_neg hkt, if_neg hkt]
  · left
    refine ⟨by rw [if_neg hf], fun i hi hin => ?_⟩
    have := findP_le (W := s.1) (c := c) (r := s.2.length)
    exact findP_none (by omega) i hi (by omega)
theorem swp_swp {i t k : Nat} : swp i t (swp i t k) = k := by
  unfold swp
  by_cases h1 : k = i
  · subst h1
    rw [if_pos rfl]
    by_cases h2 : t = k
    · rw [if_pos h2]; exact h2
    · rw [if_neg h2, if_pos rfl]
  · rw [if_neg h1]
    by_cases h2 : k = t
    · subst h2; rw [if_pos rfl, if_pos rfl]
    · rw [if_neg h2, if_neg h1, if_neg h2]

structure EW (rows : List (List Int)) (n cols c : Nat) (s : List (List Int) × List Nat) : Prop where
  len : s.1.length = n
  row : ∀ k, k < n → (s.1.getD k []).length = cols
  tle : s.2.length ≤ n
  sub : ∀ k, k < n → Sp (rowsOf rows) (vc (s.1.getD k []))
  sup : ∀ k, k < n → Sp (rowsOf s.1) (vc (rows.getD k []))
  low : ∀ k, s.2.length ≤ k → k < n → ∀ j, j < c → vc (s.1.getD k []) j = 0
  lead : ∀ k (hk : k < s.2.length), s.2[k] < c ∧ ∀ j, j < s.2[k] → vc (s.1.getD k []) j = 0
theorem EW.start {rows : List (List Int)} {cols : Nat} (hc : ∀ z ∈ rows, z.length = cols) : EW rows rows.length cols 0 (rows.map primZ, []) := by
  have hg : ∀ k, k < rows.length → (rows.map primZ).getD k [] = primZ (rows.getD k []) := fun k hk => by simp [List.getD_eq_getElem?_getD, hk]
  refine ⟨by simp, fun k hk => ?_, by simp, fun k hk => ?_, fun k hk => ?_, fun k _ _ j hj => by omega, fun k hk => by simp at hk⟩
  · simp only [hg k hk]
    rw [primZ_len]; exact hc _ (getD_mem hk)
  · simp only [hg k hk]
    by_cases h0 : gcdL (rows.getD k []) = 0
    · refine .zero fun j => ?_
      by_cases hj : j < (primZ (rows.getD k [])).length
      · have hj' := hj
        rw [primZ_len] at hj'
        rw [vc_lt hj]
        simp only [primZ, List.getElem_map]
        rw [gcdL_zero.1 h0 _ (List.getElem_mem hj')]; simp
      · rw [vc_ge (by omega)]
    · exact (Sp.mem ⟨k, hk, rfl⟩).scale (g := (gcdL (rows.getD k []) : Nat)) (a := 1) (by omega) fun j => by rw [primZ_vc]; omega
  · have hm : rowsOf (rows.map primZ) (vc (primZ (rows.getD k []))) := ⟨k, by simpa using hk, by rw [hg k hk]⟩
    exact (Sp.mem hm).scale (g := 1) (a := (gcdL (rows.getD k []) : Nat)) (by decide) fun j => by rw [primZ_vc]; omega
theorem EW.step {rows : List (List Int)} {n cols c : Nat} {s : List (List Int) × List Nat} (h : EW rows n cols c s) : EW rows n cols (c + 1) (stepE c s) := by
  rcases step_cases (c := c) h.len with ⟨e, hz⟩ | ⟨i, hi, hin, hne, eP, hl, hg⟩
  · rw [e]
    refine ⟨h.len, h.row, h.tle, h.sub, h.sup, fun k hk hkn j hj => ?_, fun k hk => ?_⟩
    · by_cases hjc : j = c
      · subst hjc; exact hz k hk hkn
      · exact h.low k hk hkn j (by omega)
    · have := h.lead k hk
      exact ⟨by omega, this.2⟩
  · have htn : s.2.length < n := by omega
    have hPl : (stepE c s).2.length = s.2.length + 1 := by rw [eP]; simp
    have hcl : ∀ k, k < n → k ≠ s.2.length → ∃ a b g : Int, a ≠ 0 ∧ g ≠ 0 ∧ (∀ j, g * vc ((stepE c s).1.getD k []) j = a * vc (s.1.getD (swp i s.2.length k) []) j - b * vc (s.1.getD i []) j) ∧ vc ((stepE c s).1.getD k []) c = 0 := fun k hk hkt => by
      rw [hg k hk, if_neg hkt]
      exact clearZ_line (by rw [h.row _ (swp_bd hin htn hk), h.row i hin]) hne
    have hgt : (stepE c s).1.getD s.2.length [] = s.1.getD i [] := by rw [hg _ htn, if_pos rfl]
    refine ⟨hl, fun k hk => ?_, by omega, fun k hk => ?_, fun k hk => ?_, fun k hk hkn j hj => ?_, fun k hk => ?_⟩
    · rw [hg k hk]
      split
      · exact h.row i hin
      · rw [clearZ_len (by rw [h.row _ (swp_bd hin htn hk), h.row i hin])]; exact h.row _ (swp_bd hin htn hk)
    · by_cases hkt : k = s.2.length
      · subst hkt; rw [hgt]; exact h.sub i hin
      · obtain ⟨a, b, g, _, hg0, hv, _⟩ := hcl k hk hkt
        exact .comb (a := a) (b := -b) (h.sub _ (swp_bd hin htn hk)) (h.sub i hin) hg0 fun j => by rw [hv j, Int.neg_mul]; omega
    · refine Sp.trans ?_ (h.sup k hk)
      rintro r ⟨p, hp, rfl⟩
      rw [h.len] at hp
      have hmt : rowsOf (stepE c s).1 (vc (s.1.getD i [])) := ⟨s.2.length, by omega, by rw [hgt]⟩
      by_cases hpt : swp i s.2.length p = s.2.length
      · have : p = i := by
          have := congrArg (swp i s.2.length) hpt
          rwa [swp_swp, swp_t] at this
        rw [this]; exact .mem hmt
      · obtain ⟨a, b, g, ha, _, hv, _⟩ := hcl _ (swp_bd hin htn hp) hpt
        simp only [swp_swp] at hv
        exact .comb (a := g) (b := b) (.mem ⟨_, by rw [hl]; exact swp_bd hin htn hp, rfl⟩) (.mem hmt) ha fun j => by have := hv j; omega
    · rw [hPl] at hk
      obtain ⟨a, b, g, _, hg0, hv, hvc⟩ := hcl k hkn (by omega)
      by_cases hjc : j = c
      · subst hjc; exact hvc
      · have h1 := hv j
        rw [h.low _ (swp_ge hi (by omega)) (swp_bd hin htn hkn) j (by omega), h.low i hi hin j (by omega), Int.mul_zero, Int.mul_zero] at h1
        exact (Int.mul_eq_zero.1 h1).resolve_left hg0
    · have hk' := hk
      rw [hPl] at hk'
      by_cases hkt : k < s.2.length
      · obtain ⟨a, b, g, _, hg0, hv, _⟩ := hcl k (by omega) (by omega)
        obtain ⟨h1, h2⟩ := h.lead k hkt
        have e : (stepE c s).2[k] = s.2[k] := by simp only [eP]; exact List.getElem_append_left hkt
        rw [e]
        refine ⟨by omega, fun j hj => ?_⟩
        have h3 := hv j
        rw [swp_lt hi hkt, h2 j hj, h.low i hi hin j (by omega), Int.mul_zero, Int.mul_zero] at h3
        exact (Int.mul_eq_zero.1 h3).resolve_left hg0
      · have hkeq : k = s.2.length := by omega
        have e : (stepE c s).2[k] = c := by simp only [eP]; rw [List.getElem_append_right (by omega)]; simp
        rw [e]
        refine ⟨by omega, fun j hj => ?_⟩
        rw [hkeq, hgt]
        exact h.low i hi hin j hj
theorem EW.all {rows : List (List Int)} {cols : Nat} (hc : ∀ z ∈ rows, z.length = cols) : ∀ c, EW rows rows.length cols c (echW rows c)
  | 0 => .start hc
  | c + 1 => (EW.all hc c).step
theorem sgF_zero {t : Int} (ht : t ≠ 0) : ∀ zs : List Int, sgF t zs = t
  | [] => rfl
  | z :: zs => by
    show sgF (if t = 0 then cZ z 0 else t) zs = t
    rw [if_neg ht]; exact sgF_zero ht zs

theorem sgF_lead : ∀ (z : List Int) (c : Nat), (∀ j, j < c → vc z j = 0) → vc z c ≠ 0 → sgF 0 z = cZ (vc z c) 0
  | [], c, _, h => absurd (vc_ge (by simp)) h
  | x :: z, 0, _, h => by
    have e : vc (x :: z) 0 = x := rfl
    rw [e] at h ⊢
    show sgF (if (0 : Int) = 0 then cZ x 0 else 0) z = _
    rw [if_pos rfl]
    exact sgF_zero (by unfold cZ; split <;> (try split) <;> omega) z
  | x :: z, c + 1, h0, h => by
    have e0 := h0 0 (by omega)
    have e : vc (x :: z) 0 = x := rfl
    rw [e] at e0
    subst e0
    show sgF (if (0 : Int) = 0 then cZ 0 0 else 0) z = _
    rw [if_pos rfl, cZ_eq rfl]
    exact sgF_lead z c (fun j hj => h0 (j + 1) (by omega)) h
theorem upZ_pos {z : List Int} {c : Nat} (h : ∀ j, j < c → vc z j = 0) (hc : vc z c ≠ 0) : 0 < vc (upZ z) c := by
  have hs := sgF_lead z c h hc
  unfold upZ
  by_cases hneg : vc z c < 0
  · rw [hs, cZ_lt hneg, if_pos (by decide), neg_vc]; omega
  · rw [hs, cZ_gt (by omega), if_neg (by decide)]; omega

theorem echT_RE {m : List (List (Bool × List Nat))} {cols B : Nat} (h : Mx m B) (hc : ∀ l ∈ m, l.length = cols) :
    RE (echT (m.map vals) cols) (echW (m.map vals) cols).2 cols ∧ (∀ r, rowsOf (echT (m.map vals) cols) r → Sp (rowsOf (m.map vals)) r) ∧ (∀ r, rowsOf (m.map vals) r → Sp (rowsOf (echT (m.map vals) cols)) r) := by
  have hR := h.rr hc
  have hW := EW.all (rows := m.map vals) (cols := cols) (fun z hz => by
    obtain ⟨l, hl, rfl⟩ := List.mem_map.1 hz
    rw [vals_len]; exact hc l hl) cols
  rw [List.length_map] at hW
  have hle : (echW (m.map vals) cols).2.length ≤ (echW (m.map vals) cols).1.length := by rw [hW.len]; exact hW.tle
  have hget : ∀ i, i < (echW (m.map vals) cols).2.length → (echT (m.map vals) cols).getD i [] = upZ ((echW (m.map vals) cols).1.getD i []) := fun i hi => echT_get hi hle
  have hup : ∀ z : List Int, Sp (fun r => r = vc z) (vc (upZ z)) ∧ Sp (fun r => r = vc (upZ z)) (vc z) := fun z => by
    rcases upZ_cases z with e | e
    · rw [e]; exact ⟨.mem rfl, .mem rfl⟩
    · rw [e]
      exact ⟨(Sp.mem (I := fun r => r = vc z) (r := vc z) rfl).scale (g := 1) (a := -1) (by decide) fun j => by rw [neg_vc]; omega, (Sp.mem (I := fun r => r = vc (z.map (- ·))) (r := vc (z.map (- ·))) rfl).scale (g := 1) (a := -1) (by decide) fun j => by rw [neg_vc]; omega⟩
  refine ⟨⟨hR.len, fun i hi => (hR.row i hi).1, hR.col, hR.inc, hR.piv, hR.prm, fun i hi j hj => ?_, fun i hi => ?_⟩, ?_, ?_⟩
  · rw [hget i hi]
    have := (hW.lead i hi).2 j hj
    rcases upZ_cases ((echW (m.map vals) cols).1.getD i []) with e | e
    · rw [e]; exact this
    · rw [e, neg_vc, this]; rfl
  · rw [hget i hi]
    refine upZ_pos (hW.lead i hi).2 ?_
    have := (hR.piv i i hi hi).2 rfl
    rw [hget i hi] at this
    rcases upZ_cases ((echW (m.map vals) cols).1.getD i []) with e | e
    · rwa [e] at this
    · rw [e, neg_vc] at this; omega
  · rintro r ⟨i, hi, rfl⟩
    rw [hR.len] at hi
    rw [hget i hi]
    exact Sp.trans (fun r hr => by rw [hr]; exact hW.sub i (by have := hW.tle; omega)) (hup _).1
  · rintro r ⟨i, hi, rfl⟩
    refine Sp.trans ?_ (hW.sup i (by simpa using hi))
    rintro r ⟨k, hk, rfl⟩
    by_cases hkt : k < (echW (m.map vals) cols).2.length
    · refine Sp.trans (fun r hr => ?_) (hup _).2
      rw [hr, ← hget k hkt]
      exact .mem ⟨k, by rw [hR.len]; exact hkt, rfl⟩
    · have hkn : k < m.length := by rw [hW.len] at hk; exact hk
      refine .zero fun j => ?_
      by_cases hj : j < cols
      · exact hW.low k (by omega) hkn j hj
      · exact vc_ge (by rw [hW.row k hkn]; omega)

theorem ech_same {m m' : List (List (Bool × List Nat))} {cols B B' : Nat} (h : Mx m B) (h' : Mx m' B') (hc : ∀ l ∈ m, l.length = cols) (hc' : ∀ l ∈ m', l.length = cols)
    (hs : ∀ r, rowsOf (m.map vals) r → Sp (rowsOf (m'.map vals)) r) (hs' : ∀ r, rowsOf (m'.map vals) r → Sp (rowsOf (m.map vals)) r) : echT (m.map vals) cols = echT (m'.map vals) cols ∧ (echW (m.map vals) cols).2 = (echW (m'.map vals) cols).2 := by
  obtain ⟨a1, a2, a3⟩ := echT_RE h hc
  obtain ⟨b1, b2, b3⟩ := echT_RE h' hc'
  exact a1.uniq b1 (fun r hr => (Sp.trans hs (a2 r hr)).trans b3) (fun r hr => (Sp.trans hs' (b2 r hr)).trans a3)
end Go.Proofs.Ytfjdfnlkobeehaa
end
