/- Part 37 of the way to the statement: the walk and what it needs. -/
import Derived.Test.YtfjdfnlkobeehaaKReF3
import Derived.Test.YtfjdfnlkobeehaaKReF36
section
set_option linter.unusedVariables false
set_option linter.unusedSimpArgs false
namespace Go.Proofs.Ytfjdfnlkobeehaa


end Go.Proofs.Ytfjdfnlkobeehaa
end

section
set_option linter.unusedVariables false
set_option linter.unusedSimpArgs false
namespace Go.Proofs.Ytfjdfnlkobeehaa


theorem swp_swp {i t k : Nat} : swp i t (swp i t k) = k := by
  unfold swp
  by_cases h1 : k = i
  · subst h1
    rw [if_pos rfl]
    by_cases h2 : t = k
    · rw [if_pos h2]; exact h2
    · rw [if_neg h2, if_pos rfl]
  · rw [if_neg h1]
    by_cases h2 : k = t
    · subst h2; rw [if_pos rfl, if_pos rfl]
    · rw [if_neg h2, if_neg h1, if_neg h2]

theorem sgF_zero {t : Int} (ht : t ≠ 0) : ∀ zs : List Int, sgF t zs = t
  | [] => rfl
  | z :: zs => by
    show sgF (if t = 0 then cZ z 0 else t) zs = t
    rw [if_neg ht]; exact sgF_zero ht zs

end Go.Proofs.Ytfjdfnlkobeehaa
end

section
set_option maxRecDepth 100000
set_option linter.unusedVariables false
set_option linter.unusedSimpArgs false
namespace Go.Proofs.Ytfjdfnlkobeehaa

theorem combZ_z {a b : Int} {i j : Nat} : ∀ {z p : List Int}, Z j a → Z i b → (∀ x ∈ z, Z i x) → (∀ x ∈ p, Z j x) → ∀ x ∈ combZ a b z p, Z (i + j + 1) x
  | [], _, _, _, _, _ => fun x hx => by simp [combZ] at hx
  | _ :: _, [], _, _, _, _ => fun x hx => by simp [combZ] at hx
  | z :: zs, p :: ps, ha, hb, hz, hp => fun x hx => by
    have e : combZ a b (z :: zs) (p :: ps) = (a * z - b * p) :: combZ a b zs ps := rfl
    rw [e] at hx
    rcases List.mem_cons.1 hx with rfl | hx
    · have h1 := ha.mul (hz z (List.mem_cons_self ..))
      rw [Nat.add_comm] at h1
      exact h1.sub (hb.mul (hp p (List.mem_cons_self ..)))
    · exact combZ_z ha hb (fun y hy => hz y (List.mem_cons_of_mem _ hy)) (fun y hy => hp y (List.mem_cons_of_mem _ hy)) x hx
theorem vc_z {z : List Int} {k : Nat} (h : ∀ x ∈ z, Z k x) (j : Nat) : Z k (vc z j) := by
  by_cases hj : j < z.length
  · rw [vc_lt hj]; exact h _ (List.getElem_mem hj)
  · rw [vc_ge (by omega)]; exact Z.zero k
def insW (T : List (List Int)) (Pv : List Nat) (v : List Int) : Nat → List Int
  | 0 => v
  | k + 1 => clearZ (insW T Pv v k) (T.getD k []) (Pv.getD k 0)
def insB (T : List (List Int)) (Pv : List Nat) (v : List Int) : Bool := zeroB (insW T Pv v Pv.length)
section
variable {e : List (List (Bool × List Nat))} {Pv : List Nat} {v : List (Bool × List Nat)} {cols j k : Nat}
theorem getD_vals {i : Nat} (h : i < e.length) : (e.map vals).getD i [] = vals (e.getD i []) := by simp [h]
end
end Go.Proofs.Ytfjdfnlkobeehaa

namespace Go.Proofs.Ytfjdfnlkobeehaa


end Go.Proofs.Ytfjdfnlkobeehaa

namespace Go.Proofs.Ytfjdfnlkobeehaa


end Go.Proofs.Ytfjdfnlkobeehaa

namespace Go.Proofs.Ytfjdfnlkobeehaa

end Go.Proofs.Ytfjdfnlkobeehaa

namespace Go.Proofs.Ytfjdfnlkobeehaa

end Go.Proofs.Ytfjdfnlkobeehaa

namespace Go.Proofs.Ytfjdfnlkobeehaa

end Go.Proofs.Ytfjdfnlkobeehaa

namespace Go.Proofs.Ytfjdfnlkobeehaa


end Go.Proofs.Ytfjdfnlkobeehaa

namespace Go.Proofs.Ytfjdfnlkobeehaa

end Go.Proofs.Ytfjdfnlkobeehaa

namespace Go.Proofs.Ytfjdfnlkobeehaa

end Go.Proofs.Ytfjdfnlkobeehaa
end

section
set_option linter.unusedVariables false
set_option linter.unusedSimpArgs false
namespace Go.Proofs.Ytfjdfnlkobeehaa


def rw0 (W : List (List Int)) : Nat → Vc := fun i => vc (W.getD i [])

def detZ (W : List (List Int)) (n : Nat) : Int := dt (List.range n) ((List.range n).map (rw0 W))
def brow (last : Int) (c : Nat) (p z : List Int) : List Int := z.mapIdx fun k x => if k ≤ c then x else (x * vc p c - vc z c * vc p k) / last
def bstep (last : Int) (c : Nat) (W : List (List Int)) : List (List Int) := W.mapIdx fun i z => if i ≤ c then z else brow last c (W.getD c []) z
def barW (W0 : List (List Int)) : Nat → Option (List (List Int) × Int × Bool)
  | 0 => some (W0, 1, false)
  | c + 1 => match barW W0 c with
    | none => none
    | some (W, last, t) => if findP W c c < W.length then some (bstep last c (swapL W c (findP W c c)), vc ((swapL W c (findP W c c)).getD c []) c, xor t (decide (findP W c c ≠ c))) else none
def barD (W0 : List (List Int)) (n : Nat) : Int := match barW W0 n with
  | none => 0
  | some (_, last, t) => if t then -last else last
theorem brow_len (last : Int) (c : Nat) (p z : List Int) : (brow last c p z).length = z.length := by simp [brow]
theorem brow_vc {last : Int} {c : Nat} {p z : List Int} {k : Nat} (h : k < z.length) : vc (brow last c p z) k = if k ≤ c then vc z k else (vc z k * vc p c - vc z c * vc p k) / last := by
  rw [vc_lt (by rw [brow_len]; exact h), vc_lt h]
  simp [brow]
theorem bstep_get {last : Int} {c i : Nat} {W : List (List Int)} (h : i < W.length) : (bstep last c W).getD i [] = if i ≤ c then W.getD i [] else brow last c (W.getD c []) (W.getD i []) := by
  simp [bstep, h, List.getD_eq_getElem?_getD]

structure BI (W0 : List (List Int)) (n c : Nat) (β B : Nat) (W : List (List Int)) (last : Int) (t : Bool) : Prop where
  len : W.length = n
  row : ∀ i, i < n → (W.getD i []).length = n
  st : ∃ (O : Nat → Vc) (κ : Nat → Nat), (∀ cs, dt cs ((List.range n).map (rw0 W0)) = (if t then -1 else 1) * dt cs ((List.range n).map O)) ∧ (∀ i, i < n → ∃ j, j < n ∧ rw0 W0 i = O j) ∧
    last = DD O c ∧ (∀ j, j ≤ c → DD O j ≠ 0) ∧ (∀ i, c ≤ i → i < n → ∀ k, c ≤ k → k < n → vc (W.getD i []) k = NN O c (O i) k) ∧
    (∀ k, k < n → ∀ j, (O k j).natAbs ≤ β ^ κ k) ∧ sz κ n ≤ B
end Go.Proofs.Ytfjdfnlkobeehaa
end
