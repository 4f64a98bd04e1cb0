/- Part 27 of the way to the statement: the walk and what it needs. -/
import Derived.Test.YtfjdfnlkobeehaaKDeF20
import Derived.Test.YtfjdfnlkobeehaaKDeF22
import Derived.Carry
import Derived.ProofKit
import Derived.OpenShut
import Derived.ShutString
import Derived.ChangeOld
import Derived.SizedLaws
section
set_option linter.unusedVariables false
set_option linter.unusedSimpArgs false
namespace Go.Proofs.Ytfjdfnlkobeehaa
open Go.ChangeShapes Go.WideShapes Go.ChangeAt Go.RowKit

variable {P : Program}


abbrev E0 (w : World) : En := enOf (fun _ => False) w (fun _ => 0) (fun _ => none) (fun _ => none) 0

theorem law_run {f : FuncId} {args : List PV} {Q : PV → Prop} (h : PT P f args Q) {w : World} {vs : List Value} (hr : RepL (E0 w) args vs) :
    Calls P f vs.toArray w fun e w' => (∃ v r, e = .returned v ∧ Q r ∧ ∀ x, r = .val x → v = x) ∧ Below w.heap.size w w' := by
  have hno : ∀ b, ¬ OwnB (fun _ => 0) (fun _ => none) (fun _ => none) b := by
    rintro b ⟨i, ⟨cs, hcs, _⟩ | hi, _⟩
    · simp at hcs
    · simp at hi
  have hown : OwnOK (fun _ => False) (fun _ => False) w (fun _ => 0) (fun _ => none) (fun _ => none) 0 :=
    ⟨fun i hi => by simp at hi, fun i cs hi => by simp at hi, fun i j hi => by rcases hi with ⟨cs, hcs, _⟩ | hi <;> simp at *,
      fun i cs hi => by simp at hi, fun i s p hi => by simp at hi, fun i hi => by rcases hi with ⟨cs, hcs, _⟩ | hi <;> simp at *⟩
  refine (h.2 w vs (fun _ => 0) (fun _ => False) (fun _ h => h.elim) hown hr).mono ?_
  rintro e w' ⟨v, r, H', nx', ρ', rfl, ⟨_, hq⟩, _, _, _, hrep, hframe, hsize, hsw⟩
  refine ⟨⟨v, r, rfl, hq, fun x hx => ?_⟩, hsw.1, hsw.2.1, hsw.2.2, hsize, fun k hk => hframe k hk (hno k)⟩
  subst hx
  simpa [Rep] using hrep

section
variable {H : Type} {enc : TypeId × Value → H} {w : World} {base : Nat}


theorem arg_int {t : TypeId} {k : IntKind} {b0 : Nat} {v : Value} {d : DataW H} {p : List MemPlace} (ht : P.underlying t = some (.int k)) (hv : Value.okWide P w .any b0 t v) (hd : DataW.Trod enc P w 0 (fun _ => true) true t v d p) :
    ∃ z, k.min ≤ z ∧ z ≤ k.max ∧ Rep (E0 w) (.val (.int k z)) v := by
  obtain ⟨z, rfl, _, _, hw⟩ := open_int ht hv hd
  have hw : (decide (k.min ≤ z) && decide (z ≤ k.max)) = true := hw
  have h2 : k.min ≤ z ∧ z ≤ k.max := by simpa using hw
  exact ⟨z, h2.1, h2.2, by simp [Rep]⟩


end

end Go.Proofs.Ytfjdfnlkobeehaa
end
