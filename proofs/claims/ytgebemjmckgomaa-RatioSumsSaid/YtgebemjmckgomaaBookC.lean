/- The laws' book, one list behind the other. -/
import Derived.Test.YtgebemjmckgomaaBookW
set_option maxRecDepth 100000
set_option linter.unusedVariables false
set_option linter.unusedSimpArgs false
namespace Go.Proofs.Ytgebemjmckgomaa

/-- Arrays that are ours and not the book's, and what they hold. -/
structure AV (H : Nat → Option (List PV)) (nx : Nat) (B : Nat → Prop) (L : List (Nat × List PV)) : Prop where
  mem : ∀ x ∈ L, x.1 < nx ∧ ¬ B x.1 ∧ H x.1 = some x.2
  nd : (L.map (·.1)).Nodup
theorem AV.nil {H : Nat → Option (List PV)} {nx : Nat} {B : Nat → Prop} : AV H nx B [] := ⟨fun x hx => by simp at hx, by simp⟩
theorem AV.cons {H : Nat → Option (List PV)} {nx : Nat} {B : Nat → Prop} {L : List (Nat × List PV)} {id : Nat} {cs : List PV} (h : AV H nx B L) (h1 : id < nx) (h2 : ¬ B id) (h3 : H id = some cs) (h4 : ∀ x ∈ L, id ≠ x.1) : AV H nx B ((id, cs) :: L) := by
  refine ⟨fun x hx => ?_, ?_⟩
  · rcases List.mem_cons.1 hx with rfl | hx
    · exact ⟨h1, h2, h3⟩
    · exact h.mem x hx
  · rw [List.map_cons, List.nodup_cons]
    refine ⟨fun hm => ?_, h.nd⟩
    obtain ⟨x, hx, e⟩ := List.mem_map.1 hm
    exact h4 x hx e.symm
theorem AV.tail {H : Nat → Option (List PV)} {nx : Nat} {B : Nat → Prop} {L : List (Nat × List PV)} {x : Nat × List PV} (h : AV H nx B (x :: L)) : AV H nx B L :=
  ⟨fun y hy => h.mem y (List.mem_cons_of_mem _ hy), by have := h.nd; rw [List.map_cons, List.nodup_cons] at this; exact this.2⟩
theorem AV.head {H : Nat → Option (List PV)} {nx id : Nat} {cs : List PV} {B : Nat → Prop} {L : List (Nat × List PV)} (h : AV H nx B ((id, cs) :: L)) : H id = some cs := (h.mem _ (List.mem_cons_self ..)).2.2
theorem AV.mono {H H' : Nat → Option (List PV)} {nx nx' : Nat} {B : Nat → Prop} {L : List (Nat × List PV)} (h : AV H nx B L) (hn : nx ≤ nx') (hf : ∀ j, j < nx → ¬ B j → H' j = H j) : AV H' nx' B L :=
  ⟨fun x hx => by obtain ⟨a, b, c⟩ := h.mem x hx; exact ⟨Nat.lt_of_lt_of_le a hn, b, (hf _ a b).trans c⟩, h.nd⟩
/-- What an entry into the book leaves. -/
def avQ (nx idb : Nat) (es : List (Nat × Nat × Nat)) (L : List (Nat × List PV)) (r : PV) (H' : Nat → Option (List PV)) (nx' : Nat) : Prop :=
  r = .val (.bool true) ∧ ∃ B' e, BK H' nx' idb (es ++ [e]) B' ∧ AV H' nx' B' L
theorem own_step {H H' : Nat → Option (List PV)} {nx nx' idb : Nat} {es : List (Nat × Nat × Nat)} {B : Nat → Prop} {id cap : Nat} {cells : List PV} {L : List (Nat × List PV)} {r : PV} (hA : AV H nx B ((id, cells) :: L)) (hn : nx ≤ nx')
    (h : ownQ H nx idb es B id cap r H' nx') : avQ nx idb es L r H' nx' := by
  obtain ⟨hr, B', hB, hb, hF⟩ := h
  refine ⟨hr, B', _, hB, fun x hx => ?_, hA.tail.nd⟩
  obtain ⟨h1, h2, h3⟩ := hA.mem x (List.mem_cons_of_mem _ hx)
  have hne : x.1 ≠ id := fun e => by
    have := hA.nd
    rw [List.map_cons, List.nodup_cons] at this
    exact this.1 (List.mem_map.2 ⟨x, hx, e⟩)
  exact ⟨Nat.lt_of_lt_of_le h1 hn, fun hB' => by rcases hb _ hB' with h | h | h; exact h2 h; exact hne h; omega, (hF _ h2 hne h1).trans h3⟩
theorem PCalls.monoN {P : Program} {f : FuncId} {args : List PV} {H : Nat → Option (List PV)} {nx : Nat} {Q Q' : PV → (Nat → Option (List PV)) → Nat → Prop}
    (h : PCalls P f args H nx Q) (hq : ∀ r H' nx', nx ≤ nx' → Q r H' nx' → Q' r H' nx') : PCalls P f args H nx Q' := ⟨h.1, fun w vs ρ A0 h1 h2 h3 =>
  (h.2 w vs ρ A0 h1 h2 h3).mono fun _ _ ⟨v, r, H', nx', ρ', he, hQ, hn, rest⟩ => ⟨v, r, H', nx', ρ', he, hq _ _ _ hn hQ, hn, rest⟩⟩
/-- A number's list is entered. -/
theorem ownw_av {H : Nat → Option (List PV)} {nx idb : Nat} {es : List (Nat × Nat × Nat)} {B : Nat → Prop} {id n cap : Nat} {cells : List PV} {b : Bool} {L : List (Nat × List PV)} (hA : AV H nx B ((id, cells) :: L)) (hB : BK H nx idb es B) (hes : es.length ≤ 100000)
    (hlen : cells.length = cap) (hn : n ≤ cap) : PCalls Try.prog 49 [.ptr idb 0, .agg [.val (.bool b), .ref id 0 n cap 1]] H nx (avQ nx idb es L) := by
  obtain ⟨h1, h2, h3⟩ := hA.mem _ (List.mem_cons_self ..)
  exact PCalls.monoN (ownw_calls (b := b) hB hes h2 h1 h3 hlen hn) fun r H' d hd h => own_step hA hd h
/-- A list of limbs is entered. -/
theorem own_av {H : Nat → Option (List PV)} {nx idb : Nat} {es : List (Nat × Nat × Nat)} {B : Nat → Prop} {id n cap : Nat} {cells : List PV} {L : List (Nat × List PV)} (hA : AV H nx B ((id, cells) :: L)) (hB : BK H nx idb es B) (hes : es.length ≤ 100000)
    (hlen : cells.length = cap) (hn : n ≤ cap) : PCalls Try.prog 91 [.ptr idb 0, .ref id 0 n cap 1] H nx (avQ nx idb es L) := by
  obtain ⟨h1, h2, h3⟩ := hA.mem _ (List.mem_cons_self ..)
  exact PCalls.monoN (own_calls hB hes h2 h1 h3 hlen hn) fun r H' d hd h => own_step hA hd h
end Go.Proofs.Ytgebemjmckgomaa
