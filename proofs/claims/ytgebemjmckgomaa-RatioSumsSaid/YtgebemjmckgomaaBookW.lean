/- The laws' book, for whole numbers. -/
import Derived.Test.YtgebemjmckgomaaBook2
import Derived.Test.YtgebemjmckgomaaWholeB
set_option maxRecDepth 100000
set_option linter.unusedVariables false
set_option linter.unusedSimpArgs false
namespace Go.Proofs.Ytgebemjmckgomaa

theorem BK.mono {H H' : Nat → Option (List PV)} {nx nx' idb : Nat} {es : List (Nat × Nat × Nat)} {B : Nat → Prop} (h : BK H nx idb es B) (hn : nx ≤ nx') (hf : ∀ j, j < nx → H' j = H j) : BK H' nx' idb es B := by
  refine ⟨h.self, fun j hj => Nat.lt_of_lt_of_le (h.lt j hj) hn, fun i e he => ?_, ?_⟩
  · obtain ⟨p1, p2, p3, r, p4⟩ := h.mem i e he
    exact ⟨p1, p2, p3, r, by rw [hf _ (h.lt _ p1)]; exact p4⟩
  · rcases h.top with ⟨he, h0⟩ | ⟨he, idl, capl, restl, idm, capm, restm, g1, g2, g3, g4, g5, g6, g7, g8, g9, g10, g11⟩
    · exact .inl ⟨he, by rw [hf _ (h.lt _ h.self)]; exact h0⟩
    · exact .inr ⟨he, idl, capl, restl, idm, capm, restm, g1, g2, g3, g4, g5, g6, by rw [hf _ (h.lt _ h.self)]; exact g7, by rw [hf _ (h.lt _ g4)]; exact g8, g9, by rw [hf _ (h.lt _ g5)]; exact g10, g11⟩
theorem BK.start {H : Nat → Option (List PV)} {nx idb : Nat} (h : H idb = some [.val (.slice none 0 0), .val (.slice none 0 0)]) (hn : idb < nx) : BK H nx idb [] (fun j => j = idb) :=
  ⟨rfl, fun j hj => hj ▸ hn, fun i e he => by simp at he, .inl ⟨rfl, h⟩⟩
theorem ownw_calls {H : Nat → Option (List PV)} {nx idb : Nat} {es : List (Nat × Nat × Nat)} {B : Nat → Prop} {id n cap : Nat} {cells : List PV} {b : Bool} (hB : BK H nx idb es B) (hes : es.length ≤ 100000) (hid : ¬ B id) (hidn : id < nx)
    (hc0 : H id = some cells) (hlen : cells.length = cap) (hn : n ≤ cap) : PCalls Try.prog 49 [.ptr idb 0, .agg [.val (.bool b), .ref id 0 n cap 1]] H nx (ownQ H nx idb es B id cap) := by
  have hB2 := hB.mono (H' := upd H nx (some [.val (.bool b), .ref id 0 n cap 1])) (nx' := nx + 1) (by omega) (fun j hj => upd_ne _ _ (by omega))
  have hc1 : upd H nx (some [.val (.bool b), .ref id 0 n cap 1]) id = some cells := by rw [upd_ne _ _ (by omega)]; exact hc0
  have ho := own_calls hB2 hes hid (by omega) hc1 hlen hn
  refine PCalls.enter (n := 9) (rs := [.tmp 4]) (tb := []) Try.func49 rfl rfl rfl (by kernel_rfl) (by kernel_rfl) (by simp) fun c hc ht => ?_
  simp -implicitDefEqProofs (disch := omega) only [go_sem, ht, eq_self]
  apply pCall_mem
  exact ho
  rintro _ H6 n6 ⟨rfl, B1, hB6, hB6', hF6⟩ hn6
  simp -implicitDefEqProofs (disch := omega) only [go_sem, ht, eq_self]
  refine end_plain (by simp -implicitDefEqProofs (disch := omega) only [go_sem, ht, eq_self] <;> rfl) ?_
  simp only [tupP_1]
  refine ⟨rfl, B1, ?_, fun j hj => ?_, fun j h1 h2 h3 => ?_⟩
  · simp -implicitDefEqProofs (disch := omega) only [go_sem, ht, eq_self]
    exact hB6
  · rcases hB6' j hj with h | h | h
    · exact .inl h
    · exact .inr (.inl h)
    · exact .inr (.inr (by omega))
  · simp -implicitDefEqProofs (disch := omega) only [go_sem, ht, eq_self]
    rw [hF6 j h1 h2 (by omega), upd_ne _ _ (by omega)]
end Go.Proofs.Ytgebemjmckgomaa
