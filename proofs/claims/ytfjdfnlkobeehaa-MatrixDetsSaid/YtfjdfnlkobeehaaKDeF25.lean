/- Part 25 of the way to the statement: the walk and what it needs. -/
import Derived.Test.YtfjdfnlkobeehaaKDeF21
import Derived.Laws.RangeAny
section
set_option linter.unusedVariables false
set_option linter.unusedSimpArgs false
namespace Go.Proofs.Ytfjdfnlkobeehaa

def PS.withIt (st : PS) (it : Nat → Option (ByteArray × Nat)) : PS := { st with it := it }
theorem withIt_sl (st : PS) (it : Nat → Option (ByteArray × Nat)) : (st.withIt it).sl = st.sl := rfl
theorem withIt_H (st : PS) (it : Nat → Option (ByteArray × Nat)) : (st.withIt it).H = st.H := rfl
theorem withIt_nx (st : PS) (it : Nat → Option (ByteArray × Nat)) : (st.withIt it).nx = st.nx := rfl
theorem withIt_it (st : PS) (it : Nat → Option (ByteArray × Nat)) : (st.withIt it).it = it := rfl

def nextO (st : PS) (id : Nat) (K : PV → PS → Prop) (o : Option (ByteArray × Nat)) : Prop :=
  ∃ s pos, o = some (s, pos) ∧
    ((pos < s.size → K (.tup [.val (.bool true), .val (.int .i64 pos), .val (.int .i32 (Utf8.decode s pos).1)]) { st with it := upd st.it id (some (s, pos + (Utf8.decode s pos).2)) }) ∧
     (s.size ≤ pos → K (.tup [.val (.bool false)]) st))
theorem pNext_ptr (st : PS) (id : Nat) (K : PV → PS → Prop) : pNext st (.ptr id 0) K = nextO st id K (st.it id) := by
  unfold pNext nextO
  apply propext
  constructor
  · rintro ⟨i, e, h⟩
    cases e
    exact h
  · intro h; exact ⟨id, rfl, h⟩
theorem nextO_lt {st : PS} {id : Nat} {K : PV → PS → Prop} {s : ByteArray} {pos : Nat} (h : pos < s.size) :
    nextO st id K (some (s, pos)) = K (.tup [.val (.bool true), .val (.int .i64 pos), .val (.int .i32 (Utf8.decode s pos).1)]) (st.withIt (upd st.it id (some (s, pos + (Utf8.decode s pos).2)))) := by
  unfold nextO
  apply propext
  constructor
  · rintro ⟨s', p', e, h1, _⟩
    cases e
    exact h1 h
  · intro hk
    exact ⟨s, pos, rfl, fun _ => hk, fun h' => absurd h' (Nat.not_le.2 h)⟩
theorem nextO_ge {st : PS} {id : Nat} {K : PV → PS → Prop} {s : ByteArray} {pos : Nat} (h : s.size ≤ pos) :
    nextO st id K (some (s, pos)) = K (.tup [.val (.bool false)]) st := by
  unfold nextO
  apply propext
  constructor
  · rintro ⟨s', p', e, _, h1⟩
    cases e
    exact h1 h
  · intro hk
    exact ⟨s, pos, rfl, fun h' => absurd h (Nat.not_le.2 h'), fun _ => hk⟩
@[congr] theorem nextO_congr {st : PS} {id : Nat} {K : PV → PS → Prop} {o o' : Option (ByteArray × Nat)} (h : o = o') : nextO st id K o = nextO st id K o' := by rw [h]
attribute [go_sem] withIt_sl withIt_H withIt_nx withIt_it pNext_ptr nextO_lt nextO_ge
end Go.Proofs.Ytfjdfnlkobeehaa
end
