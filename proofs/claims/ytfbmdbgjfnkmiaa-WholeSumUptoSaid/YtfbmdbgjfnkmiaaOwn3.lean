/- Appending to lists of our own whose elements take several cells. Program independent. -/
import Derived.Test.YtfbmdbgjfnkmiaaNil
set_option linter.unusedVariables false
set_option linter.unusedSimpArgs false
namespace Go.Proofs.Ytfbmdbgjfnkmiaa

variable {P : Program}

/-- append to a list of our own, elements of sz cells. -/
theorem append_ownS {st : PS} {t t' e : TypeId} {b id n cap m sz : Nat} {z : List Value} {cs ys : List PV} {rest : List Value} {y : PV} {K : PV → PS → Prop} (he : elemT P t = some e) (he' : (elemT P t').isSome = true) (hsz : sizeT P e = some sz) (hb : bytesT P e = some b)
    (hz : zeroT P e = some z) (hzl : z.length = sz) (hs : srcP st.H sz y = some (m, ys)) (hone : ys.all oneP = true) (hH : st.H id = some (cs ++ rest.map .val)) (hn : cs.length = n * sz) (hc : n * sz + rest.length = cap * sz) (hm : ys.length = m * sz)
    (hbig : (n + m) * b ≤ 140737488355328 ∧ n + m ≤ 140737488355328)
    (hk : ∀ (id' cap' : Nat) (rest' : List Value) (H' : Nat → Option (List PV)) (nx' : Nat), H' id' = some ((cs ++ ys) ++ List.map PV.val rest') → (n + m) * sz + rest'.length = cap' * sz → (id' = id ∨ id' = st.nx) → (id' = id ∧ nx' = st.nx ∨ nx' = st.nx + 1) → (∀ j, j ≠ id → j ≠ st.nx → H' j = st.H j) → (id' ≠ id → H' id = st.H id) → K (.ref id' 0 (n + m) cap' sz) (st.withH H' nx')) :
    pAppend P st t t' (.ref id 0 n cap sz) y K := by
  have hadd : (n + m) * sz = n * sz + m * sz := Nat.add_mul ..
  have ecs : ((cs ++ List.map PV.val rest).drop 0).take (n * sz) = cs := by
    rw [List.drop_zero, ← hn, List.take_left]
  refine ⟨e, he, he', sz, hsz, b, hb, z, hz, hzl, m, ys, hs, hone, cs ++ rest.map .val, hH, by simp; omega, hbig.1, hbig.2, fun h => ?_, fun h cap' rest' h1 h2 h3 => ?_⟩
  · have hle : (n + m) * sz ≤ cap * sz := Nat.mul_le_mul_right _ h
    refine ⟨by simp; omega, ?_⟩
    refine hk id cap (rest.drop (m * sz)) (upd st.H id (some (spl (cs ++ rest.map .val) (0 + n * sz) ys))) st.nx ?_ ?_ (.inl rfl) (.inl ⟨rfl, rfl⟩) (fun j hj _ => upd_ne _ _ hj) (fun h => absurd rfl h)
    · rw [upd_self]
      have : spl (cs ++ rest.map .val) (0 + n * sz) ys = cs ++ ys ++ (rest.drop (m * sz)).map .val := by
        unfold spl
        have e1 : (cs ++ List.map PV.val rest).take (0 + n * sz) = cs := by
          rw [Nat.zero_add, ← hn, List.take_left]
        have e2 : (cs ++ List.map PV.val rest).drop (0 + n * sz + ys.length) = (rest.drop (m * sz)).map .val := by
          rw [Nat.zero_add, ← hn, hm, List.drop_append]
          simp
        rw [e1, e2, List.append_assoc]
      rw [this]
    · rw [List.length_drop]; omega
  · have hcap' : (n + m) * sz + (cap' - (n + m)) * sz = cap' * sz := by rw [← Nat.add_mul]; congr 1; omega
    refine hk st.nx cap' rest' (upd st.H st.nx (some ((((cs ++ rest.map PV.val).drop 0).take (n * sz) ++ ys) ++ rest'.map PV.val))) (st.nx + 1) ?_ (by omega) (.inr rfl) (.inr rfl) (fun j _ hj => upd_ne _ _ hj) (fun hne => upd_ne _ _ (Ne.symm hne))
    rw [upd_self, ecs]

/-- append to nil. -/
theorem append_nilS {st : PS} {t t' e : TypeId} {b m sz : Nat} {z : List Value} {ys : List PV} {y : PV} {K : PV → PS → Prop} (he : elemT P t = some e) (he' : (elemT P t').isSome = true) (hsz : sizeT P e = some sz) (hb : bytesT P e = some b)
    (hz : zeroT P e = some z) (hzl : z.length = sz) (hs : srcP st.H sz y = some (m, ys)) (hone : ys.all oneP = true) (hbig : m * b ≤ 140737488355328 ∧ m ≤ 140737488355328)
    (h0 : m = 0 → K (.val (.slice none 0 0)) st) (hk : ∀ (cap' : Nat) (rest' : List Value), m * sz + List.length rest' = cap' * sz → 0 < m → K (.ref st.nx 0 m cap' sz) (st.withH (upd st.H st.nx (some (ys ++ List.map PV.val rest'))) (st.nx + 1))) :
    pAppend P st t t' (.val (.slice none 0 0)) y K := by
  refine ⟨e, he, he', sz, hsz, b, hb, z, hz, hzl, m, ys, hs, hone, hbig.1, hbig.2, h0, fun h cap' rest' h1 h2 h3 => hk cap' rest' ?_ h⟩
  rw [h3, ← Nat.add_mul]; congr 1; omega
/-- A nil slice in a slot is taken for a list of our own. -/
theorem Gh.nilW {st : PS} (t sz : Nat) (ht : st.sl t = .val (.slice none 0 0)) : Gh st ((st.put (some t) (.ref st.nx 0 0 0 sz)).withH (upd st.H st.nx (some [])) (st.nx + 1)) := Gh.nil t sz ht
end Go.Proofs.Ytfbmdbgjfnkmiaa
