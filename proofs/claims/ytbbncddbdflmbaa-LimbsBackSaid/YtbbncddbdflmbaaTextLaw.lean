/- The plain law of texts. No program here. -/
import Derived.Test.YtbbncddbdflmbaaParse
set_option linter.unusedVariables false
set_option linter.unusedSimpArgs false
namespace Go.Proofs.Ytbbncddbdflmbaa

theorem bsize (l : List UInt8) : (⟨l.toArray⟩ : ByteArray).size = l.length := by simp [ByteArray.size]
theorem bget0 (b : UInt8) (l : List UInt8) : (⟨(b :: l).toArray⟩ : ByteArray)[0]? = some b := by
  rw [getElem?_pos (⟨(b :: l).toArray⟩ : ByteArray) 0 (by rw [bsize]; simp)]; rfl
theorem bext (b : UInt8) (l : List UInt8) : (⟨(b :: l).toArray⟩ : ByteArray).extract 1 (l.length + 1) = ⟨l.toArray⟩ := by
  apply ByteArray.ext
  simp [ByteArray.data_extract]
theorem bself (s : ByteArray) : s = ⟨s.data.toList.toArray⟩ := by cases s; simp
theorem beq_str (x y : ByteArray) (h : x = y) : (x.toList == y.toList) = true := by subst h; exact beq_self_eq_true _

theorem dig_of {b : UInt8} (h : isDg b = true) : 48 ≤ b.toNat ∧ b.toNat ≤ 57 := by simpa [isDg] using h
theorem digs_ten {m d : Nat} (hd : d < 10) (h : 0 < 10 * m + d) : digs (10 * m + d) = d :: digs m := by
  rw [digs_pos (by omega)]
  congr 1
  · omega
  · congr 1; omega
theorem digs_dv : ∀ (n : Nat) (l : List UInt8), l.length = n → l ≠ [] → l.all isDg = true → l.head? ≠ some 48 → digs (dv l) = (l.map fun b => b.toNat - 48).reverse ∧ dv l ≠ 0
  | 0, l, h, hne, _, _ => absurd (List.eq_nil_of_length_eq_zero h) hne
  | n + 1, l, h, hne, hall, hh => by
    obtain ⟨k, b, rfl⟩ : ∃ k b, l = k ++ [b] := ⟨l.dropLast, l.getLast hne, (List.dropLast_concat_getLast hne).symm⟩
    rw [List.all_append, Bool.and_eq_true] at hall
    have hb := dig_of (b := b) (by simpa using hall.2)
    rw [dv_app]
    by_cases hk : k = []
    · subst hk
      have hb0 : b ≠ 48 := by simpa using hh
      have hb1 : b.toNat ≠ 48 := fun e => hb0 (by
        have : b.toNat = (48 : UInt8).toNat := by rw [e]; rfl
        exact UInt8.toNat_inj.1 this)
      rw [dv_nil]
      refine ⟨?_, by omega⟩
      rw [digs_ten (by omega) (by omega), digs_zero]; rfl
    · have hh' : k.head? ≠ some 48 := by
        cases k with
        | nil => exact absurd rfl hk
        | cons x k => simpa using hh
      obtain ⟨h1, h2⟩ := digs_dv n k (by simpa using h) hk hall.1 hh'
      refine ⟨?_, by omega⟩
      rw [digs_ten (by omega) (by omega), h1]; simp
theorem undig : ∀ (l : List UInt8), l.all isDg = true → (((l.map fun b => b.toNat - 48)).map dig).map UInt8.ofNat = l
  | [], _ => rfl
  | b :: l, h => by
    rw [List.all_cons, Bool.and_eq_true] at h
    have hb := dig_of h.1
    simp only [List.map_cons]
    rw [undig l h.2]
    congr 1
    unfold dig
    rw [show 48 + (b.toNat - 48) = b.toNat by omega]
    exact UInt8.ofNat_toNat
theorem txt_dv {l : List UInt8} (hne : l ≠ []) (hall : l.all isDg = true) (h : l.length = 1 ∨ l.head? ≠ some 48) : txt (dv l) = ⟨l.toArray⟩ := by
  by_cases hh : l.head? = some 48
  · have hl : l.length = 1 := h.resolve_right (fun h => h hh)
    obtain ⟨b, rfl⟩ := List.length_eq_one_iff.1 hl
    have : b = 48 := by simpa using hh
    subst this
    rfl
  · obtain ⟨h1, h2⟩ := digs_dv _ l rfl hne hall hh
    rw [txt_pos h2, h1]
    simp only [List.map_reverse, List.reverse_reverse]
    rw [undig l hall]
theorem dv_lt : ∀ (n : Nat) (l : List UInt8), l.length = n → l.all isDg = true → dv l < 10 ^ n
  | 0, l, h, _ => by
    have : l = [] := List.eq_nil_of_length_eq_zero h
    subst this; exact Nat.one_pos
  | n + 1, l, h, hall => by
    have hne : l ≠ [] := fun e => by subst e; simp at h
    obtain ⟨k, b, rfl⟩ : ∃ k b, l = k ++ [b] := ⟨l.dropLast, l.getLast hne, (List.dropLast_concat_getLast hne).symm⟩
    rw [List.all_append, Bool.and_eq_true] at hall
    have hb := dig_of (b := b) (by simpa using hall.2)
    have := dv_lt n k (by simpa using h) hall.1
    rw [dv_app, Nat.pow_succ]
    omega
theorem dv_ok {l : List UInt8} (hall : l.all isDg = true) (h : l.length ≤ 1099511627776) : Ok (D (dv l)) :=
  .D (Nat.lt_of_lt_of_le (dv_lt _ l rfl hall) (Nat.pow_le_pow_left (by decide) _)) h
theorem dv_digs (n : Nat) : dv ((((digs n).map dig).reverse).map UInt8.ofNat) = n := by
  induction n using Nat.strongRecOn with
  | _ n ih =>
    by_cases h : n = 0
    · subst h; rw [digs_zero]; rfl
    · rw [digs_pos h, List.map_cons, List.reverse_cons, List.map_append, List.map_cons, List.map_nil, dv_app, ih _ (by omega)]
      have : (UInt8.ofNat (dig (n % 10))).toNat = 48 + n % 10 := by
        unfold dig
        rw [UInt8.toNat_ofNat']; omega
      rw [this]; omega
theorem all_digs (n : Nat) : ((((digs n).map dig).reverse).map UInt8.ofNat).all isDg = true := by
  rw [List.all_eq_true]
  intro x hx
  obtain ⟨y, hy, rfl⟩ := List.mem_map.1 hx
  obtain ⟨z, hz, rfl⟩ := List.mem_map.1 (List.mem_reverse.1 hy)
  have := digs_lt n z hz
  have e : (UInt8.ofNat (dig z)).toNat = 48 + z := by
    unfold dig
    rw [UInt8.toNat_ofNat']; omega
  simp [isDg, e]; omega
theorem txt_size {n : Nat} (h : n ≠ 0) : (txt n).size = (digs n).length := by
  rw [txt_pos h, bsize]; simp
theorem txt_parse {n : Nat} (h : (digs n).length ≤ 5120) : parseP (txt n) = (n, 0) := by
  by_cases h0 : n = 0
  · subst h0; rfl
  · have hs := txt_size h0
    have hp : (digs n).length ≠ 0 := by rw [digs_pos h0]; simp
    unfold parseP
    rw [if_neg (by omega), if_neg (by omega), txt_pos h0]
    simp only []
    rw [if_pos (all_digs n), dv_digs]
end Go.Proofs.Ytbbncddbdflmbaa
