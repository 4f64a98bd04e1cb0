/- Texts of whole numbers, written and read again. -/
import Derived.Test.YtgebemjmckgomaaWhole7
set_option maxRecDepth 100000
set_option linter.unusedVariables false
set_option linter.unusedSimpArgs false
namespace Go.Proofs.Ytgebemjmckgomaa

theorem decode_low (b : UInt8) (l : List UInt8) (h : b.toNat < 128) : (Utf8.decode ⟨(b :: l).toArray⟩ 0).1 = b.toNat := by
  have e : (⟨(b :: l).toArray⟩ : ByteArray).get! 0 = b := by simp [ByteArray.get!]
  unfold Utf8.decode
  simp only [Nat.add_zero, e]
  rw [if_pos h]
theorem decode_u2212 (l : List UInt8) : (Utf8.decode ⟨(226 :: 136 :: 146 :: l).toArray⟩ 0).1 = 8722 := by
  have e0 : (⟨((226 : UInt8) :: 136 :: 146 :: l).toArray⟩ : ByteArray).get! 0 = 226 := by simp [ByteArray.get!]
  have e1 : (⟨((226 : UInt8) :: 136 :: 146 :: l).toArray⟩ : ByteArray).get! 1 = 136 := by simp [ByteArray.get!]
  have e2 : (⟨((226 : UInt8) :: 136 :: 146 :: l).toArray⟩ : ByteArray).get! 2 = 146 := by simp [ByteArray.get!]
  have es : (⟨((226 : UInt8) :: 136 :: 146 :: l).toArray⟩ : ByteArray).size = l.length + 3 := by rw [bsize]; simp
  unfold Utf8.decode
  simp only [Nat.add_zero, Nat.zero_add, e0, e1, e2, es]
  have h1 : decide (1 < l.length + 3) = true := by simp
  have h2 : decide (2 < l.length + 3) = true := by simp
  simp only [h1, h2]
  rfl
/-- A natural's digits as bytes. -/
def dgB (n : Nat) : List UInt8 := (txt n).data.toList
theorem dgB_all (n : Nat) : (dgB n).all isDg = true := by
  unfold dgB
  by_cases h : n = 0
  · subst h; rfl
  · rw [txt_pos h]; simpa using all_digs n
theorem dgB_ne (n : Nat) : dgB n ≠ [] := by
  unfold dgB
  by_cases h : n = 0
  · subst h; simp [txt]
  · rw [txt_pos h, digs_pos h]; simp
theorem txt_dgB (n : Nat) : txt n = ⟨(dgB n).toArray⟩ := by unfold dgB; cases txt n; simp
theorem dgB_cons (n : Nat) : ∃ b l, dgB n = b :: l ∧ 48 ≤ b.toNat ∧ b.toNat ≤ 57 := by
  have h1 := dgB_all n
  have h2 := dgB_ne n
  cases h : dgB n with
  | nil => exact absurd h h2
  | cons b l =>
    rw [h] at h1
    simp only [List.all_cons, Bool.and_eq_true] at h1
    exact ⟨b, l, rfl, dig_of h1.1⟩
theorem mlen_txt (n : Nat) : mlen (txt n) = 0 := by
  obtain ⟨b, l, h, h1, h2⟩ := dgB_cons n
  rw [txt_dgB, h]
  have := decode_low b l (by omega)
  unfold mlen
  rw [this]
  rw [if_neg (by rw [bsize]; simp), if_neg (by omega), if_neg (by omega)]
theorem mlen_minus (l : List UInt8) : mlen ⟨(45 :: l).toArray⟩ = 1 := by
  have := decode_low 45 l (by decide)
  unfold mlen
  rw [this, if_neg (by rw [bsize]; simp), if_pos (by decide)]
theorem mlen_u2212 (l : List UInt8) : mlen ⟨(226 :: 136 :: 146 :: l).toArray⟩ = 3 := by
  unfold mlen
  rw [decode_u2212, if_neg (by rw [bsize]; simp), if_neg (by decide), if_pos rfl]
theorem bext3 (a b d : UInt8) (l : List UInt8) : (⟨(a :: b :: d :: l).toArray⟩ : ByteArray).extract 3 (l.length + 3) = ⟨l.toArray⟩ := by
  apply ByteArray.ext
  simp [ByteArray.data_extract]
theorem wtxt_neg {z : Int} (h : z < 0) : wtxt z = ⟨(45 :: dgB z.natAbs).toArray⟩ := by
  unfold wtxt
  rw [if_pos h, txt_dgB]
  apply ByteArray.ext
  simp
theorem wtxt_pos {z : Int} (h : ¬ z < 0) : wtxt z = txt z.natAbs := if_neg h
theorem wparse_wtxt {z : Int} (h : (digs z.natAbs).length ≤ 5120) : wparseP (wtxt z) = (z, 0) := by
  have hp := txt_parse h
  by_cases hz : z < 0
  · rw [wtxt_neg hz]
    unfold wparseP
    rw [mlen_minus, bsize, List.length_cons, bext, ← txt_dgB, hp]
    simp [sg]; omega
  · rw [wtxt_pos hz]
    unfold wparseP
    rw [mlen_txt, ext_all, hp]
    simp [sg]; omega
theorem wparse_u2212 {z : Int} (h : (digs z.natAbs).length ≤ 5120) (hz : z < 0) : wparseP (⟨#[226, 136, 146]⟩ ++ (wtxt z).extract 1 (wtxt z).size) = (z, 0) := by
  have hp := txt_parse h
  rw [wtxt_neg hz, bsize, List.length_cons, bext]
  have e : (⟨#[226, 136, 146]⟩ : ByteArray) ++ ⟨(dgB z.natAbs).toArray⟩ = ⟨(226 :: 136 :: 146 :: dgB z.natAbs).toArray⟩ := by
    apply ByteArray.ext
    simp
  rw [e]
  unfold wparseP
  rw [mlen_u2212, bsize]
  simp only [List.length_cons]
  rw [bext3, ← txt_dgB, hp]
  simp [sg]; omega
end Go.Proofs.Ytgebemjmckgomaa
