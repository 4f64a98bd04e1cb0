/- Go's library: strings.Cut at one byte, by the kit's shelf. -/
import Derived.Shelf.Strings.Search2
import Derived.Test.YtgebemjmckgomaaWholeT
set_option maxRecDepth 100000
set_option linter.unusedVariables false
set_option linter.unusedSimpArgs false
namespace Go.Proofs.Ytgebemjmckgomaa
def Try.lays219_ren : Go.Shelf.Ren := ⟨fun | 219 => 137 | 217 => 138 | 225 => 139 | 224 => 140 | 267 => 141 | 266 => 142 | 314 => 143 | n => n, fun | 9 => 9 | 3 => 3 | 4 => 4 | 5 => 5 | 46 => 119 | 146 => 146 | 51 => 39 | n => n, fun | 1 => 0 | n => n⟩
theorem Try.lays219 : Go.Proofs.Lays.n219 Try.prog Try.lays219_ren := {
  mixed := by kernel_rfl
  f217 := Try.func138.trans (congrArg some (by kernel_rfl))
  f219 := Try.func137.trans (congrArg some (by kernel_rfl))
  f224 := Try.func140.trans (congrArg some (by kernel_rfl))
  f225 := Try.func139.trans (congrArg some (by kernel_rfl))
  f266 := Try.func142.trans (congrArg some (by kernel_rfl))
  f267 := Try.func141.trans (congrArg some (by kernel_rfl))
  f314 := Try.func143.trans (congrArg some (by kernel_rfl))
  t3 := Try.underlying3
  a3 := Try.isAgg3
  z3 := Try.sizeOf3
  v3 := Try.zeroValue3
  t4 := Try.underlying4
  a4 := Try.isAgg4
  z4 := Try.sizeOf4
  v4 := Try.zeroValue4
  t5 := Try.underlying5
  a5 := Try.isAgg5
  z5 := Try.sizeOf5
  v5 := Try.zeroValue5
  t9 := Try.underlying9
  a9 := Try.isAgg9
  z9 := Try.sizeOf9
  v9 := Try.zeroValue9
  t46 := Try.underlying119
  a46 := Try.isAgg119
  z46 := Try.sizeOf119
  v46 := Try.zeroValue119
  t51 := Try.underlying39
  a51 := Try.isAgg39
  z51 := Try.sizeOf39
  v51 := Try.zeroValue39
  t146 := Try.underlying146
  a146 := Try.isAgg146
  z146 := Try.sizeOf146
  v146 := Try.zeroValue146
  g1 := by kernel_rfl }
variable {P : Program}

/-- A call that leaves the world alone and answers a plain value. -/
theorem PT.pure {f : FuncId} {args : List PV} {x : Value} (hok : okFn P f = true) (h : ∀ (E : En) (vs : List Value) (w : World), RepL E args vs → Calls P f vs.toArray w fun e w' => e = .returned x ∧ w' = w) : PT P f args (isV (.val x)) := by
  refine ⟨hok, fun w vs ρ A0 h1 h2 h3 => (h _ vs w h3).mono ?_⟩
  rintro e w' ⟨rfl, rfl⟩
  refine ⟨x, .val x, fun _ => none, 0, ρ, rfl, ⟨rfl, rfl⟩, Nat.le_refl _, fun _ _ => rfl, ?_, rfl, fun _ _ _ => rfl, Nat.le_refl _, Sw.refl _⟩
  have hl : ∀ i, ¬ Live (fun _ => none) (fun _ => none) i := by
    rintro i (⟨cs, hc, hne⟩ | hi)
    · simp at hc
    · exact hi rfl
  exact ⟨fun i hi => by simp at hi, fun i cs hc => by simp at hc, fun i j hi => absurd hi (hl i), fun i cs hc => by simp at hc, fun i s p hi => by simp at hi, fun i hi => absurd hi (hl i)⟩
theorem index_one {s : ByteArray} {c : UInt8} : PT Try.prog 137 [.val (.string s), .val (.string ⟨#[c]⟩)] (isV (.val (.int .i64 (Lib.indexByte s.data.toList c)))) := by
  refine PT.pure (by kernel_rfl) fun E vs w hr => ?_
  obtain ⟨v1, vs1, rfl, e1, hr⟩ : ∃ v1 vs1, vs = v1 :: vs1 ∧ Rep E (.val (.string s)) v1 ∧ RepL E [.val (.string ⟨#[c]⟩)] vs1 := by
    cases vs with
    | nil => exact absurd hr (by simp [RepL])
    | cons v1 vs1 => exact ⟨v1, vs1, rfl, hr.1, hr.2⟩
  obtain ⟨v2, vs2, rfl, e2, hr⟩ : ∃ v1 vs2, vs1 = v1 :: vs2 ∧ Rep E (.val (.string ⟨#[c]⟩)) v1 ∧ RepL E [] vs2 := by
    cases vs1 with
    | nil => exact absurd hr (by simp [RepL])
    | cons v1 vs1 => exact ⟨v1, vs1, rfl, hr.1, hr.2⟩
  cases vs2 with
  | cons _ _ => exact absurd hr (by simp [RepL])
  | nil =>
  simp only [Rep] at e1 e2
  subst e1 e2
  exact Any.stringslite_Index_one Try.lays219 s c w

/-- Where the first stroke stands, or the end. -/
structure Sl (s : ByteArray) (o : Nat) : Prop where
  le : o ≤ s.size
  no : ∀ k, k < o → s[k]? ≠ some 47
  yes : o < s.size → s[o]? = some 47
theorem list_get (s : ByteArray) (k : Nat) : s.data.toList[k]? = s[k]? := by
  by_cases h : k < s.size
  · have h' : k < s.data.toList.length := by simpa using h
    rw [List.getElem?_eq_getElem h']
    simp [h]; rfl
  · have h' : s.data.toList.length ≤ k := by simp; omega
    rw [List.getElem?_eq_none h']
    simp [h]
theorem Sl.index {s : ByteArray} {o : Nat} (h : Sl s o) : Lib.indexByte s.data.toList 47 = if o < s.size then (o : Int) else -1 := by
  by_cases hi : Lib.indexByte s.data.toList 47 = -1
  · have hno := Lib.indexByte_none hi
    rw [if_neg, hi]
    intro ho
    have := hno o
    rw [list_get] at this
    exact this (h.yes ho)
  · have hge := Lib.indexByte_ge s.data.toList 47
    obtain ⟨i, ei⟩ : ∃ i : Nat, Lib.indexByte s.data.toList 47 = i := ⟨(Lib.indexByte s.data.toList 47).toNat, by omega⟩
    obtain ⟨h1, h2⟩ := Lib.indexByte_some ei
    rw [list_get] at h1
    have hlt : i < s.size := by
      rcases Nat.lt_or_ge i s.size with h | h
      · exact h
      · rw [← list_get, List.getElem?_eq_none (by simp; omega)] at h1; simp at h1
    have e : i = o := by
      rcases Nat.lt_trichotomy i o with hl | hl | hl
      · exact absurd h1 (h.no i hl)
      · exact hl
      · have := h2 o hl
        rw [list_get] at this
        exact absurd (h.yes (by omega)) this
    rw [ei, e, if_pos (by omega)]
theorem Sl.ex (s : ByteArray) : ∃ o, Sl s o := by
  by_cases hi : Lib.indexByte s.data.toList 47 = -1
  · refine ⟨s.size, Nat.le_refl _, fun k _ => ?_, fun h => absurd h (by omega)⟩
    rw [← list_get]; exact Lib.indexByte_none hi k
  · have hge := Lib.indexByte_ge s.data.toList 47
    obtain ⟨i, ei⟩ : ∃ i : Nat, Lib.indexByte s.data.toList 47 = i := ⟨(Lib.indexByte s.data.toList 47).toNat, by omega⟩
    obtain ⟨h1, h2⟩ := Lib.indexByte_some ei
    rw [list_get] at h1
    have hlt : i < s.size := by
      rcases Nat.lt_or_ge i s.size with h | h
      · exact h
      · rw [← list_get, List.getElem?_eq_none (by simp; omega)] at h1; simp at h1
    exact ⟨i, by omega, fun k hk => by rw [← list_get]; exact h2 k hk, fun _ => h1⟩
/-- What Cut tells. -/
def cutP (s : ByteArray) (o : Nat) : PV := if o < s.size then .tup [.val (.string (s.extract 0 o)), .val (.string (s.extract (o + 1) s.size)), .val (.bool true)] else .tup [.val (.string s), .val (.string ⟨#[]⟩), .val (.bool false)]
theorem lcut_calls {s : ByteArray} {o : Nat} (h : Sl s o) (hs : s.size ≤ 140737488351232) : PT Try.prog 124 [.val (.string s), .val (.string ⟨#[47]⟩)] (isV (cutP s o)) := by
  have hi := index_one (s := s) (c := 47)
  rw [h.index] at hi
  have h47 : (⟨#[47]⟩ : ByteArray).size = 1 := rfl
  unfold cutP
  have hle := h.le
  by_cases ho : o < s.size
  · rw [if_pos ho] at hi ⊢
    refine PCalls.enter (n := 23) (rs := [.tmp 4, .tmp 5, .tmp 6]) (tb := [(3, [(0, []), (1, []), (2, []), (3, []), (4, []), (5, []), (6, []), (7, []), (8, []), (9, []), (10, []), (11, [])]), (1000003, [(0, []), (0, []), (3, []), (0, []), (0, []), (0, []), (32, []), (112, []), (248, []), (7, []), (1023, []), (2047, [])])]) Try.func124 rfl rfl rfl (by kernel_rfl) (by kernel_rfl) (by simp) fun c hc ht => ?_
    simp -implicitDefEqProofs (disch := omega) only [go_sem, ht, eq_self]
    ((refine pCall_view (by simp -implicitDefEqProofs (disch := omega) only [h47, go_sem, ht, eq_self] <;> rfl) (by simp -implicitDefEqProofs (disch := omega) only [h47, go_sem, ht, eq_self]) (by first | (apply Or.inl; simp -implicitDefEqProofs (disch := omega) only [h47, go_sem, ht, eq_self]; done) | (apply Or.inr; rintro r rfl; rfl)) (hi) ?_; rintro _ nx_1 - rfl hnx_1; (try simp only [put_nx, withH_nx, begP_nx] at hnx_1); simp -implicitDefEqProofs (disch := omega) only [h47, go_sem, ht, eq_self]))
    (refine end_treeN 2 ?_; simp -implicitDefEqProofs (disch := omega) only [go_sem, ht, eq_self])
  · rw [if_neg ho] at hi ⊢
    refine PCalls.enter (n := 23) (rs := [.tmp 4, .tmp 5, .tmp 6]) (tb := [(3, [(0, []), (1, []), (2, []), (3, []), (4, []), (5, []), (6, []), (7, []), (8, []), (9, []), (10, []), (11, [])]), (1000003, [(0, []), (0, []), (3, []), (0, []), (0, []), (0, []), (32, []), (112, []), (248, []), (7, []), (1023, []), (2047, [])])]) Try.func124 rfl rfl rfl (by kernel_rfl) (by kernel_rfl) (by simp) fun c hc ht => ?_
    simp -implicitDefEqProofs (disch := omega) only [go_sem, ht, eq_self]
    ((refine pCall_view (by simp -implicitDefEqProofs (disch := omega) only [h47, go_sem, ht, eq_self] <;> rfl) (by simp -implicitDefEqProofs (disch := omega) only [h47, go_sem, ht, eq_self]) (by first | (apply Or.inl; simp -implicitDefEqProofs (disch := omega) only [h47, go_sem, ht, eq_self]; done) | (apply Or.inr; rintro r rfl; rfl)) (hi) ?_; rintro _ nx_2 - rfl hnx_2; (try simp only [put_nx, withH_nx, begP_nx] at hnx_2); simp -implicitDefEqProofs (disch := omega) only [h47, go_sem, ht, eq_self]))
    (refine end_treeN 2 ?_; simp -implicitDefEqProofs (disch := omega) only [go_sem, ht, eq_self])
theorem cut_calls {s : ByteArray} {o : Nat} (h : Sl s o) (hs : s.size ≤ 140737488351232) : PT Try.prog 98 [.val (.string s), .val (.string ⟨#[47]⟩)] (isV (cutP s o)) := by
  have hi := lcut_calls h hs
  unfold cutP at *
  by_cases ho : o < s.size
  · rw [if_pos ho] at hi ⊢
    refine PCalls.enter (n := 13) (rs := [.tmp 4, .tmp 5, .tmp 6]) (tb := []) Try.func98 rfl rfl rfl (by kernel_rfl) (by kernel_rfl) (by simp) fun c hc ht => ?_
    simp -implicitDefEqProofs (disch := omega) only [go_sem, ht, eq_self]
    ((refine pCall_view (by simp -implicitDefEqProofs (disch := omega) only [go_sem, ht, eq_self] <;> rfl) (by simp -implicitDefEqProofs (disch := omega) only [go_sem, ht, eq_self]) (by first | (apply Or.inl; simp -implicitDefEqProofs (disch := omega) only [go_sem, ht, eq_self]; done) | (apply Or.inr; rintro r rfl; rfl)) (hi) ?_; rintro _ nx_3 - rfl hnx_3; (try simp only [put_nx, withH_nx, begP_nx] at hnx_3); simp -implicitDefEqProofs (disch := omega) only [go_sem, ht, eq_self]))
    (refine end_treeN 2 ?_; simp -implicitDefEqProofs (disch := omega) only [go_sem, ht, eq_self])
  · rw [if_neg ho] at hi ⊢
    refine PCalls.enter (n := 13) (rs := [.tmp 4, .tmp 5, .tmp 6]) (tb := []) Try.func98 rfl rfl rfl (by kernel_rfl) (by kernel_rfl) (by simp) fun c hc ht => ?_
    simp -implicitDefEqProofs (disch := omega) only [go_sem, ht, eq_self]
    ((refine pCall_view (by simp -implicitDefEqProofs (disch := omega) only [go_sem, ht, eq_self] <;> rfl) (by simp -implicitDefEqProofs (disch := omega) only [go_sem, ht, eq_self]) (by first | (apply Or.inl; simp -implicitDefEqProofs (disch := omega) only [go_sem, ht, eq_self]; done) | (apply Or.inr; rintro r rfl; rfl)) (hi) ?_; rintro _ nx_4 - rfl hnx_4; (try simp only [put_nx, withH_nx, begP_nx] at hnx_4); simp -implicitDefEqProofs (disch := omega) only [go_sem, ht, eq_self]))
    (refine end_treeN 2 ?_; simp -implicitDefEqProofs (disch := omega) only [go_sem, ht, eq_self])
end Go.Proofs.Ytgebemjmckgomaa
