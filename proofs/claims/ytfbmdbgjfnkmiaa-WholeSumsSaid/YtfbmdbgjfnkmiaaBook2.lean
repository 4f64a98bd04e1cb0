/- What the laws' book tells at the end. -/
import Derived.Test.YtfbmdbgjfnkmiaaBook
set_option maxRecDepth 100000
set_option linter.unusedVariables false
set_option linter.unusedSimpArgs false
namespace Go.Proofs.Ytfbmdbgjfnkmiaa

theorem bkCells_get {es : List (Nat × Nat × Nat)} {i : Nat} {e : Nat × Nat × Nat} (l : List PV) (h : es[i]? = some e) : (bkCells es ++ l)[i]? = some (.ref e.1 0 e.2.1 e.2.2 1) := by
  have hi : i < es.length := (List.getElem?_eq_some_iff.1 h).1
  rw [List.getElem?_append_left (by rw [bkCells_len]; exact hi)]
  unfold bkCells
  rw [List.getElem?_map, h]; rfl
theorem repl_get {n m k : Nat} (h : k < n) : (List.replicate n m).getD k 0 = m := by
  rw [List.getD_eq_getElem?_getD, List.getElem?_replicate, if_pos h]; rfl

theorem done_calls {H : Nat → Option (List PV)} {nx idb : Nat} {es : List (Nat × Nat × Nat)} {B : Nat → Prop} (hB : BK H nx idb es B) (hes : es.length ≤ 1000) :
    PCalls Try.prog 22 [.ptr idb 0] H nx (memQ (.val (.bool true)) H nx) := by
  rcases hB.top with ⟨he, hH0⟩ | ⟨he, idl, capl, restl, idm, capm, restm, g1, g2, g3, g4, g5, g6, g7, g8, g9, g10, g11⟩
  · refine PCalls.enter (n := 44) (rs := [.tmp 2]) (tb := [(7, [(0, []), (1, []), (2, []), (3, []), (4, []), (5, []), (6, []), (7, []), (8, []), (9, []), (10, []), (11, []), (12, []), (13, []), (14, []), (15, []), (16, []), (17, [])]), (1000007, [(0, []), (1, []), (3, []), (7, []), (0, []), (31, []), (63, []), (0, []), (255, []), (511, []), (0, []), (1024, []), (3072, []), (7168, []), (0, []), (31744, []), (64512, []), (131071, [])])]) Try.func22 rfl rfl rfl (by kernel_rfl) (by kernel_rfl) (by simp) fun c hc ht => ?_
    simp -implicitDefEqProofs (disch := omega) only [go_sem, ht, eq_self]
    refine LW.loopW hc ht (by kernel_rfl) (fun t => t.sl 0 = .ptr idb 0 ∧ t.H = H ∧ t.nx = nx ∧ t.sl 3 = .val (.int .i64 0)) (fun _ => 0) ?_ ?_
    · simp -implicitDefEqProofs (disch := omega) only [go_sem, ht, eq_self]
    · rintro t ⟨h0, eH, en, h3⟩
      simp -implicitDefEqProofs (disch := omega) only [go_sem, ht, h0, eH, en, h3, hH0, eq_self]
      (refine end_plain (by simp -implicitDefEqProofs (disch := omega) only [eH, en, go_sem, ht, eq_self] <;> rfl) ?_; simp only [tupP_1, tupP_2]; refine ⟨?_, ?_, ?_⟩ <;> try simp -implicitDefEqProofs (disch := omega) only [eH, en, go_sem, ht, eq_self])
  · refine PCalls.enter (n := 44) (rs := [.tmp 2]) (tb := [(7, [(0, []), (1, []), (2, []), (3, []), (4, []), (5, []), (6, []), (7, []), (8, []), (9, []), (10, []), (11, []), (12, []), (13, []), (14, []), (15, []), (16, []), (17, [])]), (1000007, [(0, []), (1, []), (3, []), (7, []), (0, []), (31, []), (63, []), (0, []), (255, []), (511, []), (0, []), (1024, []), (3072, []), (7168, []), (0, []), (31744, []), (64512, []), (131071, [])])]) Try.func22 rfl rfl rfl (by kernel_rfl) (by kernel_rfl) (by simp) fun c hc ht => ?_
    simp -implicitDefEqProofs (disch := omega) only [go_sem, ht, eq_self]
    refine LW.loopW hc ht (by kernel_rfl) (fun t => t.sl 0 = .ptr idb 0 ∧ t.H = H ∧ t.nx = nx ∧ ∃ i : Nat, i ≤ es.length ∧ t.sl 3 = .val (.int .i64 i)) (fun t => match t.sl 3 with | .val (.int _ i) => es.length - i.toNat | _ => 0) ?_ ?_
    · simp -implicitDefEqProofs (disch := omega) only [go_sem, ht, eq_self]
      exact ⟨0, Nat.zero_le _, rfl⟩
    · rintro t ⟨h0, eH, en, i, hi, h3⟩
      by_cases hil : i = es.length
      · simp -implicitDefEqProofs (disch := omega) only [go_sem, ht, h0, eH, en, h3, g7, eq_self]
        (refine end_plain (by simp -implicitDefEqProofs (disch := omega) only [eH, en, go_sem, ht, eq_self] <;> rfl) ?_; simp only [tupP_1, tupP_2]; refine ⟨?_, ?_, ?_⟩ <;> try simp -implicitDefEqProofs (disch := omega) only [eH, en, go_sem, ht, eq_self])
      · obtain ⟨e, hei⟩ : ∃ e, es[i]? = some e := ⟨_, List.getElem?_eq_getElem (by omega)⟩
        obtain ⟨p1, p2, p3, rest, p4⟩ := hB.mem i e hei
        have hgi := bkCells_get (List.map PV.val restl) hei
        have hmi := bkMarks_get (n := es.length) (i := i) (by omega)
        simp -implicitDefEqProofs (disch := omega) only [go_sem, ht, h0, eH, en, h3, g7, g8, g10, eq_self]
        refine LW.loopW hc ht (by kernel_rfl) (fun s => s.sl 0 = .ptr idb 0 ∧ s.H = H ∧ s.nx = nx ∧ s.sl 3 = .val (.int .i64 i) ∧ ∃ k : Nat, k ≤ e.2.1 ∧ s.sl 4 = .val (.int .i64 k)) (fun s => match s.sl 4 with | .val (.int _ k) => e.2.1 - k.toNat | _ => 0) ?_ ?_
        · simp -implicitDefEqProofs (disch := omega) only [go_sem, ht, h0, eH, en, h3, eq_self]
          exact ⟨0, Nat.zero_le _, rfl⟩
        · clear h0 eH en
          rintro s ⟨h0, eH, en, h3', k, hk, h4⟩
          by_cases hkn : k = e.2.1
          · simp -implicitDefEqProofs (disch := omega) only [go_sem, ht, h0, eH, en, h3', h4, g7, g8, hgi, eq_self]
            exact ⟨⟨i + 1, by omega, rfl⟩, by first | omega | (simp only [h3]; omega)⟩
          · have hlr : (List.replicate e.2.1 (mkB i)).length = e.2.1 := List.length_replicate
            have hml := bkMarks_len es.length
            have hgk := repl_get (n := e.2.1) (m := mkB i) (k := k) (by omega)
            simp -implicitDefEqProofs (disch := omega) only [go_sem, ht, h0, eH, en, h3', h4, g7, g8, g10, hgi, p4, hgk, hmi, eq_self]
            exact ⟨⟨k + 1, by omega, rfl⟩, by omega⟩
end Go.Proofs.Ytfbmdbgjfnkmiaa
