/- The laws' book and lenders, for fractions. -/
import Derived.Test.YtgebemjmckgomaaBookC
import Derived.Test.YtgebemjmckgomaaLender
import Derived.Test.YtgebemjmckgomaaRatio3
set_option maxRecDepth 100000
set_option linter.unusedVariables false
set_option linter.unusedSimpArgs false
namespace Go.Proofs.Ytgebemjmckgomaa

def avQ2 (nx idb : Nat) (es : List (Nat × Nat × Nat)) (L : List (Nat × List PV)) (r : PV) (H' : Nat → Option (List PV)) (nx' : Nat) : Prop :=
  r = .val (.bool true) ∧ ∃ B' e e', BK H' nx' idb (es ++ [e] ++ [e']) B' ∧ AV H' nx' B' L
theorem ownr_av {H : Nat → Option (List PV)} {nx idb : Nat} {es : List (Nat × Nat × Nat)} {B : Nat → Prop} {id n cap id2 n2 cap2 : Nat} {cells cells2 : List PV} {b : Bool} {L : List (Nat × List PV)} (hA : AV H nx B ((id, cells) :: (id2, cells2) :: L)) (hB : BK H nx idb es B) (hes : es.length ≤ 99999)
    (hlen : cells.length = cap) (hn : n ≤ cap) (hlen2 : cells2.length = cap2) (hn2 : n2 ≤ cap2) : PCalls Try.prog 48 [.ptr idb 0, .agg [.val (.bool b), .ref id 0 n cap 1, .ref id2 0 n2 cap2 1]] H nx (avQ2 nx idb es L) := by
  have hBn := hB.lt
  have hA1 : AV (upd H nx (some [.val (.bool b), .ref id 0 n cap 1, .ref id2 0 n2 cap2 1])) (nx + 1) B ((id, cells) :: (id2, cells2) :: (nx, [.val (.bool b), .ref id 0 n cap 1, .ref id2 0 n2 cap2 1]) :: L) := by
    have h1 := hA.mono (H' := upd H nx (some [.val (.bool b), .ref id 0 n cap 1, .ref id2 0 n2 cap2 1])) (nx' := nx + 1) (by omega) (fun j hj _ => upd_ne _ _ (by omega))
    have hm := hA.mem
    have hnd := hA.nd
    refine AV.cons (AV.cons (AV.cons h1.tail.tail (by omega) (fun h => by have := hBn _ h; omega) (upd_self _ _ _) ?_) ?_ ?_ ?_ ?_) ?_ ?_ ?_ ?_
    · intro x hx e
      have := (hm x (List.mem_cons_of_mem _ (List.mem_cons_of_mem _ hx))).1
      omega
    · exact (h1.mem _ (List.mem_cons_of_mem _ (List.mem_cons_self ..))).1
    · exact (h1.mem _ (List.mem_cons_of_mem _ (List.mem_cons_self ..))).2.1
    · exact (h1.mem _ (List.mem_cons_of_mem _ (List.mem_cons_self ..))).2.2
    · intro x hx
      rcases List.mem_cons.1 hx with rfl | hx
      · have := (hm (id2, cells2) (List.mem_cons_of_mem _ (List.mem_cons_self ..))).1
        simp only at this ⊢; omega
      · intro e
        rw [List.map_cons, List.map_cons, List.nodup_cons, List.nodup_cons] at hnd
        exact hnd.2.1 (List.mem_map.2 ⟨x, hx, e.symm⟩)
    · exact (h1.mem _ (List.mem_cons_self ..)).1
    · exact (h1.mem _ (List.mem_cons_self ..)).2.1
    · exact (h1.mem _ (List.mem_cons_self ..)).2.2
    · intro x hx
      rw [List.map_cons, List.map_cons, List.nodup_cons, List.nodup_cons] at hnd
      rcases List.mem_cons.1 hx with rfl | hx
      · exact fun e => hnd.1 (by simp only at e; rw [e]; exact List.mem_cons_self ..)
      rcases List.mem_cons.1 hx with rfl | hx
      · have := (hm (id, cells) (List.mem_cons_self ..)).1
        simp only at this ⊢; omega
      · intro e
        exact hnd.1 (List.mem_cons_of_mem _ (List.mem_map.2 ⟨x, hx, e.symm⟩))
  have hB1 := hB.mono (H' := upd H nx (some [.val (.bool b), .ref id 0 n cap 1, .ref id2 0 n2 cap2 1])) (nx' := nx + 1) (by omega) (fun j hj => upd_ne _ _ (by omega))
  have hcall := own_av (n := n) hA1 hB1 (by omega) hlen hn
  refine PCalls.enter (n := 16) (rs := [.tmp 4]) (tb := []) Try.func48 rfl rfl rfl (by kernel_rfl) (by kernel_rfl) (by simp) fun c hc ht => ?_
  simp -implicitDefEqProofs (disch := omega) only [go_sem, ht, eq_self]
  apply pCall_mem
  exact hcall
  rintro _ H6 n6 ⟨rfl, B6, e6, hbk6, hav6⟩ hn6
  have hc6 := hav6.tail.head
  simp -implicitDefEqProofs (disch := omega) only [go_sem, ht, hc6, eq_self]
  apply pCall_mem
  exact own_av (n := n2) (B := B6) (by simp -implicitDefEqProofs (disch := omega) only [go_sem, ht, eq_self]; exact hav6) (by simp -implicitDefEqProofs (disch := omega) only [go_sem, ht, eq_self]; exact hbk6) (by simp; omega) hlen2 hn2
  rintro _ H7 n7 ⟨rfl, B7, e7, hbk7, hav7⟩ hn7
  simp -implicitDefEqProofs (disch := omega) only [go_sem, ht, eq_self]
  refine end_plain (by simp -implicitDefEqProofs (disch := omega) only [go_sem, ht, eq_self] <;> rfl) ?_
  simp only [tupP_1]
  exact ⟨rfl, B7, e6, e7, by simp -implicitDefEqProofs (disch := omega) only [go_sem, ht, eq_self]; exact hbk7, by simp -implicitDefEqProofs (disch := omega) only [go_sem, ht, eq_self]; exact hav7.tail⟩
/-- What a fraction that is lent leaves. -/
def lent2Q (H : Nat → Option (List PV)) (nx ida idb : Nat) (b : Bool) (xs ds : List Nat) (r : PV) (H' : Nat → Option (List PV)) (nx' : Nat) : Prop :=
  ∃ i1 i2, nx ≤ i1 ∧ i1 < i2 ∧ i2 < nx' ∧ r = .agg [.val (.bool b), .ref i1 5 xs.length (xs.length + 5) 1, .ref i2 5 ds.length (ds.length + 5) 1] ∧
    H' ida = some [.ref i1 0 (xs.length + 10) (xs.length + 10) 1, .val (.int .i64 xs.length)] ∧ H' i1 = some ((lent xs).map U) ∧
    H' idb = some [.ref i2 0 (ds.length + 10) (ds.length + 10) 1, .val (.int .i64 ds.length)] ∧ H' i2 = some ((lent ds).map U) ∧ ∀ j, j < nx → j ≠ ida → j ≠ idb → H' j = H j
theorem lent2_calls {H : Nat → Option (List PV)} {nx ida idb : Nat} {b : Bool} {xs ds : List Nat} (hx : Lm xs) (hl : xs.length ≤ 1500) (hd : Lm ds) (hl2 : ds.length ≤ 1500) (hHa : H ida = some [.val (.slice none 0 0), .val (.int .i64 0)]) (hHb : H idb = some [.val (.slice none 0 0), .val (.int .i64 0)])
    (hida : ida < nx) (hidb : idb < nx) (hne : ida ≠ idb) : PCalls Try.prog 37 [FX b xs ds, .ptr ida 0, .ptr idb 0] H nx (lent2Q H nx ida idb b xs ds) := by
  refine PCalls.enter (n := 21) (rs := [.cell 6 28]) (tb := [(1, [(0, []), (1, []), (2, []), (3, []), (4, []), (5, []), (6, []), (9, []), (10, []), (11, []), (7, [0, 1, 2, 9, 10, 11]), (8, []), (12, [0, 1, 2, 8]), (13, []), (14, [])]), (1000001, [(0, []), (1, []), (3, []), (0, []), (0, []), (16, []), (48, []), (120, []), (255, []), (0, []), (0, []), (1024, []), (3832, []), (8191, []), (16383, [])])]) Try.func37 rfl rfl rfl (by kernel_rfl) (by kernel_rfl) (by simp) fun c hc ht => ?_
  simp -implicitDefEqProofs (disch := omega) only [go_sem, ht, eq_self]
  apply pCall_mem
  exact lend_calls hx hl (by simp -implicitDefEqProofs (disch := omega) only [go_sem, ht, hHa, eq_self]) (by simp -implicitDefEqProofs (disch := omega) only [go_sem, ht, eq_self] <;> omega)
  rintro _ H1 n1 ⟨i1, hi1, hi1', rfl, hA1, hA2, hA3⟩ hn1
  simp only [put_nx, withH_nx, begP_nx] at hi1 hn1
  have hA0 : H1 nx = some [.val (.bool b), .sl xs.length (xs.map U), .sl ds.length (ds.map U)] := by rw [hA3 _ (by omega) (by omega)]; simp -implicitDefEqProofs (disch := omega) only [go_sem, ht, eq_self]
  have hAb : H1 idb = some [.val (.slice none 0 0), .val (.int .i64 0)] := by rw [hA3 _ (by omega) (by omega)]; simp -implicitDefEqProofs (disch := omega) only [go_sem, ht, hHb, eq_self]
  have hAF : ∀ j, j < nx → j ≠ ida → H1 j = H j := fun j hj hj' => by rw [hA3 _ (by omega) (by omega)]; simp -implicitDefEqProofs (disch := omega) only [go_sem, ht, eq_self]
  have hAr : H1 (nx + 1) = some [.val (.bool false), .val (.slice none 0 0), .val (.slice none 0 0)] := by rw [hA3 _ (by omega) (by omega)]; simp -implicitDefEqProofs (disch := omega) only [go_sem, ht, eq_self]
  clear hA3
  simp -implicitDefEqProofs (disch := omega) only [go_sem, ht, hA0, eq_self]
  apply pCall_mem
  exact lend_calls hd hl2 (by simp -implicitDefEqProofs (disch := omega) only [go_sem, ht, hAb, eq_self]) (by simp -implicitDefEqProofs (disch := omega) only [go_sem, ht, eq_self] <;> omega)
  rintro _ H2 n2 ⟨i2, hi2, hi2', rfl, hB1, hB2, hB3⟩ hn2
  simp only [put_nx, withH_nx, begP_nx] at hi2 hn2
  have hB0 : H2 ida = some [.ref i1 0 (xs.length + 10) (xs.length + 10) 1, .val (.int .i64 xs.length)] := by rw [hB3 _ (by omega) (by omega)]; simp -implicitDefEqProofs (disch := omega) only [go_sem, ht, hA1, eq_self]
  have hBi : H2 i1 = some ((lent xs).map U) := by rw [hB3 _ (by omega) (by omega)]; simp -implicitDefEqProofs (disch := omega) only [go_sem, ht, hA2, eq_self]
  have hBr : H2 (nx + 1) = some [.val (.bool false), .val (.slice none 0 0), .val (.slice none 0 0)] := by rw [hB3 _ (by omega) (by omega)]; simp -implicitDefEqProofs (disch := omega) only [go_sem, ht, hAr, eq_self]
  have hBn : H2 nx = some [.val (.bool b), .sl xs.length (xs.map U), .sl ds.length (ds.map U)] := by rw [hB3 _ (by omega) (by omega)]; simp -implicitDefEqProofs (disch := omega) only [go_sem, ht, hA0, eq_self]
  have hBF : ∀ j, j < nx → j ≠ ida → j ≠ idb → H2 j = H j := fun j hj hj' hj2 => by rw [hB3 _ (by omega) (by omega)]; simp -implicitDefEqProofs (disch := omega) only [go_sem, ht, eq_self]; exact hAF j hj hj'
  clear hB3
  simp -implicitDefEqProofs (disch := omega) only [go_sem, ht, hBr, hBn, eq_self]
  refine end_plain (by simp -implicitDefEqProofs (disch := omega) only [go_sem, ht, eq_self] <;> rfl) ?_
  simp only [tupP_1]
  refine ⟨i1, i2, by omega, by omega, by simp -implicitDefEqProofs (disch := omega) only [go_sem, ht, eq_self] <;> omega, rfl, ?_, ?_, ?_, ?_, fun j hj hj' hj2 => ?_⟩
  · first | (simp -implicitDefEqProofs (disch := omega) only [go_sem, ht, hB0, eq_self]; done) | (simp -implicitDefEqProofs (disch := omega) only [go_sem, ht, eq_self]; exact hB0) | exact hB0
  · first | (simp -implicitDefEqProofs (disch := omega) only [go_sem, ht, hBi, eq_self]; done) | (simp -implicitDefEqProofs (disch := omega) only [go_sem, ht, eq_self]; exact hBi) | exact hBi
  · first | (simp -implicitDefEqProofs (disch := omega) only [go_sem, ht, hB1, eq_self]; done) | (simp -implicitDefEqProofs (disch := omega) only [go_sem, ht, eq_self]; exact hB1) | exact hB1
  · first | (simp -implicitDefEqProofs (disch := omega) only [go_sem, ht, hB2, eq_self]; done) | (simp -implicitDefEqProofs (disch := omega) only [go_sem, ht, eq_self]; exact hB2) | exact hB2
  · simp -implicitDefEqProofs (disch := omega) only [go_sem, ht, eq_self]
    exact hBF j hj hj' hj2
end Go.Proofs.Ytgebemjmckgomaa
