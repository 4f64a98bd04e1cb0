/- The document's sum of many numbers. -/
import Derived.Test.YtfbmdbgjfnkmiaaRefH
import Derived.Test.YtfbmdbgjfnkmiaaListW
set_option maxRecDepth 100000
set_option linter.unusedVariables false
set_option linter.unusedSimpArgs false
namespace Go.Proofs.Ytfbmdbgjfnkmiaa.Ref
open Ytfbmdbgjfnkmiaa (SWc SW WX WC WV sumW)

theorem r2sum {l : List (Bool × List Nat)} {k : Nat} (hl : ∀ p ∈ l, Ytfbmdbgjfnkmiaa.Lm p.2 ∧ p.2.length ≤ k) (hk : k + l.length ≤ 100000) : PT Try.prog 19 [SW l] (isV (WC (sumW l))) := by
  have hz := Ytfbmdbgjfnkmiaa.sumW_Z (l := l) (K := k) fun p hp => .V (hl p hp).1 (hl p hp).2
  have htl := told_z (by have := hz l.length (Nat.le_refl _); rwa [List.take_length] at this) (by omega)
  refine PCalls.enter (n := 21) (rs := [.cell 2 28]) (tb := [(5, [(0, []), (1, []), (2, []), (3, []), (4, []), (5, [0]), (6, []), (7, [])])]) Try.func19 rfl rfl rfl (by kernel_rfl) (by kernel_rfl) (by simp) fun c hc ht => ?_
  simp -implicitDefEqProofs (disch := omega) only [go_sem, ht, eq_self]
  refine LW.loopW hc ht (by kernel_rfl) (fun t => t.sl 0 = .sl l.length (SWc l) ∧ t.sl 2 = .ptr 0 0 ∧ t.sl 3 = .ptr 1 0 ∧ 1 < t.nx ∧ t.H 0 = some [.val (.bool false), .val (.slice none 0 0)] ∧ ∃ i : Nat, i ≤ l.length ∧ t.sl 4 = .val (.int .i64 i) ∧ ∃ c, t.H 1 = some [.val (.bool (decide (sumW (l.take i) < 0))), c] ∧ flat c = true ∧ oneP c = true ∧ isAny c = false ∧ (∀ H, view1 H c = .sl (D (sumW (l.take i)).natAbs).length ((D (sumW (l.take i)).natAbs).map I)))
    (fun t => match t.sl 4 with | .val (.int _ n) => l.length - n.toNat | _ => 0) ?_ ?_
  · simp -implicitDefEqProofs (disch := omega) only [go_sem, ht, eq_self]
    refine ⟨0, Nat.zero_le _, rfl, .val (.slice none 0 0), rfl, rfl, rfl, rfl, fun H => ?_⟩
    rw [List.take_zero]
    simp [sumW, D_zero]; rfl
  · rintro t ⟨h0, h2, h3, hnx, hH0, i, hi, h4, cc, hH, hf, ho, ha, hv⟩
    by_cases hil : i = l.length
    · subst hil
      rw [List.take_length] at hH hv
      generalize sumW l = s at *
      simp -implicitDefEqProofs (disch := omega) only [go_sem, ht, h0, h2, h3, h4, hH, hH0, eq_self]
      (refine pCall_view (by simp -implicitDefEqProofs (disch := omega) only [h0, h2, h3, h4, hH, hH0, hf, ho, ha, hv, go_sem, ht, eq_self] <;> rfl) (by simp -implicitDefEqProofs (disch := omega) only [h0, h2, h3, h4, hH, hH0, hf, ho, ha, hv, go_sem, ht, eq_self]) (by first | (apply Or.inl; simp -implicitDefEqProofs (disch := omega) only [h0, h2, h3, h4, hH, hH0, hf, ho, ha, hv, go_sem, ht, eq_self]; done) | (apply Or.inr; rintro r rfl; rfl)) (htl) ?_; rintro _ nx - rfl hnx; (try simp only [put_nx, withH_nx, begP_nx] at hnx); simp -implicitDefEqProofs (disch := omega) only [h0, h2, h3, h4, hH, hH0, hf, ho, ha, hv, go_sem, ht, eq_self])
      (refine end_treeM 2 ?_; simp -implicitDefEqProofs (disch := omega) only [go_sem, ht, h2, eq_self])
    · have hlt : i < l.length := by omega
      have hat := Ytfbmdbgjfnkmiaa.SWc_at hlt
      have hm := hl l[i] (List.getElem_mem hlt)
      have z1 := hz i hi
      have z2 := Ytfbmdbgjfnkmiaa.Z.V (b := l[i].1) hm.1 hm.2
      have ho1 := of_z (b := l[i].1) hm.1 (by omega)
      have hst := Ytfbmdbgjfnkmiaa.sumW_take hlt
      have had := nadd_z (a := sumW (l.take i)) (b := WV l[i].1 l[i].2) (okZ (k := k + l.length) (z1.mono (by omega)) (by omega)) (okZ (k := k + l.length) (z2.mono (by omega)) (by omega)) (okZ (z := ((sumW (l.take i)).natAbs + (WV l[i].1 l[i].2).natAbs : Nat)) (k := k + l.length + 1) (by
        have q1 := z1.mono (show k + i ≤ k + l.length by omega)
        have q2 := z2.mono (show k ≤ k + l.length by omega)
        exact Ytfbmdbgjfnkmiaa.Z.add (x := ((sumW (l.take i)).natAbs : Int)) (y := ((WV l[i].1 l[i].2).natAbs : Int)) q1 q2) (by omega))
      rw [← hst] at had
      clear hst z1 z2
      obtain ⟨s2, e2⟩ : ∃ s2, sumW (l.take (i + 1)) = s2 := ⟨_, rfl⟩
      rw [e2] at had
      generalize sumW (l.take i) = s1 at *
      generalize WV l[i].1 l[i].2 = w at *
      simp -implicitDefEqProofs (disch := omega) only [go_sem, ht, h0, h2, h3, h4, hH, hH0, hat, eq_self]
      ((refine pCall_view (by simp -implicitDefEqProofs (disch := omega) only [h0, h2, h3, h4, hH, hH0, hf, ho, ha, hv, hat, go_sem, ht, eq_self] <;> rfl) (by simp -implicitDefEqProofs (disch := omega) only [h0, h2, h3, h4, hH, hH0, hf, ho, ha, hv, hat, go_sem, ht, eq_self]) (by first | (apply Or.inl; simp -implicitDefEqProofs (disch := omega) only [h0, h2, h3, h4, hH, hH0, hf, ho, ha, hv, hat, go_sem, ht, eq_self]; done) | (apply Or.inr; rintro r rfl; rfl)) (ho1) ?_; rintro _ nx_1 - rfl hnx_1; (try simp only [put_nx, withH_nx, begP_nx] at hnx_1); simp -implicitDefEqProofs (disch := omega) only [h0, h2, h3, h4, hH, hH0, hf, ho, ha, hv, hat, go_sem, ht, eq_self]); (refine pCall_view (by simp -implicitDefEqProofs (disch := omega) only [h0, h2, h3, h4, hH, hH0, hf, ho, ha, hv, hat, go_sem, ht, eq_self] <;> rfl) (by simp -implicitDefEqProofs (disch := omega) only [h0, h2, h3, h4, hH, hH0, hf, ho, ha, hv, hat, go_sem, ht, eq_self]) (by first | (apply Or.inl; simp -implicitDefEqProofs (disch := omega) only [h0, h2, h3, h4, hH, hH0, hf, ho, ha, hv, hat, go_sem, ht, eq_self]; done) | (apply Or.inr; rintro r rfl; rfl)) (had) ?_; rintro _ nx_2 - rfl hnx_2; (try simp only [put_nx, withH_nx, begP_nx] at hnx_2); simp -implicitDefEqProofs (disch := omega) only [h0, h2, h3, h4, hH, hH0, hf, ho, ha, hv, hat, go_sem, ht, eq_self]))
      refine ⟨⟨by omega, i + 1, by omega, rfl, .sl (D s2.natAbs).length ((D s2.natAbs).map I), ?_, flat_SI _, rfl, rfl, fun H => ?_⟩, by omega⟩
      · rw [e2]
      · rw [e2]; rfl
end Go.Proofs.Ytfbmdbgjfnkmiaa.Ref
