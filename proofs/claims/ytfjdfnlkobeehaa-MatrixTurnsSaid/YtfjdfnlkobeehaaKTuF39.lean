/- Part 39 of the way to the statement: the walk and what it needs. -/
import Derived.Test.YtfjdfnlkobeehaaKTuF37
import Derived.Test.YtfjdfnlkobeehaaKTuF38
section
set_option maxRecDepth 100000
set_option linter.unusedVariables false
set_option linter.unusedSimpArgs false
namespace Go.Proofs.Ytfjdfnlkobeehaa

theorem spl_app {α : Type} {l r : List α} {k : Nat} {x : List α} (h : k + x.length ≤ l.length) : spl (l ++ r) k x = spl l k x ++ r := by
  unfold spl
  rw [List.take_append_of_le_length (by omega), List.drop_append_of_le_length h, List.append_assoc, List.append_assoc]
theorem spl_set' {z : List Int} {p : Nat} (r : List PV) (h : p < z.length) (x : Int) : spl (SWc (CZ z) ++ r) (p * 2) [.val (.bool (decide (x < 0))), .sl (D x.natAbs).length ((D x.natAbs).map U)] = SWc (CZ (z.set p x)) ++ r := by
  rw [spl_app (by rw [SWc_len, CZ_len]; simp; omega), spl_set h]
theorem CZ_at' {z : List Int} {c : Nat} (r : List PV) (h : c < z.length) : (SWc (CZ z) ++ r).drop (c * 2) = .val (.bool (decide (vc z c < 0))) :: SU (D (vc z c).natAbs) :: (SWc (CZ (z.drop (c + 1))) ++ r) := by
  rw [List.drop_append_of_le_length (by rw [SWc_len, CZ_len]; omega), CZ_at h]; rfl
def rowQ (l : List (Bool × List Nat)) (H : Nat → Option (List PV)) (nx : Nat) (r : PV) (H' : Nat → Option (List PV)) (nx' : Nat) : Prop :=
  ∃ (id cap : Nat) (rest : List Value), r = .ref id 0 l.length cap 2 ∧ H' id = some (SWc l ++ rest.map .val) ∧ nx ≤ id ∧ id < nx' ∧ ∀ j, j < nx → H' j = H j
theorem each_wN {l : List (Bool × List Nat)} {zs : List Int} {f : FuncId} {caps : List PV} {H : Nat → Option (List PV)} {nx : Nat} (hf : flatL caps = true) (hcv : ∀ H, caps.map (view H) = caps) (hlen : l.length ≤ 1000000) (hz : zs.length = l.length)
    (h : ∀ i (hi : i < l.length) (hi' : i < zs.length), PT Try.prog f (WX l[i].1 l[i].2 :: caps) (isV (WC zs[i]))) : PCalls Try.prog 68 [SW l, .fn f caps] H nx (rowQ (CZ zs) H nx) := by
  have hrp := replW l.length
  have hrl := repl_len l.length [Value.bool false, Value.slice none 0 0]
  refine PCalls.enter (n := 25) (rs := [.tmp 4]) (tb := []) Try.func68 rfl rfl rfl (by kernel_rfl) (by kernel_rfl) (by simp) fun c hc ht => ?_
  simp -implicitDefEqProofs (disch := omega) only [go_sem, ht]
  refine LW.loopW hc ht (by kernel_rfl) (fun t => t.sl 1 = .fn f caps ∧ t.sl 11 = .sl l.length (SWc l) ∧ t.sl 12 = .val (.int .i64 l.length) ∧ ∃ i : Nat, i ≤ l.length ∧ t.sl 13 = .val (.int .i64 i) ∧ ∃ (id cap : Nat) (rest : List Value), t.sl 5 = .ref id 0 i cap 2 ∧ t.H id = some (SWc ((CZ zs).take i) ++ rest.map .val) ∧ i * 2 + rest.length = cap * 2 ∧ id < t.nx ∧ nx ≤ id ∧ ∀ j, j < nx → t.H j = H j)
    (fun t => match t.sl 13 with | .val (.int _ k) => l.length - k.toNat | _ => 0) ?_ ?_
  · simp -implicitDefEqProofs (disch := omega) only [go_sem, ht]
    refine ⟨0, Nat.zero_le _, rfl, nx, l.length, repl l.length [Value.bool false, Value.slice none 0 0], rfl, ?_, by rw [hrl]; simp, by omega, by omega, fun j hj => upd_ne _ _ (by omega)⟩
    rw [upd_self, hrp]; rfl
  · rintro t ⟨h1, h11, h12, i, hi, h13, id, cap, rest, h5, hH, hcap, hid, hnid, hfr⟩
    by_cases hil : i = l.length
    · subst hil
      have htk : (CZ zs).take l.length = CZ zs := List.take_of_length_le (by rw [CZ_len]; omega)
      rw [htk] at hH
      have hcl : l.length = (CZ zs).length := by rw [CZ_len]; omega
      simp -implicitDefEqProofs (disch := omega) only [go_sem, ht, h1, h5, h11, h12, h13]
      refine end_plain (by simp -implicitDefEqProofs (disch := omega) only [go_sem, ht] <;> rfl) ?_
      simp only [tupP_1]
      exact ⟨id, cap, rest, by rw [← hcl], hH, hnid, hid, hfr⟩
    · have hlt : i < l.length := by omega
      have hlt' : i < (CZ zs).length := by rw [CZ_len]; omega
      have hat := SWc_at hlt
      have hel := h i hlt (by omega)
      have htk := SWc_take hlt'
      have e1 : (CZ zs)[i] = toC zs[i] := by simp [CZ]
      rw [e1] at htk
      simp only [toC] at htk
      have hln : (SWc ((CZ zs).take i)).length = 2 * i := by rw [SWc_len, List.length_take]; omega
      simp -implicitDefEqProofs (disch := omega) only [go_sem, ht, h1, h5, h11, h12, h13, hat]
      refine ⟨f, caps, rfl, ?_⟩
      ((refine pCall_vw (by refine ⟨⟨?_, ?_⟩, ?_, ?_⟩; rotate_left 2; (first | (right; rintro r rfl; rfl) | left); all_goals ((try simp -implicitDefEqProofs (disch := omega) only [h1, h5, h11, h12, h13, hcv, hf, List.map_append, go_sem, ht]) <;> rfl)) (hel) ?_; rintro _ nx_1 - rfl hnx_1; simp -implicitDefEqProofs (disch := omega) only [h1, h5, h11, h12, h13, hcv, hf, List.map_append, go_sem, ht]))
      have hne : id ≠ nx_1 := by omega
      (refine append_ownSX (by refine ⟨?_, ?_, ?_, ?_, ?_, ?_, ?_, ?_⟩ <;> (simp -implicitDefEqProofs (disch := omega) only [srcP_ref, srcP_sl, srcP_nil, Option.isSome_some, hH, go_sem, ht] <;> rfl)) (by rfl) (by first | omega | (simp <;> omega)) (by first | assumption | (simp <;> omega)) (by first | rfl | simp) (by first | omega | (simp <;> omega)) ?_; intro id1 cap1 rest1 H1 nx1 hH1 hcap1 hid1 hnx1 hfr1 hfs1; simp only [put_nx, withH_nx, put_H, withH_H] at hid1 hnx1 hfr1 hfs1)
      rw [htk] at hH1
      simp -implicitDefEqProofs (disch := omega) only [go_sem, ht, h1, h11, h12, h13]
      exact ⟨⟨i + 1, by omega, rfl, id1, cap1, rest1, rfl, hH1, by omega, by omega, by omega, fun j hj => by rw [hfr1 j (by omega) (by omega)]; simp -implicitDefEqProofs (disch := omega) only [go_sem, ht]; exact hfr j hj⟩, by omega⟩

theorem det1_calls {l : List (Bool × List Nat)} {k : Nat} {H : Nat → Option (List PV)} {nx : Nat} (h : Rn l k) (hlen : l.length ≤ 1000000) : PCalls Try.prog 67 [SW l] H nx (rowQ (CZ (vals l)) H nx) := by
  have he : ∀ H nx, PCalls Try.prog 68 [SW l, .fn 34 []] H nx (rowQ (CZ (vals l)) H nx) := fun H nx => by
    refine each_wN rfl (fun H => rfl) hlen (by simp [vals_len]) fun i hi hi' => ?_
    have := trimW (h.wn hi)
    rwa [vc_lt (by rw [vals_len]; exact hi)] at this
  refine PCalls.enter (n := 5) (rs := [.tmp 2]) (tb := []) Try.func67 rfl rfl rfl (by kernel_rfl) (by kernel_rfl) (by simp) fun c hc ht => ?_
  simp -implicitDefEqProofs (disch := omega) only [go_sem, ht]
  apply pCall_mem
  exact he _ _
  rintro r H1 nx1 ⟨id, cap, rest, rfl, hH1, hid, hidn, hfr⟩ hn1
  simp only [begP_nx, begP_H, put_nx, put_H] at hid hfr hn1
  simp -implicitDefEqProofs (disch := omega) only [go_sem, ht]
  refine end_plain (by simp -implicitDefEqProofs (disch := omega) only [go_sem, ht] <;> rfl) ?_
  simp only [tupP_1]
  exact ⟨id, cap, rest, rfl, hH1, hid, hidn, hfr⟩

def MC (ids caps : Nat → Nat) (cols n : Nat) : List PV := (List.range n).map fun i => .ref (ids i) 0 cols (caps i) 2
theorem MC_len (ids caps : Nat → Nat) (cols n : Nat) : (MC ids caps cols n).length = n := by simp [MC]
theorem MC_succ (ids caps : Nat → Nat) (cols n : Nat) : MC ids caps cols (n + 1) = MC ids caps cols n ++ [.ref (ids n) 0 cols (caps n) 2] := by simp [MC, List.range_succ]
theorem MC_congr {ids ids' caps caps' : Nat → Nat} {cols n : Nat} (h : ∀ i, i < n → ids i = ids' i ∧ caps i = caps' i) : MC ids caps cols n = MC ids' caps' cols n := List.map_congr_left fun i hi => by
  obtain ⟨h1, h2⟩ := h i (List.mem_range.1 hi)
  rw [h1, h2]
theorem MC_get {ids caps : Nat → Nat} {cols n i : Nat} (r : List PV) (h : i < n) : (MC ids caps cols n ++ r)[i]? = some (.ref (ids i) 0 cols (caps i) 2) := by
  rw [List.getElem?_append_left (by rw [MC_len]; exact h)]
  simp [MC, h]
structure MO (H : Nat → Option (List PV)) (lo b idM n cols : Nat) (ids caps : Nat → Nat) (f : Nat → List Int) : Prop where
  out : ∃ rest : List Value, H idM = some (MC ids caps cols n ++ rest.map .val)
  row : ∀ i, i < n → ∃ rest : List Value, H (ids i) = some (SWc (CZ (f i)) ++ rest.map .val)
  lt : ∀ i, i < n → lo ≤ ids i ∧ ids i < b ∧ ids i ≠ idM
  inj : ∀ i j, i < n → j < n → ids i = ids j → i = j
  idM : lo ≤ idM ∧ idM < b
  len : ∀ i, i < n → (f i).length = cols
theorem MO.mono {H H' : Nat → Option (List PV)} {lo b b' idM n cols : Nat} {ids caps : Nat → Nat} {f : Nat → List Int} (h : MO H lo b idM n cols ids caps f) (hb : b ≤ b') (hH : ∀ j, lo ≤ j → j < b → H' j = H j) : MO H' lo b' idM n cols ids caps f := by
  obtain ⟨rest, ho⟩ := h.out
  refine ⟨⟨rest, by rw [hH _ h.idM.1 h.idM.2]; exact ho⟩, fun i hi => ?_, fun i hi => ?_, h.inj, ⟨h.idM.1, by have := h.idM.2; omega⟩, h.len⟩
  · obtain ⟨r, hr⟩ := h.row i hi
    have := h.lt i hi
    exact ⟨r, by rw [hH _ this.1 this.2.1]; exact hr⟩
  · have := h.lt i hi
    exact ⟨this.1, by omega, this.2.2⟩
theorem MO.congr {H : Nat → Option (List PV)} {lo b idM n cols : Nat} {ids caps : Nat → Nat} {f g : Nat → List Int} (h : MO H lo b idM n cols ids caps f) (e : ∀ i, i < n → f i = g i) : MO H lo b idM n cols ids caps g :=
  ⟨h.out, fun i hi => by rw [← e i hi]; exact h.row i hi, h.lt, h.inj, h.idM, fun i hi => by rw [← e i hi]; exact h.len i hi⟩
theorem MO.set {H : Nat → Option (List PV)} {lo b idM n cols i : Nat} {ids caps : Nat → Nat} {f : Nat → List Int} {z : List Int} {rest : List Value} (h : MO H lo b idM n cols ids caps f) (hi : i < n) (hz : z.length = cols) : MO (upd H (ids i) (some (SWc (CZ z) ++ rest.map .val))) lo b idM n cols ids caps (fun j => if j = i then z else f j) := by
  obtain ⟨r0, ho⟩ := h.out
  refine ⟨⟨r0, by rw [upd_ne _ _ (Ne.symm (h.lt i hi).2.2)]; exact ho⟩, fun j hj => ?_, h.lt, h.inj, h.idM, fun j hj => ?_⟩
  · by_cases hji : j = i
    · subst hji
      exact ⟨rest, by rw [upd_self, if_pos rfl]⟩
    · obtain ⟨r, hr⟩ := h.row j hj
      exact ⟨r, by rw [upd_ne _ _ (fun e => hji (h.inj j i hj hi e)), if_neg hji]; exact hr⟩
  · show (if j = i then z else f j).length = cols
    split
    · exact hz
    · exact h.len j hj
theorem MO.swp {H : Nat → Option (List PV)} {lo b idM n cols p c : Nat} {ids caps : Nat → Nat} {f : Nat → List Int} {rest : List Value} (h : MO H lo b idM n cols ids caps f) (hp : p < n) (hc : c < n) :
    MO (upd H idM (some (MC (fun i => ids (Ytfjdfnlkobeehaa.swp p c i)) (fun i => caps (Ytfjdfnlkobeehaa.swp p c i)) cols n ++ rest.map .val))) lo b idM n cols (fun i => ids (Ytfjdfnlkobeehaa.swp p c i)) (fun i => caps (Ytfjdfnlkobeehaa.swp p c i)) (fun i => f (Ytfjdfnlkobeehaa.swp p c i)) := by
  refine ⟨⟨rest, upd_self _ _ _⟩, fun i hi => ?_, fun i hi => h.lt _ (swp_bd hp hc hi), fun i j hi hj e => ?_, h.idM, fun i hi => h.len _ (swp_bd hp hc hi)⟩
  · obtain ⟨r, hr⟩ := h.row _ (swp_bd hp hc hi)
    exact ⟨r, by rw [upd_ne _ _ (h.lt _ (swp_bd hp hc hi)).2.2]; exact hr⟩
  · have := h.inj _ _ (swp_bd hp hc hi) (swp_bd hp hc hj) e
    have := congrArg (Ytfjdfnlkobeehaa.swp p c) this
    rwa [swp_swp, swp_swp] at this

def rowsQ (W : List (List Int)) (cols : Nat) (H : Nat → Option (List PV)) (nx : Nat) (r : PV) (H' : Nat → Option (List PV)) (nx' : Nat) : Prop :=
  ∃ (idM capM : Nat) (ids caps : Nat → Nat), r = .ref idM 0 W.length capM 1 ∧ MO H' nx nx' idM W.length cols ids caps (fun i => W.getD i []) ∧ ∀ j, j < nx → H' j = H j
set_option maxHeartbeats 4000000 in
theorem each_rN {m : List (List (Bool × List Nat))} {W : List (List Int)} {cols : Nat} {f : FuncId} {H : Nat → Option (List PV)} {nx : Nat} (hlen : m.length ≤ 1000000) (hW : W.length = m.length) (hc0 : ∀ i, i < W.length → (W.getD i []).length = cols)
    (h : ∀ i, i < m.length → ∀ H nx, PCalls Try.prog f [SW (m.getD i [])] H nx (rowQ (CZ (W.getD i [])) H nx)) :
    PCalls Try.prog 66 [SM m, .fn f []] H nx (rowsQ W cols H nx) := by
  have hrp := repl_nil m.length
  have hrl := repl_len m.length [Value.slice none 0 0]
  refine PCalls.enter (n := 25) (rs := [.tmp 4]) (tb := []) Try.func66 rfl rfl rfl (by kernel_rfl) (by kernel_rfl) (by simp) fun c hc ht => ?_
  simp -implicitDefEqProofs (disch := omega) only [go_sem, ht]
  refine LW.loopW hc ht (by kernel_rfl) (fun t => t.sl 1 = .fn f [] ∧ t.sl 11 = .sl m.length (m.map SW) ∧ t.sl 12 = .val (.int .i64 m.length) ∧ ∃ i : Nat, i ≤ m.length ∧ t.sl 13 = .val (.int .i64 i) ∧ ∃ (id cap : Nat) (rest : List Value) (ids caps : Nat → Nat), t.sl 5 = .ref id 0 i cap 1 ∧ t.H id = some (MC ids caps cols i ++ rest.map .val) ∧ i + rest.length = cap ∧ nx ≤ id ∧ id < t.nx ∧
      (∀ k, k < i → (∃ rest : List Value, t.H (ids k) = some (SWc (CZ (W.getD k [])) ++ rest.map .val)) ∧ nx ≤ ids k ∧ ids k < t.nx ∧ ids k ≠ id) ∧ (∀ a b, a < i → b < i → ids a = ids b → a = b) ∧ ∀ j, j < nx → t.H j = H j)
    (fun t => match t.sl 13 with | .val (.int _ k) => m.length - k.toNat | _ => 0) ?_ ?_
  · simp -implicitDefEqProofs (disch := omega) only [go_sem, ht]
    refine ⟨0, Nat.zero_le _, rfl, nx, m.length, repl m.length [Value.slice none 0 0], fun _ => 0, fun _ => 0, rfl, ?_, by rw [hrl]; simp, by omega, by omega, fun k hk => by omega, fun a b ha => by omega, fun j hj => upd_ne _ _ (by omega)⟩
    rw [upd_self, hrp]; rfl
  · rintro t ⟨h1, h11, h12, i, hi, h13, id, cap, rest, ids, caps, h5, hH, hcap, hnid, hid, hrow, hinj, hfr⟩
    by_cases hil : i = m.length
    · subst hil
      simp -implicitDefEqProofs (disch := omega) only [go_sem, ht, h1, h5, h11, h12, h13]
      refine end_plain (by simp -implicitDefEqProofs (disch := omega) only [go_sem, ht] <;> rfl) ?_
      simp only [tupP_1]
      refine ⟨id, cap, ids, caps, by rw [hW], ?_, hfr⟩
      rw [hW]
      exact ⟨⟨rest, hH⟩, fun k hk => (hrow k hk).1, fun k hk => (hrow k hk).2, hinj, ⟨hnid, hid⟩, fun k hk => hc0 k (by omega)⟩
    · have hlt : i < m.length := by omega
      have hgi := get_SM' hlt
      have hel := h i hlt
      have hcw : (CZ (W.getD i [])).length = cols := by rw [CZ_len]; exact hc0 i (by omega)
      have hml := MC_len ids caps cols i
      generalize m.getD i [] = l0 at *
      simp -implicitDefEqProofs (disch := omega) only [go_sem, ht, h1, h5, h11, h12, h13, hgi]
      refine ⟨f, [], rfl, ?_⟩
      apply pCall_mem
      exact hel _ _
      rintro r H2 nx2 ⟨ir, capr, restr, rfl, hHr, hir, hirn, hfr2⟩ hn2
      (try simp only [put_nx, withH_nx, put_H, withH_H] at hir hfr2 hn2)
      rw [hcw]
      have hH2 : H2 id = some (MC ids caps cols i ++ rest.map .val) := by rw [hfr2 id hid]; exact hH
      simp -implicitDefEqProofs (disch := omega) only [go_sem, ht, h1, h5, h11, h12, h13]
      have hne : id ≠ nx2 := by omega
      (refine append_ownX (by refine ⟨?_, ?_, ?_, ?_, ?_, ?_, ?_, ?_⟩ <;> (simp -implicitDefEqProofs (disch := omega) only [srcP_ref, srcP_sl, srcP_nil, Option.isSome_some, hH2, hne, go_sem, ht] <;> rfl)) (by first | omega | (simp <;> omega)) (by first | assumption | (simp <;> omega)) (by first | rfl | simp) (by first | omega | (simp <;> omega)) ?_; intro id1 cap1 rest1 H1 nx1 hH1 hcap1 hid1 hnx1 hfr1 hfs1; (try simp only [put_nx, withH_nx, put_H, withH_H] at hid1 hnx1 hfr1 hfs1); (try simp only [app_U, ← List.map_append] at hH1))
      obtain ⟨ids', ea, eb⟩ : ∃ g : Nat → Nat, g i = ir ∧ ∀ k, k ≠ i → g k = ids k := ⟨fun k => if k = i then ir else ids k, if_pos rfl, fun k hk => if_neg hk⟩
      obtain ⟨caps', ec, ed⟩ : ∃ g : Nat → Nat, g i = capr ∧ ∀ k, k ≠ i → g k = caps k := ⟨fun k => if k = i then capr else caps k, if_pos rfl, fun k hk => if_neg hk⟩
      have hC : MC ids' caps' cols (i + 1) = MC ids caps cols i ++ [.ref ir 0 cols capr 2] := by
        rw [MC_succ, ea, ec]
        congr 1
        exact MC_congr fun k hk => ⟨eb k (by omega), ed k (by omega)⟩
      have hkeep : ∀ j, j < t.nx → j ≠ id → H1 j = t.H j := fun j hj hji => by
        rw [hfr1 j hji (by omega)]
        simp -implicitDefEqProofs (disch := omega) only [go_sem, ht]
        exact hfr2 j hj
      simp -implicitDefEqProofs (disch := omega) only [go_sem, ht, h1, h11, h12, h13]
      refine ⟨⟨i + 1, by omega, rfl, id1, cap1, rest1, ids', caps', rfl, by rw [hC]; exact hH1, by omega, by omega, by omega, fun k hk => ?_, fun a b ha hb hab => ?_, fun j hj => ?_⟩, by omega⟩
      · by_cases hki : k = i
        · subst hki
          rw [ea]
          refine ⟨⟨restr, ?_⟩, by omega, by omega, by omega⟩
          rw [hfr1 ir (by omega) (by omega)]
          simp -implicitDefEqProofs (disch := omega) only [go_sem, ht, hHr]
        · rw [eb k hki]
          obtain ⟨⟨rk, hrk⟩, g1, g2, g3⟩ := hrow k (by omega)
          exact ⟨⟨rk, by rw [hkeep _ g2 g3]; exact hrk⟩, g1, by omega, by omega⟩
      · by_cases hai : a = i <;> by_cases hbi : b = i
        · omega
        · rw [hai, ea, eb b hbi] at hab
          have := (hrow b (by omega)).2; omega
        · rw [hbi, ea, eb a hai] at hab
          have := (hrow a (by omega)).2; omega
        · rw [eb a hai, eb b hbi] at hab
          exact hinj a b (by omega) (by omega) hab
      · rw [hkeep j (by omega) (by omega)]; exact hfr j hj
end Go.Proofs.Ytfjdfnlkobeehaa
end

section
set_option maxRecDepth 100000
set_option linter.unusedVariables false
set_option linter.unusedSimpArgs false
namespace Go.Proofs.Ytfjdfnlkobeehaa

theorem barW_none {W0 : List (List Int)} {c : Nat} (h : barW W0 c = none) : ∀ d, barW W0 (c + d) = none
  | 0 => h
  | d + 1 => by
    rw [show c + (d + 1) = (c + d) + 1 by omega, barW, barW_none h d]
theorem MC_set {ids caps : Nat → Nat} {cols n p c : Nat} (r : List PV) (hp : p < n) (hc : c < n) :
    spl (MC ids caps cols n ++ r) p [.ref (ids c) 0 cols (caps c) 2] = (MC ids caps cols n).set p (.ref (ids c) 0 cols (caps c) 2) ++ r ∧
    spl ((MC ids caps cols n).set p (.ref (ids c) 0 cols (caps c) 2) ++ r) c [.ref (ids p) 0 cols (caps p) 2] = MC (fun i => ids (swp p c i)) (fun i => caps (swp p c i)) cols n ++ r := by
  have key : ∀ (l : List PV) (q : Nat) (x : PV), q < l.length → spl (l ++ r) q [x] = l.set q x ++ r := fun l q x hq => by
    rw [spl_app (by simp; omega)]
    unfold spl
    rw [List.set_eq_take_append_cons_drop, if_pos hq]; rfl
  refine ⟨key _ _ _ (by rw [MC_len]; exact hp), ?_⟩
  rw [key _ _ _ (by rw [List.length_set, MC_len]; exact hc)]
  congr 1
  refine List.ext_getElem (by simp [MC]) fun k h1 h2 => ?_
  simp only [List.getElem_set, MC, List.getElem_map, List.getElem_range]
  unfold swp
  by_cases hkc : c = k
  · subst hkc
    by_cases hkp : c = p
    · subst hkp; simp
    · simp [hkp]
  · have hkc' : ¬ k = c := fun e => hkc e.symm
    by_cases hkp : p = k
    · subst hkp; simp [hkc, hkc']
    · have hkp' : ¬ k = p := fun e => hkp e.symm
      simp [hkc, hkc', hkp, hkp']
theorem mix_get {V W : List Int} {k j n : Nat} (hv : V.length = n) (hw : W.length = n) (hk : k ≤ n) : vc (V.take k ++ W.drop k) j = if j < k then vc V j else vc W j := by
  have hl : (V.take k).length = k := by rw [List.length_take]; omega
  unfold vc
  simp only [List.getD_eq_getElem?_getD]
  by_cases h : j < k
  · rw [if_pos h, List.getElem?_append_left (by omega), List.getElem?_take, if_pos h]
  · rw [if_neg h, List.getElem?_append_right (by omega), hl, List.getElem?_drop]
    congr 2; omega
theorem mix_set {V W : List Int} {k n : Nat} {x : Int} (hv : V.length = n) (hw : W.length = n) (hk : k < n) (hx : vc V k = x) : (V.take k ++ W.drop k).set k x = V.take (k + 1) ++ W.drop (k + 1) := by
  have hl : (V.take k).length = k := by rw [List.length_take]; omega
  rw [List.set_append_right _ _ (by omega), hl, Nat.sub_self, List.drop_eq_getElem_cons (show k < W.length by omega), List.set_cons_zero, List.take_succ_eq_append_getElem (show k < V.length by omega), List.append_assoc, ← hx, vc_lt (by omega)]; rfl
theorem mix_len {V W : List Int} {k n : Nat} (hv : V.length = n) (hw : W.length = n) (hk : k ≤ n) : (V.take k ++ W.drop k).length = n := by simp; omega
theorem LW.both3 {P : Program} {A B E F : Prop} {c : Cx} {code : Code} {Q : Exit → PS → Prop} {st1 st2 : PS} (I : PS → Prop) (hE : A → E) (hF : A → F) (h1 : A → I st1) (h2 : B → I st2) (h : ∀ s, I s → LW P c code Q s) : (A → E ∧ F ∧ LW P c code Q st1) ∧ (B → LW P c code Q st2) :=
  ⟨fun a => ⟨hE a, hF a, h _ (h1 a)⟩, fun b => h _ (h2 b)⟩
section
variable {m : List (List (Bool × List Nat))} {B n : Nat}
theorem Mx.bar (h : Mx m B) (hlc : ∀ l ∈ m, l.length = n) (hml : m.length = n) : (∀ c, c ≤ n → ∀ W last t, barW (m.map vals) c = some (W, last, t) → BI (m.map vals) n c 4294967296 B W last t) ∧ barD (m.map vals) n = detZ (m.map vals) n := by
  have h1 : (m.map vals).length = n := by simp [hml]
  have h2 : ∀ i, i < n → ((m.map vals).getD i []).length = n := fun i hi => by
    rw [getD_vals (by omega), vals_len]; exact hlc _ (getD_mem (by omega))
  have h3 : ∀ k, k < n → ∀ j, (rw0 (m.map vals) k j).natAbs ≤ 4294967296 ^ lenW (m.getD k []) := fun k hk j => by
    unfold rw0
    rw [getD_vals (by omega)]
    by_cases hj : j < (m.getD k []).length
    · rw [vals_get hj, WV_abs]
      have hm := getD_mem (m := m) (d := []) (i := k) (by omega)
      have h4 := h.lm _ hm _ (List.getElem_mem hj)
      exact Nat.le_of_lt (V_lt' h4 (Nat.le_of_lt (lenW_mem (List.getElem_mem hj))))
    · rw [vc_ge (by rw [vals_len]; omega)]; simp
  have h4 : sz (fun k => lenW (m.getD k [])) n ≤ B := by
    rw [← hml, sz_lenM _ (Nat.le_refl _), List.take_length]; exact h.len
  exact ⟨fun c hc => (bar_all h1 h2 h3 h4 c hc).1, barD_det h1 h2 h3 h4⟩
set_option maxHeartbeats 32000000 in
theorem det_calls (h : Mx m B) (hlc : ∀ l ∈ m, l.length = n) (hml : m.length = n) (hn : n ≤ 32) (hw : wrongM m n = false) :
    PT Try.prog 30 [SM m, .val (.int .i64 n)] (isV (.tup [WC (if 32 < (D (detZ (m.map vals) n).natAbs).length then 0 else detZ (m.map vals) n), .val (.int .i64 (if 32 < (D (detZ (m.map vals) n).natAbs).length then 2 else 0))])) := by
  have hwr := wrong_calls (m := m) (cn := n)
  rw [hw] at hwr
  obtain ⟨hall, hdet⟩ := h.bar hlc hml
  have hB := h.hB
  have heach : ∀ H nx, PCalls Try.prog 66 [SM m, .fn 67 []] H nx (rowsQ (m.map vals) n H nx) := fun H nx => by
    refine each_rN (by omega) (by simp) (fun i hi => ?_) fun i hi H nx => ?_
    · have hi : i < m.length := by simpa using hi
      rw [getD_vals hi, vals_len]; exact hlc _ (getD_mem hi)
    · rw [getD_vals hi]
      have hm := getD_mem (m := m) (d := []) hi
      exact det1_calls (h.rn hm) (by rw [hlc _ hm]; omega)
  simp only [SM_def, hml] at heach
  have o1 := wof_v (x := 1) (by decide) (by decide)
  have hWl : (m.map vals).length = n := by simp [hml]
  rw [← hdet]
  clear hdet hwr
  have hwr := wrong_calls (m := m) (cn := n)
  rw [hw] at hwr
  generalize m.map vals = W0 at *
  have hif : (if n = 0 then 0 else 0) = 0 := by simp
  refine PCalls.enter (n := 145) (rs := [.cell 4 30, .tmp 5]) (tb := [(14, [(0, []), (1, []), (2, []), (3, []), (4, []), (5, []), (6, []), (7, []), (8, []), (9, []), (10, []), (11, []), (12, []), (13, [2, 3]), (14, []), (15, [])]), (1000014, [(0, []), (0, []), (0, []), (0, []), (0, []), (0, []), (48, []), (112, []), (0, []), (0, []), (768, []), (1792, []), (4083, []), (8179, []), (16383, []), (32767, [])]), (22, [(0, []), (1, []), (2, []), (3, []), (4, []), (5, []), (6, []), (7, []), (8, []), (9, []), (10, []), (11, []), (12, []), (13, []), (15, []), (16, []), (17, []), (18, []), (19, []), (20, []), (21, []), (22, []), (23, []), (24, []), (25, []), (26, []), (27, []), (28, []), (14, [15, 16, 17, 18, 19, 20, 21, 22, 23, 24, 25, 26, 27, 28]), (29, []), (30, []), (31, [0, 1, 2, 3, 4, 5, 6, 7, 8, 9, 10, 11, 12, 13, 15, 16, 17, 18, 19, 20, 21, 22, 23, 24, 25, 26, 27, 28]), (32, [])]), (1000022, [(0, []), (0, []), (3, []), (7, []), (0, []), (31, []), (63, []), (0, []), (0, []), (384, []), (896, []), (0, []), (3968, []), (8064, []), (16383, []), (0, []), (0, []), (98304, []), (229376, []), (0, []), (1015808, []), (2064384, []), (0, []), (0, []), (12582912, []), (29360128, []), (0, []), (130023424, []), (264241152, []), (536870911, []), (1073741823, []), (0, []), (4294967295, [])]), (23, [(0, []), (1, []), (2, []), (3, []), (4, []), (5, []), (6, []), (7, [0, 1, 2, 3, 4]), (8, []), (9, []), (10, []), (11, []), (12, []), (13, [10, 11])]), (1000023, [(0, []), (0, []), (3, []), (7, []), (0, []), (0, []), (0, []), (96, []), (224, []), (480, []), (480, []), (480, []), (1023, []), (5119, [])])]) Try.func30 rfl rfl rfl (by kernel_rfl) (by kernel_rfl) (by simp) fun c hc ht => ?_
  simp -implicitDefEqProofs (disch := omega) only [go_sem, ht, hml]
  ((refine pCall_vw (by refine ⟨⟨?_, ?_⟩, ?_, ?_⟩; rotate_left 2; (first | (right; rintro r rfl; rfl) | left); all_goals ((try simp -implicitDefEqProofs (disch := omega) only [hml, go_sem, ht]) <;> rfl)) (hwr) ?_; rintro _ nx_1 - rfl hnx_1; simp -implicitDefEqProofs (disch := omega) only [hml, go_sem, ht]))
  apply pCall_mem
  exact heach _ _
  rintro r H1 nx1 ⟨idM, capM, ids0, caps0, rfl, hMO0, hfr0⟩ hn1
  (try simp only [put_nx, withH_nx, put_H, withH_H, begP_nx, begP_H] at hMO0 hfr0 hn1)
  rw [hWl] at hMO0 ⊢
  have hH10 : H1 0 = some [.val (.bool false), .val (.slice none 0 0)] := by rw [hfr0 0 (by omega)]; simp -implicitDefEqProofs (disch := omega) only [go_sem, ht, upd_self]
  have o1' : WC 1 = .agg [.val (.bool false), .sl 1 ([1].map U)] := by rw [WC_def]; simp [D_one, SU_def]
  simp -implicitDefEqProofs (disch := omega) only [go_sem, ht, hml]
  ((refine pCall_vw (by refine ⟨⟨?_, ?_⟩, ?_, ?_⟩; rotate_left 2; (first | (right; rintro r rfl; rfl) | left); all_goals ((try simp -implicitDefEqProofs (disch := omega) only [hml, go_sem, ht]) <;> rfl)) (o1) ?_; rintro _ nx_2 - rfl hnx_2; simp -implicitDefEqProofs (disch := omega) only [hml, go_sem, ht]))
  have hrange : (if n = 0 then 0 else 0) = 0 := by simp
  refine LW.loopW hc ht (by kernel_rfl) (fun t => t.sl 1 = .val (.int .i64 n) ∧ t.sl 4 = .ptr 0 0 ∧ t.sl 6 = .ref idM 0 n capM 1 ∧ t.sl 7 = .ptr nx_2 0 ∧ t.sl 27 = .val (.int .i64 n) ∧ nx_2 < t.nx ∧ t.H 0 = some [.val (.bool false), .val (.slice none 0 0)] ∧ ∃ c : Nat, c ≤ n ∧ t.sl 28 = .val (.int .i64 c) ∧
      ∃ (ids caps : Nat → Nat) (W : List (List Int)) (last : Int) (trn : Bool), barW W0 c = some (W, last, trn) ∧ MO t.H nx_1 nx_2 idM n n ids caps (fun i => W.getD i []) ∧ t.sl 8 = .val (.bool trn) ∧ t.H nx_2 = some [.val (.bool (decide (last < 0))), .sl (D last.natAbs).length ((D last.natAbs).map U)])
    (fun t => match t.sl 28 with | .val (.int _ k) => n - k.toNat | _ => 0) ?_ ?_
  · simp -implicitDefEqProofs (disch := omega) only [go_sem, ht]
    exact ⟨by omega, hH10, 0, Nat.zero_le _, rfl, ids0, caps0, W0, 1, false, rfl, hMO0.mono (by omega) (fun j h1 h2 => upd_ne _ _ (by omega)), rfl, rfl⟩
  · rintro t ⟨h1, h4, h6, h7, h27, hbn, hH0, c, hcn, h28, ids, caps, W, last, trn, hbw, hMO, h8, hHb⟩
    have hBI := hall c hcn W last trn hbw
    obtain ⟨hlz, hl0⟩ := hBI.zl hcn (by omega) (by omega)
    by_cases hce : c = n
    · subst hce
      have hbd : barD W0 c = if trn then -last else last := by unfold barD; rw [hbw]
      have hZl : Z (B + 1) last := Nat.lt_of_le_of_lt hlz (Nat.pow_lt_pow_right (by decide) (by omega))
      rw [hbd]
      cases trn with
      | false =>
        have lm := limbsW (Wn.C hZl (by omega))
        rw [Ref.limbs_eq] at lm
        simp only [Bool.false_eq_true, if_false]
        by_cases h32 : 32 < (D last.natAbs).length
        · rw [if_pos h32, if_pos h32]
          have h32i : (32 : Int) < ((D last.natAbs).length : Nat) := by omega
          simp -implicitDefEqProofs (disch := omega) only [go_sem, ht, h1, h4, h6, h7, h27, h28, h8, hHb, hH0]
          (refine pCall_vw (by refine ⟨⟨?_, ?_⟩, ?_, ?_⟩; rotate_left 2; (first | (right; rintro r rfl; rfl) | left); all_goals ((try simp -implicitDefEqProofs (disch := omega) only [h1, h4, h6, h7, h27, h28, h8, hHb, hH0, h32, h32i, go_sem, ht]) <;> rfl)) (lm) ?_; rintro _ nx - rfl hnx; simp -implicitDefEqProofs (disch := omega) only [h1, h4, h6, h7, h27, h28, h8, hHb, hH0, h32, h32i, go_sem, ht])
          (refine end_treeM 2 ?_; simp -implicitDefEqProofs (disch := omega) only [go_sem, ht, h4, upd_self, hH0]); (rw [show Int.natAbs 0 = 0 from rfl, D_zero]; rfl)
        · rw [if_neg h32, if_neg h32]
          have h32i : ¬ (32 : Int) < ((D last.natAbs).length : Nat) := by omega
          simp -implicitDefEqProofs (disch := omega) only [go_sem, ht, h1, h4, h6, h7, h27, h28, h8, hHb, hH0]
          (refine pCall_vw (by refine ⟨⟨?_, ?_⟩, ?_, ?_⟩; rotate_left 2; (first | (right; rintro r rfl; rfl) | left); all_goals ((try simp -implicitDefEqProofs (disch := omega) only [h1, h4, h6, h7, h27, h28, h8, hHb, hH0, h32, h32i, go_sem, ht]) <;> rfl)) (lm) ?_; rintro _ nx - rfl hnx; simp -implicitDefEqProofs (disch := omega) only [h1, h4, h6, h7, h27, h28, h8, hHb, hH0, h32, h32i, go_sem, ht])
          (refine end_treeM 2 ?_; simp -implicitDefEqProofs (disch := omega) only [go_sem, ht, h4, upd_self, hH0])
      | true =>
        have hZn := hZl.neg
        have lm := limbsW (Wn.C hZn (by omega))
        have ng := negW (Wn.C hZl (by omega))
        rw [Ref.limbs_eq] at lm
        simp only [if_true]
        generalize -last = nl at *
        by_cases h32 : 32 < (D nl.natAbs).length
        · rw [if_pos h32, if_pos h32]
          have h32i : (32 : Int) < ((D nl.natAbs).length : Nat) := by omega
          simp -implicitDefEqProofs (disch := omega) only [go_sem, ht, h1, h4, h6, h7, h27, h28, h8, hHb, hH0]
          ((refine pCall_vw (by refine ⟨⟨?_, ?_⟩, ?_, ?_⟩; rotate_left 2; (first | (right; rintro r rfl; rfl) | left); all_goals ((try simp -implicitDefEqProofs (disch := omega) only [h1, h4, h6, h7, h27, h28, h8, hHb, hH0, h32, h32i, go_sem, ht]) <;> rfl)) (ng) ?_; rintro _ nx_3 - rfl hnx_3; simp -implicitDefEqProofs (disch := omega) only [h1, h4, h6, h7, h27, h28, h8, hHb, hH0, h32, h32i, go_sem, ht]); (refine pCall_vw (by refine ⟨⟨?_, ?_⟩, ?_, ?_⟩; rotate_left 2; (first | (right; rintro r rfl; rfl) | left); all_goals ((try simp -implicitDefEqProofs (disch := omega) only [h1, h4, h6, h7, h27, h28, h8, hHb, hH0, h32, h32i, go_sem, ht]) <;> rfl)) (lm) ?_; rintro _ nx_4 - rfl hnx_4; simp -implicitDefEqProofs (disch := omega) only [h1, h4, h6, h7, h27, h28, h8, hHb, hH0, h32, h32i, go_sem, ht]))
          (refine end_treeM 2 ?_; simp -implicitDefEqProofs (disch := omega) only [go_sem, ht, h4, upd_self, hH0]); (rw [show Int.natAbs 0 = 0 from rfl, D_zero]; rfl)
        · rw [if_neg h32, if_neg h32]
          have h32i : ¬ (32 : Int) < ((D nl.natAbs).length : Nat) := by omega
          simp -implicitDefEqProofs (disch := omega) only [go_sem, ht, h1, h4, h6, h7, h27, h28, h8, hHb, hH0]
          ((refine pCall_vw (by refine ⟨⟨?_, ?_⟩, ?_, ?_⟩; rotate_left 2; (first | (right; rintro r rfl; rfl) | left); all_goals ((try simp -implicitDefEqProofs (disch := omega) only [h1, h4, h6, h7, h27, h28, h8, hHb, hH0, h32, h32i, go_sem, ht]) <;> rfl)) (ng) ?_; rintro _ nx_5 - rfl hnx_5; simp -implicitDefEqProofs (disch := omega) only [h1, h4, h6, h7, h27, h28, h8, hHb, hH0, h32, h32i, go_sem, ht]); (refine pCall_vw (by refine ⟨⟨?_, ?_⟩, ?_, ?_⟩; rotate_left 2; (first | (right; rintro r rfl; rfl) | left); all_goals ((try simp -implicitDefEqProofs (disch := omega) only [h1, h4, h6, h7, h27, h28, h8, hHb, hH0, h32, h32i, go_sem, ht]) <;> rfl)) (lm) ?_; rintro _ nx_6 - rfl hnx_6; simp -implicitDefEqProofs (disch := omega) only [h1, h4, h6, h7, h27, h28, h8, hHb, hH0, h32, h32i, go_sem, ht]))
          (refine end_treeM 2 ?_; simp -implicitDefEqProofs (disch := omega) only [go_sem, ht, h4, upd_self, hH0])
    · have hclt : c < n := by omega
      have hlen := hBI.len
      simp -implicitDefEqProofs (disch := omega) only [go_sem, ht, h1, h4, h6, h7, h27, h28, h8]
      refine LW.loopW hc ht (by kernel_rfl) (fun t => t.sl 1 = .val (.int .i64 n) ∧ t.sl 4 = .ptr 0 0 ∧ t.sl 6 = .ref idM 0 n capM 1 ∧ t.sl 7 = .ptr nx_2 0 ∧ t.sl 27 = .val (.int .i64 n) ∧ nx_2 < t.nx ∧ t.H 0 = some [.val (.bool false), .val (.slice none 0 0)] ∧ t.sl 28 = .val (.int .i64 c) ∧ t.sl 9 = .val (.int .i64 c) ∧
          MO t.H nx_1 nx_2 idM n n ids caps (fun i => W.getD i []) ∧ t.sl 8 = .val (.bool trn) ∧ t.H nx_2 = some [.val (.bool (decide (last < 0))), .sl (D last.natAbs).length ((D last.natAbs).map U)] ∧ ∃ p : Nat, c ≤ p ∧ p ≤ n ∧ t.sl 10 = .val (.int .i64 p) ∧ findP W c p = findP W c c)
        (fun t => match t.sl 10 with | .val (.int _ k) => n - k.toNat | _ => 0) ?_ ?_
      · simp -implicitDefEqProofs (disch := omega) only [go_sem, ht, h1, h4, h6, h7, h27, h28, h8]
        exact ⟨hbn, hH0, hMO, hHb, c, Nat.le_refl _, hcn, rfl, rfl⟩
      · clear h1 h4 h6 h7 h27 hbn hH0 h28 hMO h8 hHb
        rintro t ⟨h1, h4, h6, h7, h27, hbn, hH0, h28, h9, hMO, h8, hHb, p, hcp, hpn, h10, hfp⟩
        by_cases hpe : p = n
        · subst hpe
          have hfe : findP W c c = W.length := by rw [← hfp]; exact findP_end (by omega)
          have hbn1 : barW W0 (c + 1) = none := by
            rw [barW, hbw]
            simp only []
            rw [if_neg (by omega)]
          have hbnn := barW_none hbn1 (p - (c + 1))
          rw [show c + 1 + (p - (c + 1)) = p by omega] at hbnn
          have hbd : barD W0 p = 0 := by unfold barD; rw [hbnn]
          rw [hbd]
          have hd0 : ¬ 32 < (D (0 : Int).natAbs).length := by rw [show (0 : Int).natAbs = 0 from rfl, D_zero]; simp
          rw [if_neg hd0, if_neg hd0]
          simp -implicitDefEqProofs (disch := omega) only [go_sem, ht, h1, h4, h6, h7, h27, h28, h8, h9, h10, hH0]
          (refine end_treeM 2 ?_; simp -implicitDefEqProofs (disch := omega) only [go_sem, ht, h4, upd_self, hH0]); (rw [show Int.natAbs 0 = 0 from rfl, D_zero]; rfl)
        · have hplt : p < n := by omega
          have hmp := hMO.lt p hplt
          have hmM := hMO.idM
          obtain ⟨r0, hHM⟩ := hMO.out
          obtain ⟨rp, hHp⟩ := hMO.row p hplt
          have hpl := hMO.len p hplt
          try simp only at hHp hpl
          have hgp := MC_get (ids := ids) (caps := caps) (cols := n) (r0.map .val) hplt
          have hat := CZ_at' (z := W.getD p []) (rp.map .val) (show c < (W.getD p []).length by omega)
          have hzb := hBI.z (by omega) (by omega) hcp hplt (Nat.le_refl c) hclt
          have hZp : Z (B + 1) (vc (W.getD p []) c) := Nat.lt_of_le_of_lt hzb (Nat.pow_lt_pow_right (by decide) (by omega))
          have hsg := signW (Wn.C hZp (by omega))
          have hfe := findP_eq (W := W) (c := c) (i := p) (by omega)
          have hle1 : c * 2 + 2 ≤ (SWc (CZ (W.getD p [])) ++ rp.map PV.val).length := by rw [List.length_append, SWc_len, CZ_len]; omega
          by_cases hz0 : vc (W.getD p []) c = 0
          · rw [if_neg (by simpa using hz0)] at hfe
            rw [hz0, cZ_eq rfl] at hsg
            rw [hz0] at hat
            simp -implicitDefEqProofs (disch := omega) only [go_sem, ht, h1, h4, h6, h7, h27, h28, h8, h9, h10, hHM, hgp, hHp, hat]
            (refine pCall_vw (by refine ⟨⟨?_, ?_⟩, ?_, ?_⟩; rotate_left 2; (first | (right; rintro r rfl; rfl) | left); all_goals ((try simp -implicitDefEqProofs (disch := omega) only [h1, h4, h6, h7, h27, h28, h8, h9, h10, hHM, hgp, hHp, hat, go_sem, ht]) <;> rfl)) (hsg) ?_; rintro _ nx - rfl hnx; simp -implicitDefEqProofs (disch := omega) only [h1, h4, h6, h7, h27, h28, h8, h9, h10, hHM, hgp, hHp, hat, go_sem, ht])
            exact ⟨⟨by omega, hH0, hMO, hHb, p + 1, by omega, by omega, rfl, by rw [← hfe]; exact hfp⟩, by omega⟩
          · rw [if_pos (by simpa using hz0)] at hfe
            have hfc : findP W c c = p := by rw [← hfp]; exact hfe
            have hs0 : cZ (vc (W.getD p []) c) 0 ≠ 0 := by unfold cZ; split <;> (try split) <;> omega
            generalize cZ (vc (W.getD p []) c) 0 = sx at *
            have hgc := MC_get (ids := ids) (caps := caps) (cols := n) (r0.map .val) hclt
            obtain ⟨hset1, hset2⟩ := MC_set (ids := ids) (caps := caps) (cols := n) (r0.map .val) hplt hclt
            have hpne : p ≠ n := hpe
            simp -implicitDefEqProofs (disch := omega) only [go_sem, ht, h1, h4, h6, h7, h27, h28, h8, h9, h10, hHM, hgp, hHp, hat]
            (refine pCall_vw (by refine ⟨⟨?_, ?_⟩, ?_, ?_⟩; rotate_left 2; (first | (right; rintro r rfl; rfl) | left); all_goals ((try simp -implicitDefEqProofs (disch := omega) only [h1, h4, h6, h7, h27, h28, h8, h9, h10, hHM, hgp, hHp, hat, hgc, hset1, hset2, hpne, go_sem, ht]) <;> rfl)) (hsg) ?_; rintro _ nx - rfl hnx; simp -implicitDefEqProofs (disch := omega) only [h1, h4, h6, h7, h27, h28, h8, h9, h10, hHM, hgp, hHp, hat, hgc, hset1, hset2, hpne, go_sem, ht])
            have hml1 := MC_len ids caps n n
            have hsl : (swapL W c p).length = n := by rw [swapL_len]; exact hlen
            have hsg : ∀ k, k < n → (swapL W c p).getD k [] = W.getD (swp p c k) [] := fun k hk => swapL_get (by omega) (by omega) (by omega)
            have hbw1 : barW W0 (c + 1) = some (bstep last c (swapL W c p), vc ((swapL W c p).getD c []) c, xor trn (decide (p ≠ c))) := by
              rw [barW, hbw]
              simp only []
              rw [hfc, if_pos (by omega)]
            have hBI1 := hall (c + 1) hclt _ _ _ hbw1
            have hW1l : ∀ k, k < n → ((swapL W c p).getD k []).length = n := fun k hk => by rw [hsg k hk]; exact hBI.row _ (swp_bd hplt hclt hk)
            have hW1z : ∀ i k, c ≤ i → i < n → c ≤ k → k < n → Z (B + 1) (vc ((swapL W c p).getD i []) k) := fun i k hi hin hk hkn => by
              rw [hsg i hin]
              exact Nat.lt_of_le_of_lt (hBI.z (by omega) (by omega) (swp_ge hcp hi) (swp_bd hplt hclt hin) hk hkn) (Nat.pow_lt_pow_right (by decide) (by omega))
            have hV : ∀ i, i < n → (bstep last c (swapL W c p)).getD i [] = if i ≤ c then (swapL W c p).getD i [] else brow last c ((swapL W c p).getD c []) ((swapL W c p).getD i []) := fun i hi => bstep_get (by omega)
            have hVl : ∀ i, i < n → ((bstep last c (swapL W c p)).getD i []).length = n := fun i hi => hBI1.row i hi
            have hMs := hMO.swp (rest := r0) hplt hclt
            have hfun : (fun i => W.getD (swp p c i) []) = fun i => W.getD (swp p c i) [] := rfl
            obtain ⟨W1, eW1⟩ : ∃ W1, swapL W c p = W1 := ⟨_, rfl⟩
            rw [eW1] at hsl hsg hbw1 hW1l hW1z hV hVl hBI1
            obtain ⟨V, eV⟩ : ∃ V, bstep last c W1 = V := ⟨_, rfl⟩
            rw [eV] at hbw1 hV hVl hBI1
            obtain ⟨tr2, etr⟩ : ∃ b, xor trn (decide (p ≠ c)) = b := ⟨_, rfl⟩
            rw [etr] at hbw1
            obtain ⟨I4, hI4⟩ : ∃ I : PS → Prop, I = fun t : PS => t.sl 1 = .val (.int .i64 n) ∧ t.sl 4 = .ptr 0 0 ∧ t.sl 6 = .ref idM 0 n capM 1 ∧ t.sl 7 = .ptr nx_2 0 ∧ t.sl 27 = .val (.int .i64 n) ∧ nx_2 < t.nx ∧ t.H 0 = some [.val (.bool false), .val (.slice none 0 0)] ∧ t.sl 28 = .val (.int .i64 c) ∧ t.sl 9 = .val (.int .i64 c) ∧ t.sl 8 = .val (.bool tr2) ∧
                t.H nx_2 = some [.val (.bool (decide (last < 0))), .sl (D last.natAbs).length ((D last.natAbs).map U)] ∧ ∃ i : Nat, c + 1 ≤ i ∧ i ≤ n ∧ t.sl 11 = .val (.int .i64 i) ∧ ∃ ids caps : Nat → Nat, MO t.H nx_1 nx_2 idM n n ids caps (fun j => if j < i then V.getD j [] else W1.getD j []) := ⟨_, rfl⟩
            have hVW : ∀ j, j < n → (if j < c + 1 then V.getD j [] else W1.getD j []) = W1.getD j [] := fun j hj => by
              split
              · rw [hV j hj, if_pos (by omega)]
              · rfl
            refine LW.both3 I4 (fun hne => by omega) (fun hne => by rw [List.length_set]; omega) (fun hne => ?_) (fun he => ?_) (fun s hs => ?_)
            · rw [hI4]
              have hpc : p ≠ c := by omega
              simp -implicitDefEqProofs (disch := omega) only [go_sem, ht, h1, h4, h6, h7, h27, h28, h8, h9, h10]
              refine ⟨by omega, ?_, ?_, ?_, c + 1, Nat.le_refl _, by omega, rfl, fun x => ids (swp p c x), fun x => caps (swp p c x), ?_⟩
              · exact hH0
              · rw [← etr]; simp [hpc]
              · exact hHb
              · exact hMs.congr fun j hj => by rw [hVW j hj, hsg j hj]
            · rw [hI4]
              have hpc : p = c := by omega
              simp -implicitDefEqProofs (disch := omega) only [go_sem, ht, h1, h4, h6, h7, h27, h28, h8, h9, h10]
              refine ⟨by omega, hH0, ?_, hHb, c + 1, Nat.le_refl _, by omega, rfl, ids, caps, ?_⟩
              · rw [← etr]; simp [hpc]
              · exact hMO.congr fun j hj => by
                  rw [hVW j hj, hsg j hj]
                  have : swp p c j = j := by
                    subst hpc
                    unfold swp
                    split
                    · omega
                    · rfl
                  rw [this]
            · refine LW.loopW hc ht (by kernel_rfl) I4 (fun t => match t.sl 11 with | .val (.int _ k) => n - k.toNat | _ => 0) hs ?_
              clear hs h1 h4 h6 h7 h27 hbn hH0 h28 h9 hMO h8 hHb h10 hHM hgp hHp hat hgc hset1 hset2 hsg hMs hmp
              intro s hs
              rw [hI4] at hs
              obtain ⟨h1, h4, h6, h7, h27, hbn, hH0, h28, h9, h8, hHb, i, hci, hin, h11, ids, caps, hMO⟩ := hs
              by_cases hie : i = n
              · subst hie
                have hMV : MO s.H nx_1 nx_2 idM i i ids caps (fun j => V.getD j []) := hMO.congr fun j hj => if_pos hj
                have hmM := hMV.idM
                have hmc := hMV.lt c hclt
                obtain ⟨r0, hHM⟩ := hMV.out
                obtain ⟨rc, hHc⟩ := hMV.row c hclt
                have hcl := hVl c hclt
                have hgc := MC_get (ids := ids) (caps := caps) (cols := i) (r0.map .val) hclt
                have hat := CZ_at' (z := V.getD c []) (rc.map .val) (show c < (V.getD c []).length by omega)
                have hVc : V.getD c [] = W1.getD c [] := by rw [hV c hclt, if_pos (Nat.le_refl _)]
                try simp only at hHc
                rw [hVc] at hHc hat hcl
                generalize hx : vc (W1.getD c []) c = x at *
                generalize W1.getD c [] = z at *
                simp -implicitDefEqProofs (disch := omega) only [go_sem, ht, h1, h4, h6, h7, h27, h28, h8, h9, h11, hHM, hgc, hHc, hat, hHb]
                refine ⟨⟨hbn, hH0, c + 1, by omega, rfl, ids, caps, V, x, tr2, hbw1, ?_, rfl, rfl⟩, by omega⟩
                exact hMV.mono (Nat.le_refl _) fun j h1 h2 => upd_ne _ _ (by omega)
              · have hilt : i < n := by omega
                simp -implicitDefEqProofs (disch := omega) only [go_sem, ht, h1, h4, h6, h7, h27, h28, h8, h9, h11]
                refine LW.loopW hc ht (by kernel_rfl) (fun t => t.sl 1 = .val (.int .i64 n) ∧ t.sl 4 = .ptr 0 0 ∧ t.sl 6 = .ref idM 0 n capM 1 ∧ t.sl 7 = .ptr nx_2 0 ∧ t.sl 27 = .val (.int .i64 n) ∧ nx_2 < t.nx ∧ t.H 0 = some [.val (.bool false), .val (.slice none 0 0)] ∧ t.sl 28 = .val (.int .i64 c) ∧ t.sl 9 = .val (.int .i64 c) ∧ t.sl 8 = .val (.bool tr2) ∧
                    t.H nx_2 = some [.val (.bool (decide (last < 0))), .sl (D last.natAbs).length ((D last.natAbs).map U)] ∧ t.sl 11 = .val (.int .i64 i) ∧ ∃ k : Nat, c + 1 ≤ k ∧ k ≤ n ∧ t.sl 12 = .val (.int .i64 k) ∧ MO t.H nx_1 nx_2 idM n n ids caps (fun j => if j = i then (V.getD i []).take k ++ (W1.getD i []).drop k else if j < i then V.getD j [] else W1.getD j []))
                  (fun t => match t.sl 12 with | .val (.int _ k) => n - k.toNat | _ => 0) ?_ ?_
                · simp -implicitDefEqProofs (disch := omega) only [go_sem, ht, h1, h4, h6, h7, h27, h28, h8, h9, h11]
                  refine ⟨hbn, hH0, hHb, c + 1, Nat.le_refl _, by omega, rfl, hMO.congr fun j hj => ?_⟩
                  by_cases hji : j = i
                  · subst hji
                    rw [if_neg (by omega), if_pos rfl]
                    refine List.ext_getElem (by rw [mix_len (hVl j hj) (hW1l j hj) (by omega), hW1l j hj]) fun q g1 g2 => ?_
                    rw [← vc_lt g1, ← vc_lt g2, mix_get (hVl j hj) (hW1l j hj) (by omega)]
                    split
                    · rw [hV j hj, if_neg (by omega), brow_vc (by omega), if_pos (by omega)]
                    · rfl
                  · rw [if_neg hji]
                · clear h1 h4 h6 h7 h27 hbn hH0 h28 h9 h8 hHb h11 hMO
                  rintro u ⟨h1, h4, h6, h7, h27, hbn, hH0, h28, h9, h8, hHb, h11, k, hck, hkn, h12, hMO⟩
                  by_cases hke : k = n
                  · subst hke
                    simp -implicitDefEqProofs (disch := omega) only [go_sem, ht, h1, h4, h6, h7, h27, h28, h8, h9, h11, h12]
                    rw [hI4]
                    refine ⟨⟨by simp -implicitDefEqProofs (disch := omega) only [go_sem, ht, h1], by simp -implicitDefEqProofs (disch := omega) only [go_sem, ht, h4], by simp -implicitDefEqProofs (disch := omega) only [go_sem, ht, h6], by simp -implicitDefEqProofs (disch := omega) only [go_sem, ht, h7], by simp -implicitDefEqProofs (disch := omega) only [go_sem, ht, h27], hbn, hH0, by simp -implicitDefEqProofs (disch := omega) only [go_sem, ht, h28], by simp -implicitDefEqProofs (disch := omega) only [go_sem, ht, h9], by simp -implicitDefEqProofs (disch := omega) only [go_sem, ht, h8], hHb, i + 1, by omega, by omega, by simp -implicitDefEqProofs (disch := omega) only [go_sem, ht], ids, caps, hMO.congr fun j hj => ?_⟩, by omega⟩
                    by_cases hji : j = i
                    · subst hji
                      rw [if_pos rfl, if_pos (by omega), List.take_of_length_le (by rw [hVl j hj]; omega), List.drop_of_length_le (by rw [hW1l j hj]; omega), List.append_nil]
                    · rw [if_neg hji]
                      by_cases hlt : j < i
                      · rw [if_pos hlt, if_pos (by omega)]
                      · rw [if_neg hlt, if_neg (by omega)]
                  · have hklt : k < n := by omega
                    have hmM := hMO.idM
                    have hmc := hMO.lt c hclt
                    have hmi := hMO.lt i hilt
                    have hcne : ids c ≠ ids i := fun e => by have := hMO.inj c i hclt hilt e; omega
                    obtain ⟨r0, hHM⟩ := hMO.out
                    obtain ⟨rc, hHc⟩ := hMO.row c hclt
                    obtain ⟨ri, hHi⟩ := hMO.row i hilt
                    have hVc : V.getD c [] = W1.getD c [] := by rw [hV c hclt, if_pos (Nat.le_refl _)]
                    simp only [show ¬ c = i by omega, show c < i by omega, if_true, if_false, hVc] at hHc hHi
                    have hMil := mix_len (hVl i hilt) (hW1l i hilt) hkn
                    have hg1 : vc ((V.getD i []).take k ++ (W1.getD i []).drop k) k = vc (W1.getD i []) k := by rw [mix_get (hVl i hilt) (hW1l i hilt) hkn, if_neg (by omega)]
                    have hg2 : vc ((V.getD i []).take k ++ (W1.getD i []).drop k) c = vc (W1.getD i []) c := by rw [mix_get (hVl i hilt) (hW1l i hilt) hkn, if_pos (by omega), hV i hilt, if_neg (by omega), brow_vc (by rw [hW1l i hilt]; omega), if_pos (Nat.le_refl _)]
                    have hVk : vc (V.getD i []) k = (vc (W1.getD i []) k * vc (W1.getD c []) c - vc (W1.getD i []) c * vc (W1.getD c []) k) / last := by rw [hV i hilt, if_neg (by omega), brow_vc (by rw [hW1l i hilt]; omega), if_neg (by omega)]
                    have hset := mix_set (hVl i hilt) (hW1l i hilt) hklt hVk
                    have hati := CZ_at' (z := (V.getD i []).take k ++ (W1.getD i []).drop k) (c := k) (ri.map .val) (by omega)
                    have hatc := CZ_at' (z := (V.getD i []).take k ++ (W1.getD i []).drop k) (c := c) (ri.map .val) (by omega)
                    have hacc := CZ_at' (z := W1.getD c []) (c := c) (rc.map .val) (by rw [hW1l c hclt]; omega)
                    have hack := CZ_at' (z := W1.getD c []) (c := k) (rc.map .val) (by rw [hW1l c hclt]; omega)
                    rw [hg1] at hati
                    rw [hg2] at hatc
                    have hgc := MC_get (ids := ids) (caps := caps) (cols := n) (r0.map .val) hclt
                    have hgi := MC_get (ids := ids) (caps := caps) (cols := n) (r0.map .val) hilt
                    have z1 := hW1z i k (by omega) hilt (by omega) hklt
                    have z2 := hW1z c c (Nat.le_refl _) hclt (Nat.le_refl _) hclt
                    have z3 := hW1z i c (by omega) hilt (Nat.le_refl _) hclt
                    have z4 := hW1z c k (Nat.le_refl _) hclt (by omega) hklt
                    have m1 := mulW (Wn.C z1 (by omega)) (Wn.C z2 (by omega))
                    have m2 := mulW (Wn.C z3 (by omega)) (Wn.C z4 (by omega))
                    have s1 := subW (Wn.C (z1.mul z2) (by omega)) (Wn.C (z3.mul z4) (by omega))
                    have zs := (z1.mul z2).sub (z3.mul z4)
                    have hZl : Z (B + 1) last := Nat.lt_of_le_of_lt hlz (Nat.pow_lt_pow_right (by decide) (by omega))
                    have d1 := divW (Wn.C zs (by omega)) (Wn.C hZl (by omega)) hl0
                    have hsp := spl_set' (z := (V.getD i []).take k ++ (W1.getD i []).drop k) (p := k) (ri.map .val) (by omega) ((vc (W1.getD i []) k * vc (W1.getD c []) c - vc (W1.getD i []) c * vc (W1.getD c []) k) / last)
                    rw [hset] at hsp
                    have hlen3 : (SWc (CZ ((V.getD i []).take k ++ (W1.getD i []).drop k)) ++ ri.map PV.val).length = n * 2 + ri.length := by rw [List.length_append, SWc_len, CZ_len, hMil, List.length_map]; omega
                    have hmix1 : ((V.getD i []).take (k + 1) ++ (W1.getD i []).drop (k + 1)).length = n := mix_len (hVl i hilt) (hW1l i hilt) hklt
                    clear hset hVk hg1 hg2 z1 z2 z3 z4 zs hVc
                    generalize (vc (W1.getD i []) k * vc (W1.getD c []) c - vc (W1.getD i []) c * vc (W1.getD c []) k) % last = rm at *
                    generalize (vc (W1.getD i []) k * vc (W1.getD c []) c - vc (W1.getD i []) c * vc (W1.getD c []) k) / last = q at *
                    generalize vc (W1.getD i []) k * vc (W1.getD c []) c - vc (W1.getD i []) c * vc (W1.getD c []) k = x0 at *
                    generalize vc (W1.getD i []) k * vc (W1.getD c []) c = x5 at *
                    generalize vc (W1.getD i []) c * vc (W1.getD c []) k = x6 at *
                    generalize vc (W1.getD i []) k = x1 at *
                    generalize vc (W1.getD c []) c = x2 at *
                    generalize vc (W1.getD i []) c = x3 at *
                    generalize vc (W1.getD c []) k = x4 at *
                    obtain ⟨mx, emx⟩ : ∃ mx, (V.getD i []).take k ++ (W1.getD i []).drop k = mx := ⟨_, rfl⟩
                    obtain ⟨mx1, emx1⟩ : ∃ mx, (V.getD i []).take (k + 1) ++ (W1.getD i []).drop (k + 1) = mx := ⟨_, rfl⟩
                    obtain ⟨wc, ewc⟩ : ∃ wc, W1.getD c [] = wc := ⟨_, rfl⟩
                    rw [emx] at hHi hati hatc hsp hlen3 hMil
                    rw [emx1] at hsp hmix1
                    rw [ewc] at hHc hacc hack
                    simp -implicitDefEqProofs (disch := omega) only [go_sem, ht, h1, h4, h6, h7, h27, h28, h8, h9, h11, h12, hHM, hgi, hgc, hHi, hHc, hati, hatc, hacc, hack]
                    ((refine pCall_vw (by refine ⟨⟨?_, ?_⟩, ?_, ?_⟩; rotate_left 2; (first | (right; rintro r rfl; rfl) | left); all_goals ((try simp -implicitDefEqProofs (disch := omega) only [h1, h4, h6, h7, h27, h28, h8, h9, h11, h12, hHM, hgi, hgc, hHi, hHc, hati, hatc, hacc, hack, hHb, go_sem, ht]) <;> rfl)) (m1) ?_; rintro _ nx_7 - rfl hnx_7; simp -implicitDefEqProofs (disch := omega) only [h1, h4, h6, h7, h27, h28, h8, h9, h11, h12, hHM, hgi, hgc, hHi, hHc, hati, hatc, hacc, hack, hHb, go_sem, ht]); (refine pCall_vw (by refine ⟨⟨?_, ?_⟩, ?_, ?_⟩; rotate_left 2; (first | (right; rintro r rfl; rfl) | left); all_goals ((try simp -implicitDefEqProofs (disch := omega) only [h1, h4, h6, h7, h27, h28, h8, h9, h11, h12, hHM, hgi, hgc, hHi, hHc, hati, hatc, hacc, hack, hHb, go_sem, ht]) <;> rfl)) (m2) ?_; rintro _ nx_8 - rfl hnx_8; simp -implicitDefEqProofs (disch := omega) only [h1, h4, h6, h7, h27, h28, h8, h9, h11, h12, hHM, hgi, hgc, hHi, hHc, hati, hatc, hacc, hack, hHb, go_sem, ht]); (refine pCall_vw (by refine ⟨⟨?_, ?_⟩, ?_, ?_⟩; rotate_left 2; (first | (right; rintro r rfl; rfl) | left); all_goals ((try simp -implicitDefEqProofs (disch := omega) only [h1, h4, h6, h7, h27, h28, h8, h9, h11, h12, hHM, hgi, hgc, hHi, hHc, hati, hatc, hacc, hack, hHb, go_sem, ht]) <;> rfl)) (s1) ?_; rintro _ nx_9 - rfl hnx_9; simp -implicitDefEqProofs (disch := omega) only [h1, h4, h6, h7, h27, h28, h8, h9, h11, h12, hHM, hgi, hgc, hHi, hHc, hati, hatc, hacc, hack, hHb, go_sem, ht]))
                    ((refine pCall_vw (by refine ⟨⟨?_, ?_⟩, ?_, ?_⟩; rotate_left 2; (first | (right; rintro r rfl; rfl) | left); all_goals ((try simp -implicitDefEqProofs (disch := omega) only [h1, h4, h6, h7, h27, h28, h8, h9, h11, h12, hHM, hgi, hgc, hHi, hHc, hati, hatc, hacc, hack, hHb, hsp, hlen3, go_sem, ht]) <;> rfl)) (d1) ?_; rintro _ nx_10 - rfl hnx_10; simp -implicitDefEqProofs (disch := omega) only [h1, h4, h6, h7, h27, h28, h8, h9, h11, h12, hHM, hgi, hgc, hHi, hHc, hati, hatc, hacc, hack, hHb, hsp, hlen3, go_sem, ht]))
                    refine ⟨⟨by omega, hH0, k + 1, by omega, by omega, rfl, ?_⟩, by omega⟩
                    have hM2 := hMO.mono (H' := upd u.H nx_9 (some [PV.val (Value.bool (decide (x0 < 0))), PV.sl (D x0.natAbs).length (List.map U (D x0.natAbs))])) (Nat.le_refl _) (fun j h1 h2 => upd_ne _ _ (by omega))
                    refine (MO.set (rest := ri) hM2 hilt hmix1).congr fun j hj => ?_
                    by_cases hji : j = i
                    · rw [if_pos hji, if_pos hji, emx1]
                    · rw [if_neg hji, if_neg hji, if_neg hji]

def mDet (m : List (List (Bool × List Nat))) (c : Int) : Int × Int :=
  if wrongM m c || decide ((m.length : Int) ≠ c) then (0, 1) else if 32 < (D (detZ (m.map vals) c.toNat).natAbs).length then (0, 2) else (detZ (m.map vals) c.toNat, 0)
theorem mdet_calls (h : Mx m B) {cn : Int} : PT Try.prog 30 [SM m, .val (.int .i64 cn)] (isV (.tup [WC (mDet m cn).1, .val (.int .i64 (mDet m cn).2)])) := by
  have hw := wrong_calls (m := m) (cn := cn)
  unfold mDet
  by_cases hb : wrongM m cn = true
  · rw [hb] at hw
    rw [hb, Bool.true_or, if_pos rfl]
    refine PCalls.enter (n := 145) (rs := [.cell 4 30, .tmp 5]) (tb := [(14, [(0, []), (1, []), (2, []), (3, []), (4, []), (5, []), (6, []), (7, []), (8, []), (9, []), (10, []), (11, []), (12, []), (13, [2, 3]), (14, []), (15, [])]), (1000014, [(0, []), (0, []), (0, []), (0, []), (0, []), (0, []), (48, []), (112, []), (0, []), (0, []), (768, []), (1792, []), (4083, []), (8179, []), (16383, []), (32767, [])]), (22, [(0, []), (1, []), (2, []), (3, []), (4, []), (5, []), (6, []), (7, []), (8, []), (9, []), (10, []), (11, []), (12, []), (13, []), (15, []), (16, []), (17, []), (18, []), (19, []), (20, []), (21, []), (22, []), (23, []), (24, []), (25, []), (26, []), (27, []), (28, []), (14, [15, 16, 17, 18, 19, 20, 21, 22, 23, 24, 25, 26, 27, 28]), (29, []), (30, []), (31, [0, 1, 2, 3, 4, 5, 6, 7, 8, 9, 10, 11, 12, 13, 15, 16, 17, 18, 19, 20, 21, 22, 23, 24, 25, 26, 27, 28]), (32, [])]), (1000022, [(0, []), (0, []), (3, []), (7, []), (0, []), (31, []), (63, []), (0, []), (0, []), (384, []), (896, []), (0, []), (3968, []), (8064, []), (16383, []), (0, []), (0, []), (98304, []), (229376, []), (0, []), (1015808, []), (2064384, []), (0, []), (0, []), (12582912, []), (29360128, []), (0, []), (130023424, []), (264241152, []), (536870911, []), (1073741823, []), (0, []), (4294967295, [])]), (23, [(0, []), (1, []), (2, []), (3, []), (4, []), (5, []), (6, []), (7, [0, 1, 2, 3, 4]), (8, []), (9, []), (10, []), (11, []), (12, []), (13, [10, 11])]), (1000023, [(0, []), (0, []), (3, []), (7, []), (0, []), (0, []), (0, []), (96, []), (224, []), (480, []), (480, []), (480, []), (1023, []), (5119, [])])]) Try.func30 rfl rfl rfl (by kernel_rfl) (by kernel_rfl) (by simp) fun c hc ht => ?_
    simp -implicitDefEqProofs (disch := omega) only [go_sem, ht]
    (refine pCall_vw (by refine ⟨⟨?_, ?_⟩, ?_, ?_⟩; rotate_left 2; (first | (right; rintro r rfl; rfl) | left); all_goals ((try simp -implicitDefEqProofs (disch := omega) only [go_sem, ht]) <;> rfl)) (hw) ?_; rintro _ nx - rfl hnx; simp -implicitDefEqProofs (disch := omega) only [go_sem, ht])
    (refine end_treeM 2 ?_; simp -implicitDefEqProofs (disch := omega) only [go_sem, ht, upd_self]); (rw [show Int.natAbs 0 = 0 from rfl, D_zero]; rfl)
  · have hb' : wrongM m cn = false := by simpa using hb
    by_cases hmc : (m.length : Int) = cn
    · obtain ⟨k, rfl, hn, hml, hlc⟩ := wrongM_false hb'
      have hmk : m.length = k := by omega
      have hd := det_calls h hlc hmk hn hb'
      rw [hb', Bool.false_or, if_neg (by simp [hmk]), Int.toNat_natCast]
      have e : (if 32 < (D (detZ (m.map vals) k).natAbs).length then ((0, 2) : Int × Int) else (detZ (m.map vals) k, 0)) = (if 32 < (D (detZ (m.map vals) k).natAbs).length then 0 else detZ (m.map vals) k, if 32 < (D (detZ (m.map vals) k).natAbs).length then 2 else 0) := by split <;> rfl
      rw [e]
      exact hd
    · rw [hb'] at hw
      rw [if_pos (by simp [hmc])]
      have hmc' : ¬ ((m.length : Nat) : Int) = cn := hmc
      refine PCalls.enter (n := 145) (rs := [.cell 4 30, .tmp 5]) (tb := [(14, [(0, []), (1, []), (2, []), (3, []), (4, []), (5, []), (6, []), (7, []), (8, []), (9, []), (10, []), (11, []), (12, []), (13, [2, 3]), (14, []), (15, [])]), (1000014, [(0, []), (0, []), (0, []), (0, []), (0, []), (0, []), (48, []), (112, []), (0, []), (0, []), (768, []), (1792, []), (4083, []), (8179, []), (16383, []), (32767, [])]), (22, [(0, []), (1, []), (2, []), (3, []), (4, []), (5, []), (6, []), (7, []), (8, []), (9, []), (10, []), (11, []), (12, []), (13, []), (15, []), (16, []), (17, []), (18, []), (19, []), (20, []), (21, []), (22, []), (23, []), (24, []), (25, []), (26, []), (27, []), (28, []), (14, [15, 16, 17, 18, 19, 20, 21, 22, 23, 24, 25, 26, 27, 28]), (29, []), (30, []), (31, [0, 1, 2, 3, 4, 5, 6, 7, 8, 9, 10, 11, 12, 13, 15, 16, 17, 18, 19, 20, 21, 22, 23, 24, 25, 26, 27, 28]), (32, [])]), (1000022, [(0, []), (0, []), (3, []), (7, []), (0, []), (31, []), (63, []), (0, []), (0, []), (384, []), (896, []), (0, []), (3968, []), (8064, []), (16383, []), (0, []), (0, []), (98304, []), (229376, []), (0, []), (1015808, []), (2064384, []), (0, []), (0, []), (12582912, []), (29360128, []), (0, []), (130023424, []), (264241152, []), (536870911, []), (1073741823, []), (0, []), (4294967295, [])]), (23, [(0, []), (1, []), (2, []), (3, []), (4, []), (5, []), (6, []), (7, [0, 1, 2, 3, 4]), (8, []), (9, []), (10, []), (11, []), (12, []), (13, [10, 11])]), (1000023, [(0, []), (0, []), (3, []), (7, []), (0, []), (0, []), (0, []), (96, []), (224, []), (480, []), (480, []), (480, []), (1023, []), (5119, [])])]) Try.func30 rfl rfl rfl (by kernel_rfl) (by kernel_rfl) (by simp) fun c hc ht => ?_
      simp -implicitDefEqProofs (disch := omega) only [go_sem, ht]
      (refine pCall_vw (by refine ⟨⟨?_, ?_⟩, ?_, ?_⟩; rotate_left 2; (first | (right; rintro r rfl; rfl) | left); all_goals ((try simp -implicitDefEqProofs (disch := omega) only [hmc', go_sem, ht]) <;> rfl)) (hw) ?_; rintro _ nx - rfl hnx; simp -implicitDefEqProofs (disch := omega) only [hmc', go_sem, ht])
      (refine end_treeM 2 ?_; simp -implicitDefEqProofs (disch := omega) only [go_sem, ht, upd_self]); (rw [show Int.natAbs 0 = 0 from rfl, D_zero]; rfl)
end
end Go.Proofs.Ytfjdfnlkobeehaa
end

section
set_option maxRecDepth 100000
set_option linter.unusedVariables false
set_option linter.unusedSimpArgs false
namespace Go.Proofs.Ytfjdfnlkobeehaa


theorem Gh.nilC {st : PS} {id i : Nat} {cs : List PV} (sz : Nat) (h0 : st.H id = some cs) (hi : cs[i]? = some (.val (.slice none 0 0))) :
    Gh st (st.withH (upd (upd st.H st.nx (some [])) id (some (cs.set i (.ref st.nx 0 0 0 sz)))) (st.nx + 1)) := by
  rintro c a w ⟨ρ, h⟩
  have hid : id < st.nx := h.own.bound id (.inl (by rw [h0]; simp))
  have hne : cs ≠ [] := fun e => by rw [e] at hi; simp at hi
  have hl : ∀ i, Live (upd st.H st.nx (some [])) st.it i → Live st.H st.it i := by
    rintro i (⟨cs, hc, hne⟩ | hi)
    · by_cases hx : i = st.nx
      · subst hx; rw [upd_self] at hc; simp at hc; exact absurd hc.symm (by simpa using hne)
      · rw [upd_ne _ _ hx] at hc; exact .inl ⟨cs, hc, hne⟩
    · exact .inr hi
  have hle : En.le (enOf c.A0 w ρ st.H st.it st.nx) (enOf c.A0 w ρ (upd st.H st.nx (some [])) st.it (st.nx + 1)) :=
    ⟨fun _ _ _ _ hv => hv, fun b _ _ hA _ hA' => hA (hA'.imp_right fun ⟨i, hi, e⟩ => ⟨i, hl i hi, e⟩), Nat.le_succ _, fun _ _ => rfl⟩
  have h1 : Rr c (st.withH (upd st.H st.nx (some [])) (st.nx + 1)) a w ρ := by
    refine ⟨⟨fun i hi => ?_, fun i cs hc hne => ?_, fun i j hi hj he => h.own.inj i j (hl i hi) (hl j hj) he, fun i cs hc hne => ?_, h.own.itb, fun i hi => h.own.out i (hl i hi)⟩,
      fun u => Rep.mono hle _ _ (h.slots u), h.size, h.defers, h.frame, h.grow, Nat.le_succ_of_le h.ids, h.ρk, h.fF, h.fA, h.sw⟩
    · have hi : upd st.H st.nx (some []) i ≠ none ∨ st.it i ≠ none := hi
      by_cases hx : i = st.nx
      · exact hx ▸ Nat.lt_succ_self _
      · rw [upd_ne _ _ hx] at hi; exact Nat.lt_succ_of_lt (h.own.bound i hi)
    · have hc : upd st.H st.nx (some []) i = some cs := hc
      by_cases hx : i = st.nx
      · subst hx; rw [upd_self] at hc; simp at hc; exact absurd hc.symm (by simpa using hne)
      · rw [upd_ne _ _ hx] at hc; exact h.own.excl i cs hc hne
    · have hc : upd st.H st.nx (some []) i = some cs := hc
      by_cases hx : i = st.nx
      · subst hx; rw [upd_self] at hc; simp at hc; exact absurd hc.symm (by simpa using hne)
      · rw [upd_ne _ _ hx] at hc
        obtain ⟨vs, e, hb, hr⟩ := h.own.blk i cs hc hne
        exact ⟨vs, e, hb, RepL.mono hle _ _ hr⟩
  obtain ⟨vs, e, hh, hr⟩ := h.own.blk id cs h0 hne
  have hr' := RepL.mono hle _ _ hr
  refine ⟨ρ, Rr.cells (st := st.withH (upd st.H st.nx (some [])) (st.nx + 1)) h1 (id := id) (cs := cs) (by show upd st.H st.nx (some []) id = some cs; rw [upd_ne _ _ (by omega)]; exact h0) hne (fun e => hne (by simpa using e)) ⟨vs, e, hh, ?_⟩⟩
  have hlen := RepL.length hr'
  refine RepL.of_get (by rw [List.length_set]; exact hlen) fun k h1 h2 => ?_
  obtain ⟨v, hv, hrv⟩ := RepL.get hr' k (cs[k]'(by simpa using h1)) (by simp at h1; simp [h1])
  have hvk : vs.toList[k] = v := by
    have := List.getElem?_eq_getElem h2
    rw [this] at hv; exact Option.some.inj hv
  rw [hvk, List.getElem_set]
  by_cases hik : i = k
  · subst hik
    rw [if_pos rfl]
    have : cs[i]'(by simpa using h1) = .val (.slice none 0 0) := by
      have e := List.getElem?_eq_getElem (l := cs) (i := i) (by simpa using h1)
      rw [e] at hi; exact Option.some.inj hi
    rw [this] at hrv
    simp only [Rep] at hrv ⊢
    exact ⟨Nat.lt_succ_self _, Nat.le_refl _, .inr ⟨trivial, trivial, hrv⟩⟩
  · rw [if_neg hik]; exact hrv

section
variable {W : List (List Int)} {n i j : Nat}
theorem rw0_set {z : List Int} (hi : i < W.length) : rw0 (W.set i z) = fun t => if t = i then vc z else rw0 W t := by
  funext t
  unfold rw0
  by_cases h : t = i
  · subst h; simp [hi]
  · rw [if_neg h]
    simp only [List.getD_eq_getElem?_getD, List.getElem?_set]
    rw [if_neg (fun e => h e.symm)]
theorem rows_set {z : List Int} (hl : W.length = n) (hi : i < n) : (List.range n).map (rw0 (W.set i z)) = ((List.range n).map (rw0 W)).set i (vc z) := by
  rw [rw0_set (by omega)]
  refine List.ext_getElem (by simp) fun k h1 h2 => ?_
  simp only [List.getElem_map, List.getElem_range, List.getElem_set]
  by_cases h : k = i
  · subst h; simp
  · rw [if_neg h, if_neg (fun e => h e.symm)]
theorem set_split {α : Type} {l : List α} {i : Nat} (h : i < l.length) : ∃ pre post, l = pre ++ l[i] :: post ∧ pre.length = i ∧ ∀ w, l.set i w = pre ++ w :: post := by
  refine ⟨l.take i, l.drop (i + 1), ?_, by simp; omega, fun w => by rw [List.set_eq_take_append_cons_drop, if_pos h]⟩
  rw [← List.drop_eq_getElem_cons h, List.take_append_drop]

theorem det_swap (hl : W.length = n) (hi : i < n) (hj : j < n) (hij : i ≠ j) : detZ ((W.set i (W.getD j [])).set j (W.getD i [])) n = -detZ W n := by
  have hr : ((List.range n).map (rw0 W)).length = n := by simp
  have hg : ∀ k (hk : k < n), ((List.range n).map (rw0 W))[k]'(by omega) = vc (W.getD k []) := fun k hk => by simp [rw0]
  unfold detZ
  rw [rows_set (by simpa using hl) hj, rows_set hl hi]
  by_cases h : i < j
  · have := dt_set (cs := List.range n) (l := (List.range n).map (rw0 W)) h (by omega)
    rw [hg i hi, hg j hj] at this
    exact this
  · have := dt_set (cs := List.range n) (l := (List.range n).map (rw0 W)) (show j < i by omega) (by omega)
    rw [hg i hi, hg j hj] at this
    rw [List.set_comm _ _ hij]
    exact this
theorem det_scale {z : List Int} {t : Int} (hl : W.length = n) (hi : i < n) (hz : ∀ k, vc z k = t * vc (W.getD i []) k) : detZ (W.set i z) n = t * detZ W n := by
  have hr : ((List.range n).map (rw0 W)).length = n := by simp
  unfold detZ
  rw [rows_set hl hi]
  obtain ⟨pre, post, e, hp, hw⟩ := set_split (l := (List.range n).map (rw0 W)) (i := i) (by omega)
  have hg : ((List.range n).map (rw0 W))[i]'(by omega) = vc (W.getD i []) := by simp [rw0]
  rw [hw]
  rw [hg] at e
  conv => rhs; rw [e]
  exact dt_scale fun k _ => hz k
theorem det_add {z : List Int} {t : Int} (hl : W.length = n) (hi : i < n) (hj : j < n) (hij : i ≠ j) (hz : ∀ k, vc z k = vc (W.getD i []) k + t * vc (W.getD j []) k) : detZ (W.set i z) n = detZ W n := by
  have hr : ((List.range n).map (rw0 W)).length = n := by simp
  unfold detZ
  rw [rows_set hl hi]
  obtain ⟨pre, post, e, hp, hw⟩ := set_split (l := (List.range n).map (rw0 W)) (i := i) (by omega)
  have hg : ∀ k (hk : k < n), ((List.range n).map (rw0 W))[k]'(by omega) = vc (W.getD k []) := fun k hk => by simp [rw0]
  rw [hg i hi] at e
  have hmem : vc (W.getD j []) ∈ pre ∨ vc (W.getD j []) ∈ post := by
    have h1 : ((List.range n).map (rw0 W))[j]? = some (vc (W.getD j [])) := by
      rw [List.getElem?_eq_getElem (by omega), hg j hj]
    rw [e] at h1
    by_cases hlt : j < i
    · rw [List.getElem?_append_left (by omega)] at h1
      exact .inl (List.mem_of_getElem? h1)
    · rw [List.getElem?_append_right (by omega), show j - pre.length = (j - pre.length - 1) + 1 by omega, List.getElem?_cons_succ] at h1
      exact .inr (List.mem_of_getElem? h1)
  have h1 := dt_lin (List.range n) pre post 1 t (vc (W.getD i [])) (vc (W.getD j [])) (vc z) fun k _ => by rw [hz k]; omega
  rw [hw, h1, dt_mem hmem, ← e]; omega
end
theorem det_nil : detZ [] 0 = 1 := rfl
theorem det_one {z : List Int} : detZ [z] 1 = vc z 0 := by
  show dt [0] [vc z] = _
  simp [dt, dtx]
end Go.Proofs.Ytfjdfnlkobeehaa
end
