/- Part 42 of the way to the statement: the walk and what it needs. -/
import Derived.Test.YtfjdfnlkobeehaaKDeF36
import Derived.Test.YtfjdfnlkobeehaaKDeF38
import Derived.Test.YtfjdfnlkobeehaaKDeF39
import Derived.Test.YtfjdfnlkobeehaaKDeF40
import Derived.Test.YtfjdfnlkobeehaaKDeF41
section
set_option maxRecDepth 100000
set_option linter.unusedVariables false
set_option linter.unusedSimpArgs false
namespace Go.Proofs.Ytfjdfnlkobeehaa

theorem spl_app {α : Type} {l r : List α} {k : Nat} {x : List α} (h : k + x.length ≤ l.length) : spl (l ++ r) k x = spl l k x ++ r := by
  unfold spl
  rw [List.take_append_of_le_length (by omega), List.drop_append_of_le_length h, List.append_assoc, List.append_assoc]
theorem spl_set' {z : List Int} {p : Nat} (r : List PV) (h : p < z.length) (x : Int) : spl (SWc (CZ z) ++ r) (p * 2) [.val (.bool (decide (x < 0))), .sl (D x.natAbs).length ((D x.natAbs).map U)] = SWc (CZ (z.set p x)) ++ r := by
  rw [spl_app (by rw [SWc_len, CZ_len]; simp; omega), spl_set h]
theorem CZ_at' {z : List Int} {c : Nat} (r : List PV) (h : c < z.length) : (SWc (CZ z) ++ r).drop (c * 2) = .val (.bool (decide (vc z c < 0))) :: SU (D (vc z c).natAbs) :: (SWc (CZ (z.drop (c + 1))) ++ r) := by
  rw [List.drop_append_of_le_length (by rw [SWc_len, CZ_len]; omega), CZ_at h]; rfl
def rowQ (l : List (Bool × List Nat)) (H : Nat → Option (List PV)) (nx : Nat) (r : PV) (H' : Nat → Option (List PV)) (nx' : Nat) : Prop :=
  ∃ (id cap : Nat) (rest : List Value), r = .ref id 0 l.length cap 2 ∧ H' id = some (SWc l ++ rest.map .val) ∧ nx ≤ id ∧ id < nx' ∧ ∀ j, j < nx → H' j = H j
theorem each_wN {l : List (Bool × List Nat)} {zs : List Int} {f : FuncId} {caps : List PV} {H : Nat → Option (List PV)} {nx : Nat} (hf : flatL caps = true) (hcv : ∀ H, caps.map (view H) = caps) (hlen : l.length ≤ 1000000) (hz : zs.length = l.length)
    (h : ∀ i (hi : i < l.length) (hi' : i < zs.length), PT Try.prog f (WX l[i].1 l[i].2 :: caps) (isV (WC zs[i]))) : PCalls Try.prog 68 [SW l, .fn f caps] H nx (rowQ (CZ zs) H nx) := by
  have hrp := replW l.length
  have hrl := repl_len l.length [Value.bool false, Value.slice none 0 0]
  refine PCalls.enter (n := 25) (rs := [.tmp 4]) (tb := []) Try.func68 rfl rfl rfl (by kernel_rfl) (by kernel_rfl) (by simp) fun c hc ht => ?_
  simp -implicitDefEqProofs (disch := omega) only [go_sem, ht]
  refine LW.loopW hc ht (by kernel_rfl) (fun t => t.sl 1 = .fn f caps ∧ t.sl 11 = .sl l.length (SWc l) ∧ t.sl 12 = .val (.int .i64 l.length) ∧ ∃ i : Nat, i ≤ l.length ∧ t.sl 13 = .val (.int .i64 i) ∧ ∃ (id cap : Nat) (rest : List Value), t.sl 5 = .ref id 0 i cap 2 ∧ t.H id = some (SWc ((CZ zs).take i) ++ rest.map .val) ∧ i * 2 + rest.length = cap * 2 ∧ id < t.nx ∧ nx ≤ id ∧ ∀ j, j < nx → t.H j = H j)
    (fun t => match t.sl 13 with | .val (.int _ k) => l.length - k.toNat | _ => 0) ?_ ?_
  · simp -implicitDefEqProofs (disch := omega) only [go_sem, ht]
    refine ⟨0, Nat.zero_le _, rfl, nx, l.length, repl l.length [Value.bool false, Value.slice none 0 0], rfl, ?_, by rw [hrl]; simp, by omega, by omega, fun j hj => upd_ne _ _ (by omega)⟩
    rw [upd_self, hrp]; rfl
  · rintro t ⟨h1, h11, h12, i, hi, h13, id, cap, rest, h5, hH, hcap, hid, hnid, hfr⟩
    by_cases hil : i = l.length
    · subst hil
      have htk : (CZ zs).take l.length = CZ zs := List.take_of_length_le (by rw [CZ_len]; omega)
      rw [htk] at hH
      have hcl : l.length = (CZ zs).length := by rw [CZ_len]; omega
      simp -implicitDefEqProofs (disch := omega) only [go_sem, ht, h1, h5, h11, h12, h13]
      refine end_plain (by simp -implicitDefEqProofs (disch := omega) only [go_sem, ht] <;> rfl) ?_
      simp only [tupP_1]
      exact ⟨id, cap, rest, by rw [← hcl], hH, hnid, hid, hfr⟩
    · have hlt : i < l.length := by omega
      have hlt' : i < (CZ zs).length := by rw [CZ_len]; omega
      have hat := SWc_at hlt
      have hel := h i hlt (by omega)
      have htk := SWc_take hlt'
      have e1 : (CZ zs)[i] = toC zs[i] := by simp [CZ]
      rw [e1] at htk
      simp only [toC] at htk
      have hln : (SWc ((CZ zs).take i)).length = 2 * i := by rw [SWc_len, List.length_take]; omega
      simp -implicitDefEqProofs (disch := omega) only [go_sem, ht, h1, h5, h11, h12, h13, hat]
      refine ⟨f, caps, rfl, ?_⟩
      ((refine pCall_vw (by refine ⟨⟨?_, ?_⟩, ?_, ?_⟩; rotate_left 2; (first | (right; rintro r rfl; rfl) | left); all_goals ((try simp -implicitDefEqProofs (disch := omega) only [h1, h5, h11, h12, h13, hcv, hf, List.map_append, go_sem, ht]) <;> rfl)) (hel) ?_; rintro _ nx_1 - rfl hnx_1; simp -implicitDefEqProofs (disch := omega) only [h1, h5, h11, h12, h13, hcv, hf, List.map_append, go_sem, ht]))
      have hne : id ≠ nx_1 := by omega
      (refine append_ownSX (by refine ⟨?_, ?_, ?_, ?_, ?_, ?_, ?_, ?_⟩ <;> (simp -implicitDefEqProofs (disch := omega) only [srcP_ref, srcP_sl, srcP_nil, Option.isSome_some, hH, go_sem, ht] <;> rfl)) (by rfl) (by first | omega | (simp <;> omega)) (by first | assumption | (simp <;> omega)) (by first | rfl | simp) (by first | omega | (simp <;> omega)) ?_; intro id1 cap1 rest1 H1 nx1 hH1 hcap1 hid1 hnx1 hfr1 hfs1; simp only [put_nx, withH_nx, put_H, withH_H] at hid1 hnx1 hfr1 hfs1)
      rw [htk] at hH1
      simp -implicitDefEqProofs (disch := omega) only [go_sem, ht, h1, h11, h12, h13]
      exact ⟨⟨i + 1, by omega, rfl, id1, cap1, rest1, rfl, hH1, by omega, by omega, by omega, fun j hj => by rw [hfr1 j (by omega) (by omega)]; simp -implicitDefEqProofs (disch := omega) only [go_sem, ht]; exact hfr j hj⟩, by omega⟩

theorem det1_calls {l : List (Bool × List Nat)} {k : Nat} {H : Nat → Option (List PV)} {nx : Nat} (h : Rn l k) (hlen : l.length ≤ 1000000) : PCalls Try.prog 67 [SW l] H nx (rowQ (CZ (vals l)) H nx) := by
  have he : ∀ H nx, PCalls Try.prog 68 [SW l, .fn 34 []] H nx (rowQ (CZ (vals l)) H nx) := fun H nx => by
    refine each_wN rfl (fun H => rfl) hlen (by simp [vals_len]) fun i hi hi' => ?_
    have := trimW (h.wn hi)
    rwa [vc_lt (by rw [vals_len]; exact hi)] at this
  refine PCalls.enter (n := 5) (rs := [.tmp 2]) (tb := []) Try.func67 rfl rfl rfl (by kernel_rfl) (by kernel_rfl) (by simp) fun c hc ht => ?_
  simp -implicitDefEqProofs (disch := omega) only [go_sem, ht]
  apply pCall_mem
  exact he _ _
  rintro r H1 nx1 ⟨id, cap, rest, rfl, hH1, hid, hidn, hfr⟩ hn1
  simp only [begP_nx, begP_H, put_nx, put_H] at hid hfr hn1
  simp -implicitDefEqProofs (disch := omega) only [go_sem, ht]
  refine end_plain (by simp -implicitDefEqProofs (disch := omega) only [go_sem, ht] <;> rfl) ?_
  simp only [tupP_1]
  exact ⟨id, cap, rest, rfl, hH1, hid, hidn, hfr⟩

def MC (ids caps : Nat → Nat) (cols n : Nat) : List PV := (List.range n).map fun i => .ref (ids i) 0 cols (caps i) 2
theorem MC_len (ids caps : Nat → Nat) (cols n : Nat) : (MC ids caps cols n).length = n := by simp [MC]
theorem MC_succ (ids caps : Nat → Nat) (cols n : Nat) : MC ids caps cols (n + 1) = MC ids caps cols n ++ [.ref (ids n) 0 cols (caps n) 2] := by simp [MC, List.range_succ]
theorem MC_congr {ids ids' caps caps' : Nat → Nat} {cols n : Nat} (h : ∀ i, i < n → ids i = ids' i ∧ caps i = caps' i) : MC ids caps cols n = MC ids' caps' cols n := List.map_congr_left fun i hi => by
  obtain ⟨h1, h2⟩ := h i (List.mem_range.1 hi)
  rw [h1, h2]
theorem MC_get {ids caps : Nat → Nat} {cols n i : Nat} (r : List PV) (h : i < n) : (MC ids caps cols n ++ r)[i]? = some (.ref (ids i) 0 cols (caps i) 2) := by
  rw [List.getElem?_append_left (by rw [MC_len]; exact h)]
  simp [MC, h]
structure MO (H : Nat → Option (List PV)) (lo b idM n cols : Nat) (ids caps : Nat → Nat) (f : Nat → List Int) : Prop where
  out : ∃ rest : List Value, H idM = some (MC ids caps cols n ++ rest.map .val)
  row : ∀ i, i < n → ∃ rest : List Value, H (ids i) = some (SWc (CZ (f i)) ++ rest.map .val)
  lt : ∀ i, i < n → lo ≤ ids i ∧ ids i < b ∧ ids i ≠ idM
  inj : ∀ i j, i < n → j < n → ids i = ids j → i = j
  idM : lo ≤ idM ∧ idM < b
  len : ∀ i, i < n → (f i).length = cols
theorem MO.mono {H H' : Nat → Option (List PV)} {lo b b' idM n cols : Nat} {ids caps : Nat → Nat} {f : Nat → List Int} (h : MO H lo b idM n cols ids caps f) (hb : b ≤ b') (hH : ∀ j, lo ≤ j → j < b → H' j = H j) : MO H' lo b' idM n cols ids caps f := by
  obtain ⟨rest, ho⟩ := h.out
  refine ⟨⟨rest, by rw [hH _ h.idM.1 h.idM.2]; exact ho⟩, fun i hi => ?_, fun i hi => ?_, h.inj, ⟨h.idM.1, by have := h.idM.2; omega⟩, h.len⟩
  · obtain ⟨r, hr⟩ := h.row i hi
    have := h.lt i hi
    exact ⟨r, by rw [hH _ this.1 this.2.1]; exact hr⟩
  · have := h.lt i hi
    exact ⟨this.1, by omega, this.2.2⟩
theorem MO.congr {H : Nat → Option (List PV)} {lo b idM n cols : Nat} {ids caps : Nat → Nat} {f g : Nat → List Int} (h : MO H lo b idM n cols ids caps f) (e : ∀ i, i < n → f i = g i) : MO H lo b idM n cols ids caps g :=
  ⟨h.out, fun i hi => by rw [← e i hi]; exact h.row i hi, h.lt, h.inj, h.idM, fun i hi => by rw [← e i hi]; exact h.len i hi⟩
theorem MO.set {H : Nat → Option (List PV)} {lo b idM n cols i : Nat} {ids caps : Nat → Nat} {f : Nat → List Int} {z : List Int} {rest : List Value} (h : MO H lo b idM n cols ids caps f) (hi : i < n) (hz : z.length = cols) : MO (upd H (ids i) (some (SWc (CZ z) ++ rest.map .val))) lo b idM n cols ids caps (fun j => if j = i then z else f j) := by
  obtain ⟨r0, ho⟩ := h.out
  refine ⟨⟨r0, by rw [upd_ne _ _ (Ne.symm (h.lt i hi).2.2)]; exact ho⟩, fun j hj => ?_, h.lt, h.inj, h.idM, fun j hj => ?_⟩
  · by_cases hji : j = i
    · subst hji
      exact ⟨rest, by rw [upd_self, if_pos rfl]⟩
    · obtain ⟨r, hr⟩ := h.row j hj
      exact ⟨r, by rw [upd_ne _ _ (fun e => hji (h.inj j i hj hi e)), if_neg hji]; exact hr⟩
  · show (if j = i then z else f j).length = cols
    split
    · exact hz
    · exact h.len j hj
theorem MO.swp {H : Nat → Option (List PV)} {lo b idM n cols p c : Nat} {ids caps : Nat → Nat} {f : Nat → List Int} {rest : List Value} (h : MO H lo b idM n cols ids caps f) (hp : p < n) (hc : c < n) :
    MO (upd H idM (some (MC (fun i => ids (Ytfjdfnlkobeehaa.swp p c i)) (fun i => caps (Ytfjdfnlkobeehaa.swp p c i)) cols n ++ rest.map .val))) lo b idM n cols (fun i => ids (Ytfjdfnlkobeehaa.swp p c i)) (fun i => caps (Ytfjdfnlkobeehaa.swp p c i)) (fun i => f (Ytfjdfnlkobeehaa.swp p c i)) := by
  refine ⟨⟨rest, upd_self _ _ _⟩, fun i hi => ?_, fun i hi => h.lt _ (swp_bd hp hc hi), fun i j hi hj e => ?_, h.idM, fun i hi => h.len _ (swp_bd hp hc hi)⟩
  · obtain ⟨r, hr⟩ := h.row _ (swp_bd hp hc hi)
    exact ⟨r, by rw [upd_ne _ _ (h.lt _ (swp_bd hp hc hi)).2.2]; exact hr⟩
  · have := h.inj _ _ (swp_bd hp hc hi) (swp_bd hp hc hj) e
    have := congrArg (Ytfjdfnlkobeehaa.swp p c) this
    rwa [swp_swp, swp_swp] at this

def rowsQ (W : List (List Int)) (cols : Nat) (H : Nat → Option (List PV)) (nx : Nat) (r : PV) (H' : Nat → Option (List PV)) (nx' : Nat) : Prop :=
  ∃ (idM capM : Nat) (ids caps : Nat → Nat), r = .ref idM 0 W.length capM 1 ∧ MO H' nx nx' idM W.length cols ids caps (fun i => W.getD i []) ∧ ∀ j, j < nx → H' j = H j
set_option maxHeartbeats 4000000 in
theorem each_rN {m : List (List (Bool × List Nat))} {W : List (List Int)} {cols : Nat} {f : FuncId} {H : Nat → Option (List PV)} {nx : Nat} (hlen : m.length ≤ 1000000) (hW : W.length = m.length) (hc0 : ∀ i, i < W.length → (W.getD i []).length = cols)
    (h : ∀ i, i < m.length → ∀ H nx, PCalls Try.prog f [SW (m.getD i [])] H nx (rowQ (CZ (W.getD i [])) H nx)) :
    PCalls Try.prog 66 [SM m, .fn f []] H nx (rowsQ W cols H nx) := by
  have hrp := repl_nil m.length
  have hrl := repl_len m.length [Value.slice none 0 0]
  refine PCalls.enter (n := 25) (rs := [.tmp 4]) (tb := []) Try.func66 rfl rfl rfl (by kernel_rfl) (by kernel_rfl) (by simp) fun c hc ht => ?_
  simp -implicitDefEqProofs (disch := omega) only [go_sem, ht]
  refine LW.loopW hc ht (by kernel_rfl) (fun t => t.sl 1 = .fn f [] ∧ t.sl 11 = .sl m.length (m.map SW) ∧ t.sl 12 = .val (.int .i64 m.length) ∧ ∃ i : Nat, i ≤ m.length ∧ t.sl 13 = .val (.int .i64 i) ∧ ∃ (id cap : Nat) (rest : List Value) (ids caps : Nat → Nat), t.sl 5 = .ref id 0 i cap 1 ∧ t.H id = some (MC ids caps cols i ++ rest.map .val) ∧ i + rest.length = cap ∧ nx ≤ id ∧ id < t.nx ∧
      (∀ k, k < i → (∃ rest : List Value, t.H (ids k) = some (SWc (CZ (W.getD k [])) ++ rest.map .val)) ∧ nx ≤ ids k ∧ ids k < t.nx ∧ ids k ≠ id) ∧ (∀ a b, a < i → b < i → ids a = ids b → a = b) ∧ ∀ j, j < nx → t.H j = H j)
    (fun t => match t.sl 13 with | .val (.int _ k) => m.length - k.toNat | _ => 0) ?_ ?_
  · simp -implicitDefEqProofs (disch := omega) only [go_sem, ht]
    refine ⟨0, Nat.zero_le _, rfl, nx, m.length, repl m.length [Value.slice none 0 0], fun _ => 0, fun _ => 0, rfl, ?_, by rw [hrl]; simp, by omega, by omega, fun k hk => by omega, fun a b ha => by omega, fun j hj => upd_ne _ _ (by omega)⟩
    rw [upd_self, hrp]; rfl
  · rintro t ⟨h1, h11, h12, i, hi, h13, id, cap, rest, ids, caps, h5, hH, hcap, hnid, hid, hrow, hinj, hfr⟩
    by_cases hil : i = m.length
    · subst hil
      simp -implicitDefEqProofs (disch := omega) only [go_sem, ht, h1, h5, h11, h12, h13]
      refine end_plain (by simp -implicitDefEqProofs (disch := omega) only [go_sem, ht] <;> rfl) ?_
      simp only [tupP_1]
      refine ⟨id, cap, ids, caps, by rw [hW], ?_, hfr⟩
      rw [hW]
      exact ⟨⟨rest, hH⟩, fun k hk => (hrow k hk).1, fun k hk => (hrow k hk).2, hinj, ⟨hnid, hid⟩, fun k hk => hc0 k (by omega)⟩
    · have hlt : i < m.length := by omega
      have hgi := get_SM' hlt
      have hel := h i hlt
      have hcw : (CZ (W.getD i [])).length = cols := by rw [CZ_len]; exact hc0 i (by omega)
      have hml := MC_len ids caps cols i
      generalize m.getD i [] = l0 at *
      simp -implicitDefEqProofs (disch := omega) only [go_sem, ht, h1, h5, h11, h12, h13, hgi]
      refine ⟨f, [], rfl, ?_⟩
      apply pCall_mem
      exact hel _ _
      rintro r H2 nx2 ⟨ir, capr, restr, rfl, hHr, hir, hirn, hfr2⟩ hn2
      (try simp only [put_nx, withH_nx, put_H, withH_H] at hir hfr2 hn2)
      rw [hcw]
      have hH2 : H2 id = some (MC ids caps cols i ++ rest.map .val) := by rw [hfr2 id hid]; exact hH
      simp -implicitDefEqProofs (disch := omega) only [go_sem, ht, h1, h5, h11, h12, h13]
      have hne : id ≠ nx2 := by omega
      (refine append_ownX (by refine ⟨?_, ?_, ?_, ?_, ?_, ?_, ?_, ?_⟩ <;> (simp -implicitDefEqProofs (disch := omega) only [srcP_ref, srcP_sl, srcP_nil, Option.isSome_some, hH2, hne, go_sem, ht] <;> rfl)) (by first | omega | (simp <;> omega)) (by first | assumption | (simp <;> omega)) (by first | rfl | simp) (by first | omega | (simp <;> omega)) ?_; intro id1 cap1 rest1 H1 nx1 hH1 hcap1 hid1 hnx1 hfr1 hfs1; (try simp only [put_nx, withH_nx, put_H, withH_H] at hid1 hnx1 hfr1 hfs1); (try simp only [app_U, ← List.map_append] at hH1))
      obtain ⟨ids', ea, eb⟩ : ∃ g : Nat → Nat, g i = ir ∧ ∀ k, k ≠ i → g k = ids k := ⟨fun k => if k = i then ir else ids k, if_pos rfl, fun k hk => if_neg hk⟩
      obtain ⟨caps', ec, ed⟩ : ∃ g : Nat → Nat, g i = capr ∧ ∀ k, k ≠ i → g k = caps k := ⟨fun k => if k = i then capr else caps k, if_pos rfl, fun k hk => if_neg hk⟩
      have hC : MC ids' caps' cols (i + 1) = MC ids caps cols i ++ [.ref ir 0 cols capr 2] := by
        rw [MC_succ, ea, ec]
        congr 1
        exact MC_congr fun k hk => ⟨eb k (by omega), ed k (by omega)⟩
      have hkeep : ∀ j, j < t.nx → j ≠ id → H1 j = t.H j := fun j hj hji => by
        rw [hfr1 j hji (by omega)]
        simp -implicitDefEqProofs (disch := omega) only [go_sem, ht]
        exact hfr2 j hj
      simp -implicitDefEqProofs (disch := omega) only [go_sem, ht, h1, h11, h12, h13]
      refine ⟨⟨i + 1, by omega, rfl, id1, cap1, rest1, ids', caps', rfl, by rw [hC]; exact hH1, by omega, by omega, by omega, fun k hk => ?_, fun a b ha hb hab => ?_, fun j hj => ?_⟩, by omega⟩
      · by_cases hki : k = i
        · subst hki
          rw [ea]
          refine ⟨⟨restr, ?_⟩, by omega, by omega, by omega⟩
          rw [hfr1 ir (by omega) (by omega)]
          simp -implicitDefEqProofs (disch := omega) only [go_sem, ht, hHr]
        · rw [eb k hki]
          obtain ⟨⟨rk, hrk⟩, g1, g2, g3⟩ := hrow k (by omega)
          exact ⟨⟨rk, by rw [hkeep _ g2 g3]; exact hrk⟩, g1, by omega, by omega⟩
      · by_cases hai : a = i <;> by_cases hbi : b = i
        · omega
        · rw [hai, ea, eb b hbi] at hab
          have := (hrow b (by omega)).2; omega
        · rw [hbi, ea, eb a hai] at hab
          have := (hrow a (by omega)).2; omega
        · rw [eb a hai, eb b hbi] at hab
          exact hinj a b (by omega) (by omega) hab
      · rw [hkeep j (by omega) (by omega)]; exact hfr j hj
end Go.Proofs.Ytfjdfnlkobeehaa
end

section
set_option maxRecDepth 100000
set_option linter.unusedVariables false
set_option linter.unusedSimpArgs false
namespace Go.Proofs.Ytfjdfnlkobeehaa

theorem barW_none {W0 : List (List Int)} {c : Nat} (h : barW W0 c = none) : ∀ d, barW W0 (c + d) = none
  | 0 => h
  | d + 1 => by
    rw [show c + (d + 1) = (c + d) + 1 by omega, barW, barW_none h d]
theorem MC_set {ids caps : Nat → Nat} {cols n p c : Nat} (r : List PV) (hp : p < n) (hc : c < n) :
    spl (MC ids caps cols n ++ r) p [.ref (ids c) 0 cols (caps c) 2] = (MC ids caps cols n).set p (.ref (ids c) 0 cols (caps c) 2) ++ r ∧
    spl ((MC ids caps cols n).set p (.ref (ids c) 0 cols (caps c) 2) ++ r) c [.ref (ids p) 0 cols (caps p) 2] = MC (fun i => ids (swp p c i)) (fun i => caps (swp p c i)) cols n ++ r := by
  have key : ∀ (l : List PV) (q : Nat) (x : PV), q < l.length → spl (l ++ r) q [x] = l.set q x ++ r := fun l q x hq => by
    rw [spl_app (by simp; omega)]
    unfold spl
    rw [List.set_eq_take_append_cons_drop, if_pos hq]; rfl
  refine ⟨key _ _ _ (by rw [MC_len]; exact hp), ?_⟩
  rw [key _ _ _ (by rw [List.length_set, MC_len]; exact hc)]
  congr 1
  refine List.ext_getElem (by simp [MC]) fun k h1 h2 => ?_
  simp only [List.getElem_set, MC, List.getElem_map, List.getElem_range]
  unfold swp
  by_cases hkc : c = k
  · subst hkc
    by_cases hkp : c = p
    · subst hkp; simp
    · simp [hkp]
  · have hkc' : ¬ k = c := fun e => hkc e.symm
    by_cases hkp : p = k
    · subst hkp; simp [hkc, hkc']
    · have hkp' : ¬ k = p := fun e => hkp e.symm
      simp [hkc, hkc', hkp, hkp']
theorem mix_get {V W : List Int} {k j n : Nat} (hv : V.length = n) (hw : W.length = n) (hk : k ≤ n) : vc (V.take k ++ W.drop k) j = if j < k then vc V j else vc W j := by
  have hl : (V.take k).length = k := by rw [List.length_take]; omega
  unfold vc
  simp only [List.getD_eq_getElem?_getD]
  by_cases h : j < k
  · rw [if_pos h, List.getElem?_append_left (by omega), List.getElem?_take, if_pos h]
  · rw [if_neg h, List.getElem?_append_right (by omega), hl, List.getElem?_drop]
    congr 2; omega
theorem mix_set {V W : List Int} {k n : Nat} {x : Int} (hv : V.length = n) (hw : W.length = n) (hk : k < n) (hx : vc V k = x) : (V.take k ++ W.drop k).set k x = V.take (k + 1) ++ W.drop (k + 1) := by
  have hl : (V.take k).length = k := by rw [List.length_take]; omega
  rw [List.set_append_right _ _ (by omega), hl, Nat.sub_self, List.drop_eq_getElem_cons (show k < W.length by omega), List.set_cons_zero, List.take_succ_eq_append_getElem (show k < V.length by omega), List.append_assoc, ← hx, vc_lt (by omega)]; rfl
theorem mix_len {V W : List Int} {k n : Nat} (hv : V.length = n) (hw : W.length = n) (hk : k ≤ n) : (V.take k ++ W.drop k).length = n := by simp; omega
theorem LW.both3 {P : Program} {A B E F : Prop} {c : Cx} {code : Code} {Q : Exit → PS → Prop} {st1 st2 : PS} (I : PS → Prop) (hE : A → E) (hF : A → F) (h1 : A → I st1) (h2 : B → I st2) (h : ∀ s, I s → LW P c code Q s) : (A → E ∧ F ∧ LW P c code Q st1) ∧ (B → LW P c code Q st2) :=
  ⟨fun a => ⟨hE a, hF a, h _ (h1 a)⟩, fun b => h _ (h2 b)⟩
section
variable {m : List (List (Bool × List Nat))} {B n : Nat}
theorem Mx.bar (h : Mx m B) (hlc : ∀ l ∈ m, l.length = n) (hml : m.length = n) : (∀ c, c ≤ n → ∀ W last t, barW (m.map vals) c = some (W, last, t) → BI (m.map vals) n c 4294967296 B W last t) ∧ barD (m.map vals) n = detZ (m.map vals) n := by
  have h1 : (m.map vals).length = n := by simp [hml]
  have h2 : ∀ i, i < n → ((m.map vals).getD i []).length = n := fun i hi => by
    rw [getD_vals (by omega), vals_len]; exact hlc _ (getD_mem (by omega))
  have h3 : ∀ k, k < n → ∀ j, (rw0 (m.map vals) k j).natAbs ≤ 4294967296 ^ lenW (m.getD k []) := fun k hk j => by
    unfold rw0
    rw [getD_vals (by omega)]
    by_cases hj : j < (m.getD k []).length
    · rw [vals_get hj, WV_abs]
      have hm := getD_mem (m := m) (d := []) (i := k) (by omega)
      have h4 := h.lm _ hm _ (List.getElem_mem hj)
      exact Nat.le_of_lt (V_lt' h4 (Nat.le_of_lt (lenW_mem (List.getElem_mem hj))))
    · rw [vc_ge (by rw [vals_len]; omega)]; simp
  have h4 : sz (fun k => lenW (m.getD k [])) n ≤ B := by
    rw [← hml, sz_lenM _ (Nat.le_refl _), List.take_length]; exact h.len
  exact ⟨fun c hc => (bar_all h1 h2 h3 h4 c hc).1, barD_det h1 h2 h3 h4⟩
set_option maxHeartbeats 32000000 in
theorem det_calls (h : Mx m B) (hlc : ∀ l ∈ m, l.length = n) (hml : m.length = n) (hn : n ≤ 32) (hw : wrongM m n = false) :
    PT Try.prog 30 [SM m, .val (.int .i64 n)] (isV (.tup [WC (if 32 < (D (detZ (m.map vals) n).natAbs).length then 0 else detZ (m.map vals) n), .val (.int .i64 (if 32 < (D (detZ (m.map vals) n).natAbs).length then 2 else 0))])) := by
  have hwr := wrong_calls (m := m) (cn := n)
  rw [hw] at hwr
  obtain ⟨hall, hdet⟩ := h.bar hlc hml
  have hB := h.hB
  have heach : ∀ H nx, PCalls Try.prog 66 [SM m, .fn 67 []] H nx (rowsQ (m.map vals) n H nx) := fun H nx => by
    refine each_rN (by omega) (by simp) (fun i hi => ?_) fun i hi H nx => ?_
    · have hi : i < m.length := by simpa using hi
      rw [getD_vals hi, vals_len]; exact hlc _ (getD_mem hi)
    · rw [getD_vals hi]
      have hm := getD_mem (m := m) (d := []) hi
      exact det1_calls (h.rn hm) (by rw [hlc _ hm]; omega)
  simp only [SM_def, hml] at heach
  have o1 := wof_v (x := 1) (by decide) (by decide)
  have hWl : (m.map vals).length = n := by simp [hml]
  rw [← hdet]
  clear hdet hwr
  have hwr := wrong_calls (m := m) (cn := n)
  rw [hw] at hwr
  generalize m.map vals = W0 at *
  have hif : (if n = 0 then 0 else 0) = 0 := by simp
  refine PCalls.enter (n := 145) (rs := [.cell 4 30, .tmp 5]) (tb := [(14, [(0, []), (1, []), (2, []), (3, []), (4, []), (5, []), (6, []), (7, []), (8, []), (9, []), (10, []), (11, []), (12, []), (13, [2, 3]), (14, []), (15, [])]), (1000014, [(0, []), (0, []), (0, []), (0, []), (0, []), (0, []), (48, []), (112, []), (0, []), (0, []), (768, []), (1792, []), (4083, []), (8179, []), (16383, []), (32767, [])]), (22, [(0, []), (1, []), (2, []), (3, []), (4, []), (5, []), (6, []), (7, []), (8, []), (9, []), (10, []), (11, []), (12, []), (13, []), (15, []), (16, []), (17, []), (18, []), (19, []), (20, []), (21, []), (22, []), (23, []), (24, []), (25, []), (26, []), (27, []), (28, []), (14, [15, 16, 17, 18, 19, 20, 21, 22, 23, 24, 25, 26, 27, 28]), (29, []), (30, []), (31, [0, 1, 2, 3, 4, 5, 6, 7, 8, 9, 10, 11, 12, 13, 15, 16, 17, 18, 19, 20, 21, 22, 23, 24, 25, 26, 27, 28]), (32, [])]), (1000022, [(0, []), (0, []), (3, []), (7, []), (0, []), (31, []), (63, []), (0, []), (0, []), (384, []), (896, []), (0, []), (3968, []), (8064, []), (16383, []), (0, []), (0, []), (98304, []), (229376, []), (0, []), (1015808, []), (2064384, []), (0, []), (0, []), (12582912, []), (29360128, []), (0, []), (130023424, []), (264241152, []), (536870911, []), (1073741823, []), (0, []), (4294967295, [])]), (23, [(0, []), (1, []), (2, []), (3, []), (4, []), (5, []), (6, []), (7, [0, 1, 2, 3, 4]), (8, []), (9, []), (10, []), (11, []), (12, []), (13, [10, 11])]), (1000023, [(0, []), (0, []), (3, []), (7, []), (0, []), (0, []), (0, []), (96, []), (224, []), (480, []), (480, []), (480, []), (1023, []), (5119, [])])]) Try.func30 rfl rfl rfl (by kernel_rfl) (by kernel_rfl) (by simp) fun c hc ht => ?_
  simp -implicitDefEqProofs (disch := omega) only [go_sem, ht, hml]
  ((refine pCall_vw (by refine ⟨⟨?_, ?_⟩, ?_, ?_⟩; rotate_left 2; (first | (right; rintro r rfl; rfl) | left); all_goals ((try simp -implicitDefEqProofs (disch := omega) only [hml, go_sem, ht]) <;> rfl)) (hwr) ?_; rintro _ nx_1 - rfl hnx_1; simp -implicitDefEqProofs (disch := omega) only [hml, go_sem, ht]))
  apply pCall_mem
  exact heach _ _
  rintro r H1 nx1 ⟨idM, capM, ids0, caps0, rfl, hMO0, hfr0⟩ hn1
  (try simp only [put_nx, withH_nx, put_H, withH_H, begP_nx, begP_H] at hMO0 hfr0 hn1)
  rw [hWl] at hMO0 ⊢
  have hH10 : H1 0 = some [.val (.bool false), .val (.slice none 0 0)] := by rw [hfr0 0 (by omega)]; simp -implicitDefEqProofs (disch := omega) only [go_sem, ht, upd_self]
  have o1' : WC 1 = .agg [.val (.bool false), .sl 1 ([1].map U)] := by rw [WC_def]; simp [D_one, SU_def]
  simp -implicitDefEqProofs (disch := omega) only [go_sem, ht, hml]
  ((refine pCall_vw (by refine ⟨⟨?_, ?_⟩, ?_, ?_⟩; rotate_left 2; (first | (right; rintro r rfl; rfl) | left); all_goals ((try simp -implicitDefEqProofs (disch := omega) only [hml, go_sem, ht]) <;> rfl)) (o1) ?_; rintro _ nx_2 - rfl hnx_2; simp -implicitDefEqProofs (disch := omega) only [hml, go_sem, ht]))
  have hrange : (if n = 0 then 0 else 0) = 0 := by simp
  refine LW.loopW hc ht (by kernel_rfl) (fun t => t.sl 1 = .val (.int .i64 n) ∧ t.sl 4 = .ptr 0 0 ∧ t.sl 6 = .ref idM 0 n capM 1 ∧ t.sl 7 = .ptr nx_2 0 ∧ t.sl 27 = .val (.int .i64 n) ∧ nx_2 < t.nx ∧ t.H 0 = some [.val (.bool false), .val (.slice none 0 0)] ∧ ∃ c : Nat, c ≤ n ∧ t.sl 28 = .val (.int .i64 c) ∧
      ∃ (ids caps : Nat → Nat) (W : List (List Int)) (last : Int) (trn : Bool), barW W0 c = some (W, last, trn) ∧ MO t.H nx_1 nx_2 idM n n ids caps (fun i => W.getD i []) ∧ t.sl 8 = .val (.bool trn) ∧ t.H nx_2 = some [.val (.bool (decide (last < 0))), .sl (D last.natAbs).length ((D last.natAbs).map U)])
    (fun t => match t.sl 28 with | .val (.int _ k) => n - k.toNat | _ => 0) ?_ ?_
  · simp -implicitDefEqProofs (disch := omega) only [go_sem, ht]
    exact ⟨by omega, hH10, 0, Nat.zero_le _, rfl, ids0, caps0, W0, 1, false, rfl, hMO0.mono (by omega) (fun j h1 h2 => upd_ne _ _ (by omega)), rfl, rfl⟩
  · rintro t ⟨h1, h4, h6, h7, h27, hbn, hH0, c, hcn, h28, ids, caps, W, last, trn, hbw, hMO, h8, hHb⟩
    have hBI := hall c hcn W last trn hbw
    obtain ⟨hlz, hl0⟩ := hBI.zl hcn (by omega) (by omega)
    by_cases hce : c = n
    · subst hce
      have hbd : barD W0 c = if trn then -last else last := by unfold barD; rw [hbw]
      have hZl : Z (B + 1) last := Nat.lt_of_le_of_lt hlz (Nat.pow_lt_pow_right (by decide) (by omega))
      rw [hbd]
      cases trn with
      | false =>
        have lm := limbsW (Wn.C hZl (by omega))
        rw [Ref.limbs_eq] at lm
        simp only [Bool.false_eq_true, if_false]
        by_cases h32 : 32 < (D last.natAbs).length
        · rw [if_pos h32, if_pos h32]
          have h32i : (32 : Int) < ((D last.natAbs).length : Nat) := by omega
          simp -implicitDefEqProofs (disch := omega) only [go_sem, ht, h1, h4, h6, h7, h27, h28, h8, hHb, hH0]
          (refine pCall_vw (by refine ⟨⟨?_, ?_⟩, ?_, ?_⟩; rotate_left 2; (first | (right; rintro r rfl; rfl) | left); all_goals ((try simp -implicitDefEqProofs (disch := omega) only [h1, h4, h6, h7, h27, h28, h8, hHb, hH0, h32, h32i, go_sem, ht]) <;> rfl)) (lm) ?_; rintro _ nx - rfl hnx; simp -implicitDefEqProofs (disch := omega) only [h1, h4, h6, h7, h27, h28, h8, hHb, hH0, h32, h32i, go_sem, ht])
          (refine end_treeM 2 ?_; simp -implicitDefEqProofs (disch := omega) only [go_sem, ht, h4, upd_self, hH0]); (rw [show Int.natAbs 0 = 0 from rfl, D_zero]; rfl)
        · rw [if_neg h32, if_neg h32]
          have h32i : ¬ (32 : Int) < ((D last.natAbs).length : Nat) := by omega
          simp -implicitDefEqProofs (disch := omega) only [go_sem, ht, h1, h4, h6, h7, h27, h28, h8, hHb, hH0]
          (refine pCall_vw (by refine ⟨⟨?_, ?_⟩, ?_, ?_⟩; rotate_left 2; (first | (right; rintro r rfl; rfl) | left); all_goals ((try simp -implicitDefEqProofs (disch := omega) only [h1, h4, h6, h7, h27, h28, h8, hHb, hH0, h32, h32i, go_sem, ht]) <;> rfl)) (lm) ?_; rintro _ nx - rfl hnx; simp -implicitDefEqProofs (disch := omega) only [h1, h4, h6, h7, h27, h28, h8, hHb, hH0, h32, h32i, go_sem, ht])
          (refine end_treeM 2 ?_; simp -implicitDefEqProofs (disch := omega) only [go_sem, ht, h4, upd_self, hH0])
      | true =>
        have hZn := hZl.neg
        have lm := limbsW (Wn.C hZn (by omega))
        have ng := negW (Wn.C hZl (by omega))
        rw [Ref.limbs_eq] at lm
        simp only [if_true]
        generalize -last = nl at *
        by_cases h32 : 32 < (D nl.natAbs).length
        · rw [if_pos h32, if_pos h32]
          have h32i : (32 : Int) < ((D nl.natAbs).length : Nat) := by omega
          simp -implicitDefEqProofs (disch := omega) only [go_sem, ht, h1, h4, h6, h7, h27, h28, h8, hHb, hH0]
          ((refine pCall_vw (by refine ⟨⟨?_, ?_⟩, ?_, ?_⟩; rotate_left 2; (first | (right; rintro r rfl; rfl) | left); all_goals ((try simp -implicitDefEqProofs (disch := omega) only [h1, h4, h6, h7, h27, h28, h8, hHb, hH0, h32, h32i, go_sem, ht]) <;> rfl)) (ng) ?_; rintro _ nx_3 - rfl hnx_3; simp -implicitDefEqProofs (disch := omega) only [h1, h4, h6, h7, h27, h28, h8, hHb, hH0, h32, h32i, go_sem, ht]); (refine pCall_vw (by refine ⟨⟨?_, ?_⟩, ?_, ?_⟩; rotate_left 2; (first | (right; rintro r rfl; rfl) | left); all_goals ((try simp -implicitDefEqProofs (disch := omega) only [h1, h4, h6, h7, h27, h28, h8, hHb, hH0, h32, h32i, go_sem, ht]) <;> rfl)) (lm) ?_; rintro _ nx_4 - rfl hnx_4; simp -implicitDefEqProofs (disch := omega) only [h1, h4, h6, h7, h27, h28, h8, hHb, hH0, h32, h32i, go_sem, ht]))
          (refine end_treeM 2 ?_; simp -implicitDefEqProofs (disch := omega) only [go_sem, ht, h4, upd_self, hH0]); (rw [show Int.natAbs 0 = 0 from rfl, D_zero]; rfl)
        · rw [if_neg h32, if_neg h32]
          have h32i : ¬ (32 : Int) < ((D nl.natAbs).length : Nat) := by omega
          simp -implicitDefEqProofs (disch := omega) only [go_sem, ht, h1, h4, h6, h7, h27, h28, h8, hHb, hH0]
          ((refine pCall_vw (by refine ⟨⟨?_, ?_⟩, ?_, ?_⟩; rotate_left 2; (first | (right; rintro r rfl; rfl) | left); all_goals ((try simp -implicitDefEqProofs (disch := omega) only [h1, h4, h6, h7, h27, h28, h8, hHb, hH0, h32, h32i, go_sem, ht]) <;> rfl)) (ng) ?_; rintro _ nx_5 - rfl hnx_5; simp -implicitDefEqProofs (disch := omega) only [h1, h4, h6, h7, h27, h28, h8, hHb, hH0, h32, h32i, go_sem, ht]); (refine pCall_vw (by refine ⟨⟨?_, ?_⟩, ?_, ?_⟩; rotate_left 2; (first | (right; rintro r rfl; rfl) | left); all_goals ((try simp -implicitDefEqProofs (disch := omega) only [h1, h4, h6, h7, h27, h28, h8, hHb, hH0, h32, h32i, go_sem, ht]) <;> rfl)) (lm) ?_; rintro _ nx_6 - rfl hnx_6; simp -implicitDefEqProofs (disch := omega) only [h1, h4, h6, h7, h27, h28, h8, hHb, hH0, h32, h32i, go_sem, ht]))
          (refine end_treeM 2 ?_; simp -implicitDefEqProofs (disch := omega) only [go_sem, ht, h4, upd_self, hH0])
    · have hclt : c < n := by omega
      have hlen := hBI.len
      simp -implicitDefEqProofs (disch := omega) only [go_sem, ht, h1, h4, h6, h7, h27, h28, h8]
      refine LW.loopW hc ht (by kernel_rfl) (fun t => t.sl 1 = .val (.int .i64 n) ∧ t.sl 4 = .ptr 0 0 ∧ t.sl 6 = .ref idM 0 n capM 1 ∧ t.sl 7 = .ptr nx_2 0 ∧ t.sl 27 = .val (.int .i64 n) ∧ nx_2 < t.nx ∧ t.H 0 = some [.val (.bool false), .val (.slice none 0 0)] ∧ t.sl 28 = .val (.int .i64 c) ∧ t.sl 9 = .val (.int .i64 c) ∧
          MO t.H nx_1 nx_2 idM n n ids caps (fun i => W.getD i []) ∧ t.sl 8 = .val (.bool trn) ∧ t.H nx_2 = some [.val (.bool (decide (last < 0))), .sl (D last.natAbs).length ((D last.natAbs).map U)] ∧ ∃ p : Nat, c ≤ p ∧ p ≤ n ∧ t.sl 10 = .val (.int .i64 p) ∧ findP W c p = findP W c c)
        (fun t => match t.sl 10 with | .val (.int _ k) => n - k.toNat | _ => 0) ?_ ?_
      · simp -implicitDefEqProofs (disch := omega) only [go_sem, ht, h1, h4, h6, h7, h27, h28, h8]
        exact ⟨hbn, hH0, hMO, hHb, c, Nat.le_refl _, hcn, rfl, rfl⟩
      · clear h1 h4 h6 h7 h27 hbn hH0 h28 hMO h8 hHb
        rintro t ⟨h1, h4, h6, h7, h27, hbn, hH0, h28, h9, hMO, h8, hHb, p, hcp, hpn, h10, hfp⟩
        by_cases hpe : p = n
        · subst hpe
          have hfe : findP W c c = W.length := by rw [← hfp]; exact findP_end (by omega)
          have hbn1 : barW W0 (c + 1) = none := by
            rw [barW, hbw]
            simp only []
            rw [if_neg (by omega)]
          have hbnn := barW_none hbn1 (p - (c + 1))
          rw [show c + 1 + (p - (c + 1)) = p by omega] at hbnn
          have hbd : barD W0 p = 0 := by unfold barD; rw [hbnn]
          rw [hbd]
          have hd0 : ¬ 32 < (D (0 : Int).natAbs).length := by rw [show (0 : Int).natAbs = 0 from rfl, D_zero]; simp
          rw [if_neg hd0, if_neg hd0]
          simp -implicitDefEqProofs (disch := omega) only [go_sem, ht, h1, h4, h6, h7, h27, h28, h8, h9, h10, hH0]
          (refine end_treeM 2 ?_; simp -implicitDefEqProofs (disch := omega) only [go_sem, ht, h4, upd_self, hH0]); (rw [show Int.natAbs 0 = 0 from rfl, D_zero]; rfl)
        · have hplt : p < n := by omega
          have hmp := hMO.lt p hplt
          have hmM := hMO.idM
          obtain ⟨r0, hHM⟩ := hMO.out
          obtain ⟨rp, hHp⟩ := hMO.row p hplt
          have hpl := hMO.len p hplt
          try simp only at hHp hpl
          have hgp := MC_get (ids := ids) (caps := caps) (cols := n) (r0.map .val) hplt
          have hat := CZ_at' (z := W.getD p []) (rp.map .val) (show c < (W.getD p []).length by omega)
          have hzb := hBI.z (by omega) (by omega) hcp hplt (Nat.le_refl c) hclt
          have hZp : Z (B + 1) (vc (W.getD p []) c) := Nat.lt_of_le_of_lt hzb (Nat.pow_lt_pow_right (by decide) (by omega))
          have hsg := signW (Wn.C hZp (by omega))
          have hfe := findP_eq (W := W) (c := c) (i := p) (by omega)
          have hle1 : c * 2 + 2 ≤ (SWc (CZ (W.getD p [])) ++ rp.map PV.val).length := by rw [List.length_append, SWc_len, CZ_len]; omega
          by_cases hz0 : vc (W.getD p []) c = 0
          · rw [if_neg (by simpa using hz0)] at hfe
            rw [hz0, cZ_eq rfl] at hsg
            rw [hz0] at hat
            simp -implicitDefEqProofs (disch := omega) only [go_sem, ht, h1, h4, h6, h7, h27, h28, h8, h9, h10, hHM, hgp, hHp, hat]
            (refine pCall_vw (by refine ⟨⟨?_, ?_⟩, ?_, ?_⟩; rotate_left 2; (first | (right; rintro r rfl; rfl) | left); all_goals ((try simp -implicitDefEqProofs (disch := omega) only [h1, h4, h6, h7, h27, h28, h8, h9, h10, hHM, hgp, hHp, hat, go_sem, ht]) <;> rfl)) (hsg) ?_; rintro _ nx - rfl hnx; simp -implicitDefEqProofs (disch := omega) only [h1, h4, h6, h7, h27, h28, h8, h9, h10, hHM, hgp, hHp, hat, go_sem, ht])
            exact ⟨⟨by omega, hH0, hMO, hHb, p + 1, by omega, by omega, rfl, by rw [← hfe]; exact hfp⟩, by omega⟩
          · rw [if_pos (by simpa using hz0)] at hfe
            have hfc : findP W c c = p := by rw [← hfp]; exact hfe
            have hs0 : cZ (vc (W.getD p []) c) 0 ≠ 0 := by unfold cZ; split <;> (try split) <;> omega
            generalize cZ (vc (W.getD p []) c) 0 = sx at *
            have hgc := MC_get (ids := ids) (caps := caps) (cols := n) (r0.map .val) hclt
            obtain ⟨hset1, hset2⟩ := MC_set (ids := ids) (caps := caps) (cols := n) (r0.map .val) hplt hclt
            have hpne : p ≠ n := hpe
            simp -implicitDefEqProofs (disch := omega) only [go_sem, ht, h1, h4, h6, h7, h27, h28, h8, h9, h10, hHM, hgp, hHp, hat]
            (refine pCall_vw (by refine ⟨⟨?_, ?_⟩, ?_, ?_⟩; rotate_left 2; (first | (right; rintro r rfl; rfl) | left); all_goals ((try simp -implicitDefEqProofs (disch := omega) only [h1, h4, h6, h7, h27, h28, h8, h9, h10, hHM, hgp, hHp, hat, hgc, hset1, hset2, hpne, go_sem, ht]) <;> rfl)) (hsg) ?_; rintro _ nx - rfl hnx; simp -implicitDefEqProofs (disch := omega) only [h1, h4, h6, h7, h27, h28, h8, h9, h10, hHM, hgp, hHp, hat, hgc, hset1, hset2, hpne, go_sem, ht])
            have hml1 := MC_len ids caps n n
            have hsl : (swapL W c p).length = n := by rw [swapL_len]; exact hlen
            have hsg : ∀ k, k < n → (swapL W c p).getD k [] = W.getD (swp p c k) [] := fun k hk => swapL_get (by omega) (by omega) (by omega)
            have hbw1 : barW W0 (c + 1) = some (bstep last c (swapL W c p), vc ((swapL W c p).getD c []) c, xor trn (decide (p ≠ c))) := by
              rw [barW, hbw]
              simp only []
              rw [hfc, if_pos (by omega)]
            have hBI1 := hall (c + 1) hclt _ _ _ hbw1
            have hW1l : ∀ k, k < n → ((swapL W c p).getD k []).length = n := fun k hk => by rw [hsg k hk]; exact hBI.row _ (swp_bd hplt hclt hk)
            have hW1z : ∀ i k, c ≤ i → i < n → c ≤ k → k < n → Z (B + 1) (vc ((swapL W c p).getD i []) k) := fun i k hi hin hk hkn => by
              rw [hsg i hin]
              exact Nat.lt_of_le_of_lt (hBI.z (by omega) (by omega) (swp_ge hcp hi) (swp_bd hplt hclt hin) hk hkn) (Nat.pow_lt_pow_right (by decide) (by omega))
            have hV : ∀ i, i < n → (bstep last c (swapL W c p)).getD i [] = if i ≤ c then (swapL W c p).getD i [] else brow last c ((swapL W c p).getD c []) ((swapL W c p).getD i []) := fun i hi => bstep_get (by omega)
            have hVl : ∀ i, i < n → ((bstep last c (swapL W c p)).getD i []).length = n := fun i hi => hBI1.row i hi
            have hMs := hMO.swp (rest := r0) hplt hclt
            have hfun : (fun i => W.getD (swp p c i) []) = fun i => W.getD (swp p c i) [] := rfl
            obtain ⟨W1, eW1⟩ : ∃ W1, swapL W c p = W1 := ⟨_, rfl⟩
            rw [eW1] at hsl hsg hbw1 hW1l hW1z hV hVl hBI1
            obtain ⟨V, eV⟩ : ∃ V, bstep last c W1 = V := ⟨_, rfl⟩
            rw [eV] at hbw1 hV hVl hBI1
            obtain ⟨tr2, etr⟩ : ∃ b, xor trn (decide (p ≠ c)) = b := ⟨_, rfl⟩
            rw [etr] at hbw1
            obtain ⟨I4, hI4⟩ : ∃ I : PS → Prop, I = fun t : PS => t.sl 1 = .val (.int .i64 n) ∧ t.sl 4 = .ptr 0 0 ∧ t.sl 6 = .ref idM 0 n capM 1 ∧ t.sl 7 = .ptr nx_2 0 ∧ t.sl 27 = .val (.int .i64 n) ∧ nx_2 < t.nx ∧ t.H 0 = some [.val (.bool false), .val (.slice none 0 0)] ∧ t.sl 28 = .val (.int .i64 c) ∧ t.sl 9 = .val (.int .i64 c) ∧ t.sl 8 = .val (.bool tr2) ∧
                t.H nx_2 = some [.val (.bool (decide (last < 0))), .sl (D last.natAbs).length ((D last.natAbs).map U)] ∧ ∃ i : Nat, c + 1 ≤ i ∧ i ≤ n ∧ t.sl 11 = .val (.int .i64 i) ∧ ∃ ids caps : Nat → Nat, MO t.H nx_1 nx_2 idM n n ids caps (fun j => if j < i then V.getD j [] else W1.getD j []) := ⟨_, rfl⟩
            have hVW : ∀ j, j < n → (if j < c + 1 then V.getD j [] else W1.getD j []) = W1.getD j [] := fun j hj => by
              split
              · rw [hV j hj, if_pos (by omega)]
              · rfl
            refine LW.both3 I4 (fun hne => by omega) (fun hne => by rw [List.length_set]; omega) (fun hne => ?_) (fun he => ?_) (fun s hs => ?_)
            · rw [hI4]
              have hpc : p ≠ c := by omega
              simp -implicitDefEqProofs (disch := omega) only [go_sem, ht, h1, h4, h6, h7, h27, h28, h8, h9, h10]
              refine ⟨by omega, ?_, ?_, ?_, c + 1, Nat.le_refl _, by omega, rfl, fun x => ids (swp p c x), fun x => caps (swp p c x), ?_⟩
              · exact hH0
              · rw [← etr]; simp [hpc]
              · exact hHb
              · exact hMs.congr fun j hj => by rw [hVW j hj, hsg j hj]
            · rw [hI4]
              have hpc : p = c := by omega
              simp -implicitDefEqProofs (disch := omega) only [go_sem, ht, h1, h4, h6, h7, h27, h28, h8, h9, h10]
              refine ⟨by omega, hH0, ?_, hHb, c + 1, Nat.le_refl _, by omega, rfl, ids, caps, ?_⟩
              · rw [← etr]; simp [hpc]
              · exact hMO.congr fun j hj => by
                  rw [hVW j hj, hsg j hj]
                  have : swp p c j = j := by
                    subst hpc
                    unfold swp
                    split
                    · omega
                    · rfl
                  rw [this]
            · refine LW.loopW hc ht (by kernel_rfl) I4 (fun t => match t.sl 11 with | .val (.int _ k) => n - k.toNat | _ => 0) hs ?_
              clear hs h1 h4 h6 h7 h27 hbn hH0 h28 h9 hMO h8 hHb h10 hHM hgp hHp hat hgc hset1 hset2 hsg hMs hmp
              intro s hs
              rw [hI4] at hs
              obtain ⟨h1, h4, h6, h7, h27, hbn, hH0, h28, h9, h8, hHb, i, hci, hin, h11, ids, caps, hMO⟩ := hs
              by_cases hie : i = n
              · subst hie
                have hMV : MO s.H nx_1 nx_2 idM i i ids caps (fun j => V.getD j []) := hMO.congr fun j hj => if_pos hj
                have hmM := hMV.idM
                have hmc := hMV.lt c hclt
                obtain ⟨r0, hHM⟩ := hMV.out
                obtain ⟨rc, hHc⟩ := hMV.row c hclt
                have hcl := hVl c hclt
                have hgc := MC_get (ids := ids) (caps := caps) (cols := i) (r0.map .val) hclt
                have hat := CZ_at' (z := V.getD c []) (rc.map .val) (show c < (V.getD c []).length by omega)
                have hVc : V.getD c [] = W1.getD c [] := by rw [hV c hclt, if_pos (Nat.le_refl _)]
                try simp only at hHc
                rw [hVc] at hHc hat hcl
                generalize hx : vc (W1.getD c []) c = x at *
                generalize W1.getD c [] = z at *
                simp -implicitDefEqProofs (disch := omega) only [go_sem, ht, h1, h4, h6, h7, h27, h28, h8, h9, h11, hHM, hgc, hHc, hat, hHb]
                refine ⟨⟨hbn, hH0, c + 1, by omega, rfl, ids, caps, V, x, tr2, hbw1, ?_, rfl, rfl⟩, by omega⟩
                exact hMV.mono (Nat.le_refl _) fun j h1 h2 => upd_ne _ _ (by omega)
              · have hilt : i < n := by omega
                simp -implicitDefEqProofs (disch := omega) only [go_sem, ht, h1, h4, h6, h7, h27, h28, h8, h9, h11]
                refine LW.loopW hc ht (by kernel_rfl) (fun t => t.sl 1 = .val (.int .i64 n) ∧ t.sl 4 = .ptr 0 0 ∧ t.sl 6 = .ref idM 0 n capM 1 ∧ t.sl 7 = .ptr nx_2 0 ∧ t.sl 27 = .val (.int .i64 n) ∧ nx_2 < t.nx ∧ t.H 0 = some [.val (.bool false), .val (.slice none 0 0)] ∧ t.sl 28 = .val (.int .i64 c) ∧ t.sl 9 = .val (.int .i64 c) ∧ t.sl 8 = .val (.bool tr2) ∧
                    t.H nx_2 = some [.val (.bool (decide (last < 0))), .sl (D last.natAbs).length ((D last.natAbs).map U)] ∧ t.sl 11 = .val (.int .i64 i) ∧ ∃ k : Nat, c + 1 ≤ k ∧ k ≤ n ∧ t.sl 12 = .val (.int .i64 k) ∧ MO t.H nx_1 nx_2 idM n n ids caps (fun j => if j = i then (V.getD i []).take k ++ (W1.getD i []).drop k else if j < i then V.getD j [] else W1.getD j []))
                  (fun t => match t.sl 12 with | .val (.int _ k) => n - k.toNat | _ => 0) ?_ ?_
                · simp -implicitDefEqProofs (disch := omega) only [go_sem, ht, h1, h4, h6, h7, h27, h28, h8, h9, h11]
                  refine ⟨hbn, hH0, hHb, c + 1, Nat.le_refl _, by omega, rfl, hMO.congr fun j hj => ?_⟩
                  by_cases hji : j = i
                  · subst hji
                    rw [if_neg (by omega), if_pos rfl]
                    refine List.ext_getElem (by rw [mix_len (hVl j hj) (hW1l j hj) (by omega), hW1l j hj]) fun q g1 g2 => ?_
                    rw [← vc_lt g1, ← vc_lt g2, mix_get (hVl j hj) (hW1l j hj) (by omega)]
                    split
                    · rw [hV j hj, if_neg (by omega), brow_vc (by omega), if_pos (by omega)]
                    · rfl
                  · rw [if_neg hji]
                · clear h1 h4 h6 h7 h27 hbn hH0 h28 h9 h8 hHb h11 hMO
                  rintro u ⟨h1, h4, h6, h7, h27, hbn, hH0, h28, h9, h8, hHb, h11, k, hck, hkn, h12, hMO⟩
                  by_cases hke : k = n
                  · subst hke
                    simp -implicitDefEqProofs (disch := omega) only [go_sem, ht, h1, h4, h6, h7, h27, h28, h8, h9, h11, h12]
                    rw [hI4]
                    refine ⟨⟨by simp -implicitDefEqProofs (disch := omega) only [go_sem, ht, h1], by simp -implicitDefEqProofs (disch := omega) only [go_sem, ht, h4], by simp -implicitDefEqProofs (disch := omega) only [go_sem, ht, h6], by simp -implicitDefEqProofs (disch := omega) only [go_sem, ht, h7], by simp -implicitDefEqProofs (disch := omega) only [go_sem, ht, h27], hbn, hH0, by simp -implicitDefEqProofs (disch := omega) only [go_sem, ht, h28], by simp -implicitDefEqProofs (disch := omega) only [go_sem, ht, h9], by simp -implicitDefEqProofs (disch := omega) only [go_sem, ht, h8], hHb, i + 1, by omega, by omega, by simp -implicitDefEqProofs (disch := omega) only [go_sem, ht], ids, caps, hMO.congr fun j hj => ?_⟩, by omega⟩
                    by_cases hji : j = i
                    · subst hji
                      rw [if_pos rfl, if_pos (by omega), List.take_of_length_le (by rw [hVl j hj]; omega), List.drop_of_length_le (by rw [hW1l j hj]; omega), List.append_nil]
                    · rw [if_neg hji]
                      by_cases hlt : j < i
                      · rw [if_pos hlt, if_pos (by omega)]
                      · rw [if_neg hlt, if_neg (by omega)]
                  · have hklt : k < n := by omega
                    have hmM := hMO.idM
                    have hmc := hMO.lt c hclt
                    have hmi := hMO.lt i hilt
                    have hcne : ids c ≠ ids i := fun e => by have := hMO.inj c i hclt hilt e; omega
                    obtain ⟨r0, hHM⟩ := hMO.out
                    obtain ⟨rc, hHc⟩ := hMO.row c hclt
                    obtain ⟨ri, hHi⟩ := hMO.row i hilt
                    have hVc : V.getD c [] = W1.getD c [] := by rw [hV c hclt, if_pos (Nat.le_refl _)]
                    simp only [show ¬ c = i by omega, show c < i by omega, if_true, if_false, hVc] at hHc hHi
                    have hMil := mix_len (hVl i hilt) (hW1l i hilt) hkn
                    have hg1 : vc ((V.getD i []).take k ++ (W1.getD i []).drop k) k = vc (W1.getD i []) k := by rw [mix_get (hVl i hilt) (hW1l i hilt) hkn, if_neg (by omega)]
                    have hg2 : vc ((V.getD i []).take k ++ (W1.getD i []).drop k) c = vc (W1.getD i []) c := by rw [mix_get (hVl i hilt) (hW1l i hilt) hkn, if_pos (by omega), hV i hilt, if_neg (by omega), brow_vc (by rw [hW1l i hilt]; omega), if_pos (Nat.le_refl _)]
                    have hVk : vc (V.getD i []) k = (vc (W1.getD i []) k * vc (W1.getD c []) c - vc (W1.getD i []) c * vc (W1.getD c []) k) / last := by rw [hV i hilt, if_neg (by omega), brow_vc (by rw [hW1l i hilt]; omega), if_neg (by omega)]
                    have hset := mix_set (hVl i hilt) (hW1l i hilt) hklt hVk
                    have hati := CZ_at' (z := (V.getD i []).take k ++ (W1.getD i []).drop k) (c := k) (ri.map .val) (by omega)
                    have hatc := CZ_at' (z := (V.getD i []).take k ++ (W1.getD i []).drop k) (c := c) (ri.map .val) (by omega)
                    have hacc := CZ_at' (z := W1.getD c []) (c := c) (rc.map .val) (by rw [hW1l c hclt]; omega)
                    have hack := CZ_at' (z := W1.getD c []) (c := k) (rc.map .val) (by rw [hW1l c hclt]; omega)
                    rw [hg1] at hati
                    rw [hg2] at hatc
                    have hgc := MC_get (ids := ids) (caps := caps) (cols := n) (r0.map .val) hclt
                    have hgi := MC_get (ids := ids) (caps := caps) (cols := n) (r0.map .val) hilt
                    have z1 := hW1z i k (by omega) hilt (by omega) hklt
                    have z2 := hW1z c c (Nat.le_refl _) hclt (Nat.le_refl _) hclt
                    have z3 := hW1z i c (by omega) hilt (Nat.le_refl _) hclt
                    have z4 := hW1z c k (Nat.le_refl _) hclt (by omega) hklt
                    have m1 := mulW (Wn.C z1 (by omega)) (Wn.C z2 (by omega))
                    have m2 := mulW (Wn.C z3 (by omega)) (Wn.C z4 (by omega))
                    have s1 := subW (Wn.C (z1.mul z2) (by omega)) (Wn.C (z3.mul z4) (by omega))
                    have zs := (z1.mul z2).sub (z3.mul z4)
                    have hZl : Z (B + 1) last := Nat.lt_of_le_of_lt hlz (Nat.pow_lt_pow_right (by decide) (by omega))
                    have d1 := divW (Wn.C zs (by omega)) (Wn.C hZl (by omega)) hl0
                    have hsp := spl_set' (z := (V.getD i []).take k ++ (W1.getD i []).drop k) (p := k) (ri.map .val) (by omega) ((vc (W1.getD i []) k * vc (W1.getD c []) c - vc (W1.getD i []) c * vc (W1.getD c []) k) / last)
                    rw [hset] at hsp
                    have hlen3 : (SWc (CZ ((V.getD i []).take k ++ (W1.getD i []).drop k)) ++ ri.map PV.val).length = n * 2 + ri.length := by rw [List.length_append, SWc_len, CZ_len, hMil, List.length_map]; omega
                    have hmix1 : ((V.getD i []).take (k + 1) ++ (W1.getD i []).drop (k + 1)).length = n := mix_len (hVl i hilt) (hW1l i hilt) hklt
                    clear hset hVk hg1 hg2 z1 z2 z3 z4 zs hVc
                    generalize (vc (W1.getD i []) k * vc (W1.getD c []) c - vc (W1.getD i []) c * vc (W1.getD c []) k) % last = rm at *
                    generalize (vc (W1.getD i []) k * vc (W1.getD c []) c - vc (W1.getD i []) c * vc (W1.getD c []) k) / last = q at *
                    generalize vc (W1.getD i []) k * vc (W1.getD c []) c - vc (W1.getD i []) c * vc (W1.getD c []) k = x0 at *
                    generalize vc (W1.getD i []) k * vc (W1.getD c []) c = x5 at *
                    generalize vc (W1.getD i []) c * vc (W1.getD c []) k = x6 at *
                    generalize vc (W1.getD i []) k = x1 at *
                    generalize vc (W1.getD c []) c = x2 at *
                    generalize vc (W1.getD i []) c = x3 at *
                    generalize vc (W1.getD c []) k = x4 at *
                    obtain ⟨mx, emx⟩ : ∃ mx, (V.getD i []).take k ++ (W1.getD i []).drop k = mx := ⟨_, rfl⟩
                    obtain ⟨mx1, emx1⟩ : ∃ mx, (V.getD i []).take (k + 1) ++ (W1.getD i []).drop (k + 1) = mx := ⟨_, rfl⟩
                    obtain ⟨wc, ewc⟩ : ∃ wc, W1.getD c [] = wc := ⟨_, rfl⟩
                    rw [emx] at hHi hati hatc hsp hlen3 hMil
                    rw [emx1] at hsp hmix1
                    rw [ewc] at hHc hacc hack
                    simp -implicitDefEqProofs (disch := omega) only [go_sem, ht, h1, h4, h6, h7, h27, h28, h8, h9, h11, h12, hHM, hgi, hgc, hHi, hHc, hati, hatc, hacc, hack]
                    ((refine pCall_vw (by refine ⟨⟨?_, ?_⟩, ?_, ?_⟩; rotate_left 2; (first | (right; rintro r rfl; rfl) | left); all_goals ((try simp -implicitDefEqProofs (disch := omega) only [h1, h4, h6, h7, h27, h28, h8, h9, h11, h12, hHM, hgi, hgc, hHi, hHc, hati, hatc, hacc, hack, hHb, go_sem, ht]) <;> rfl)) (m1) ?_; rintro _ nx_7 - rfl hnx_7; simp -implicitDefEqProofs (disch := omega) only [h1, h4, h6, h7, h27, h28, h8, h9, h11, h12, hHM, hgi, hgc, hHi, hHc, hati, hatc, hacc, hack, hHb, go_sem, ht]); (refine pCall_vw (by refine ⟨⟨?_, ?_⟩, ?_, ?_⟩; rotate_left 2; (first | (right; rintro r rfl; rfl) | left); all_goals ((try simp -implicitDefEqProofs (disch := omega) only [h1, h4, h6, h7, h27, h28, h8, h9, h11, h12, hHM, hgi, hgc, hHi, hHc, hati, hatc, hacc, hack, hHb, go_sem, ht]) <;> rfl)) (m2) ?_; rintro _ nx_8 - rfl hnx_8; simp -implicitDefEqProofs (disch := omega) only [h1, h4, h6, h7, h27, h28, h8, h9, h11, h12, hHM, hgi, hgc, hHi, hHc, hati, hatc, hacc, hack, hHb, go_sem, ht]); (refine pCall_vw (by refine ⟨⟨?_, ?_⟩, ?_, ?_⟩; rotate_left 2; (first | (right; rintro r rfl; rfl) | left); all_goals ((try simp -implicitDefEqProofs (disch := omega) only [h1, h4, h6, h7, h27, h28, h8, h9, h11, h12, hHM, hgi, hgc, hHi, hHc, hati, hatc, hacc, hack, hHb, go_sem, ht]) <;> rfl)) (s1) ?_; rintro _ nx_9 - rfl hnx_9; simp -implicitDefEqProofs (disch := omega) only [h1, h4, h6, h7, h27, h28, h8, h9, h11, h12, hHM, hgi, hgc, hHi, hHc, hati, hatc, hacc, hack, hHb, go_sem, ht]))
                    ((refine pCall_vw (by refine ⟨⟨?_, ?_⟩, ?_, ?_⟩; rotate_left 2; (first | (right; rintro r rfl; rfl) | left); all_goals ((try simp -implicitDefEqProofs (disch := omega) only [h1, h4, h6, h7, h27, h28, h8, h9, h11, h12, hHM, hgi, hgc, hHi, hHc, hati, hatc, hacc, hack, hHb, hsp, hlen3, go_sem, ht]) <;> rfl)) (d1) ?_; rintro _ nx_10 - rfl hnx_10; simp -implicitDefEqProofs (disch := omega) only [h1, h4, h6, h7, h27, h28, h8, h9, h11, h12, hHM, hgi, hgc, hHi, hHc, hati, hatc, hacc, hack, hHb, hsp, hlen3, go_sem, ht]))
                    refine ⟨⟨by omega, hH0, k + 1, by omega, by omega, rfl, ?_⟩, by omega⟩
                    have hM2 := hMO.mono (H' := upd u.H nx_9 (some [PV.val (Value.bool (decide (x0 < 0))), PV.sl (D x0.natAbs).length (List.map U (D x0.natAbs))])) (Nat.le_refl _) (fun j h1 h2 => upd_ne _ _ (by omega))
                    refine (MO.set (rest := ri) hM2 hilt hmix1).congr fun j hj => ?_
                    by_cases hji : j = i
                    · rw [if_pos hji, if_pos hji, emx1]
                    · rw [if_neg hji, if_neg hji, if_neg hji]

def mDet (m : List (List (Bool × List Nat))) (c : Int) : Int × Int :=
  if wrongM m c || decide ((m.length : Int) ≠ c) then (0, 1) else if 32 < (D (detZ (m.map vals) c.toNat).natAbs).length then (0, 2) else (detZ (m.map vals) c.toNat, 0)
theorem mdet_calls (h : Mx m B) {cn : Int} : PT Try.prog 30 [SM m, .val (.int .i64 cn)] (isV (.tup [WC (mDet m cn).1, .val (.int .i64 (mDet m cn).2)])) := by
  have hw := wrong_calls (m := m) (cn := cn)
  unfold mDet
  by_cases hb : wrongM m cn = true
  · rw [hb] at hw
    rw [hb, Bool.true_or, if_pos rfl]
    refine PCalls.enter (n := 145) (rs := [.cell 4 30, .tmp 5]) (tb := [(14, [(0, []), (1, []), (2, []), (3, []), (4, []), (5, []), (6, []), (7, []), (8, []), (9, []), (10, []), (11, []), (12, []), (13, [2, 3]), (14, []), (15, [])]), (1000014, [(0, []), (0, []), (0, []), (0, []), (0, []), (0, []), (48, []), (112, []), (0, []), (0, []), (768, []), (1792, []), (4083, []), (8179, []), (16383, []), (32767, [])]), (22, [(0, []), (1, []), (2, []), (3, []), (4, []), (5, []), (6, []), (7, []), (8, []), (9, []), (10, []), (11, []), (12, []), (13, []), (15, []), (16, []), (17, []), (18, []), (19, []), (20, []), (21, []), (22, []), (23, []), (24, []), (25, []), (26, []), (27, []), (28, []), (14, [15, 16, 17, 18, 19, 20, 21, 22, 23, 24, 25, 26, 27, 28]), (29, []), (30, []), (31, [0, 1, 2, 3, 4, 5, 6, 7, 8, 9, 10, 11, 12, 13, 15, 16, 17, 18, 19, 20, 21, 22, 23, 24, 25, 26, 27, 28]), (32, [])]), (1000022, [(0, []), (0, []), (3, []), (7, []), (0, []), (31, []), (63, []), (0, []), (0, []), (384, []), (896, []), (0, []), (3968, []), (8064, []), (16383, []), (0, []), (0, []), (98304, []), (229376, []), (0, []), (1015808, []), (2064384, []), (0, []), (0, []), (12582912, []), (29360128, []), (0, []), (130023424, []), (264241152, []), (536870911, []), (1073741823, []), (0, []), (4294967295, [])]), (23, [(0, []), (1, []), (2, []), (3, []), (4, []), (5, []), (6, []), (7, [0, 1, 2, 3, 4]), (8, []), (9, []), (10, []), (11, []), (12, []), (13, [10, 11])]), (1000023, [(0, []), (0, []), (3, []), (7, []), (0, []), (0, []), (0, []), (96, []), (224, []), (480, []), (480, []), (480, []), (1023, []), (5119, [])])]) Try.func30 rfl rfl rfl (by kernel_rfl) (by kernel_rfl) (by simp) fun c hc ht => ?_
    simp -implicitDefEqProofs (disch := omega) only [go_sem, ht]
    (refine pCall_vw (by refine ⟨⟨?_, ?_⟩, ?_, ?_⟩; rotate_left 2; (first | (right; rintro r rfl; rfl) | left); all_goals ((try simp -implicitDefEqProofs (disch := omega) only [go_sem, ht]) <;> rfl)) (hw) ?_; rintro _ nx - rfl hnx; simp -implicitDefEqProofs (disch := omega) only [go_sem, ht])
    (refine end_treeM 2 ?_; simp -implicitDefEqProofs (disch := omega) only [go_sem, ht, upd_self]); (rw [show Int.natAbs 0 = 0 from rfl, D_zero]; rfl)
  · have hb' : wrongM m cn = false := by simpa using hb
    by_cases hmc : (m.length : Int) = cn
    · obtain ⟨k, rfl, hn, hml, hlc⟩ := wrongM_false hb'
      have hmk : m.length = k := by omega
      have hd := det_calls h hlc hmk hn hb'
      rw [hb', Bool.false_or, if_neg (by simp [hmk]), Int.toNat_natCast]
      have e : (if 32 < (D (detZ (m.map vals) k).natAbs).length then ((0, 2) : Int × Int) else (detZ (m.map vals) k, 0)) = (if 32 < (D (detZ (m.map vals) k).natAbs).length then 0 else detZ (m.map vals) k, if 32 < (D (detZ (m.map vals) k).natAbs).length then 2 else 0) := by split <;> rfl
      rw [e]
      exact hd
    · rw [hb'] at hw
      rw [if_pos (by simp [hmc])]
      have hmc' : ¬ ((m.length : Nat) : Int) = cn := hmc
      refine PCalls.enter (n := 145) (rs := [.cell 4 30, .tmp 5]) (tb := [(14, [(0, []), (1, []), (2, []), (3, []), (4, []), (5, []), (6, []), (7, []), (8, []), (9, []), (10, []), (11, []), (12, []), (13, [2, 3]), (14, []), (15, [])]), (1000014, [(0, []), (0, []), (0, []), (0, []), (0, []), (0, []), (48, []), (112, []), (0, []), (0, []), (768, []), (1792, []), (4083, []), (8179, []), (16383, []), (32767, [])]), (22, [(0, []), (1, []), (2, []), (3, []), (4, []), (5, []), (6, []), (7, []), (8, []), (9, []), (10, []), (11, []), (12, []), (13, []), (15, []), (16, []), (17, []), (18, []), (19, []), (20, []), (21, []), (22, []), (23, []), (24, []), (25, []), (26, []), (27, []), (28, []), (14, [15, 16, 17, 18, 19, 20, 21, 22, 23, 24, 25, 26, 27, 28]), (29, []), (30, []), (31, [0, 1, 2, 3, 4, 5, 6, 7, 8, 9, 10, 11, 12, 13, 15, 16, 17, 18, 19, 20, 21, 22, 23, 24, 25, 26, 27, 28]), (32, [])]), (1000022, [(0, []), (0, []), (3, []), (7, []), (0, []), (31, []), (63, []), (0, []), (0, []), (384, []), (896, []), (0, []), (3968, []), (8064, []), (16383, []), (0, []), (0, []), (98304, []), (229376, []), (0, []), (1015808, []), (2064384, []), (0, []), (0, []), (12582912, []), (29360128, []), (0, []), (130023424, []), (264241152, []), (536870911, []), (1073741823, []), (0, []), (4294967295, [])]), (23, [(0, []), (1, []), (2, []), (3, []), (4, []), (5, []), (6, []), (7, [0, 1, 2, 3, 4]), (8, []), (9, []), (10, []), (11, []), (12, []), (13, [10, 11])]), (1000023, [(0, []), (0, []), (3, []), (7, []), (0, []), (0, []), (0, []), (96, []), (224, []), (480, []), (480, []), (480, []), (1023, []), (5119, [])])]) Try.func30 rfl rfl rfl (by kernel_rfl) (by kernel_rfl) (by simp) fun c hc ht => ?_
      simp -implicitDefEqProofs (disch := omega) only [go_sem, ht]
      (refine pCall_vw (by refine ⟨⟨?_, ?_⟩, ?_, ?_⟩; rotate_left 2; (first | (right; rintro r rfl; rfl) | left); all_goals ((try simp -implicitDefEqProofs (disch := omega) only [hmc', go_sem, ht]) <;> rfl)) (hw) ?_; rintro _ nx - rfl hnx; simp -implicitDefEqProofs (disch := omega) only [hmc', go_sem, ht])
      (refine end_treeM 2 ?_; simp -implicitDefEqProofs (disch := omega) only [go_sem, ht, upd_self]); (rw [show Int.natAbs 0 = 0 from rfl, D_zero]; rfl)
end
end Go.Proofs.Ytfjdfnlkobeehaa
end

section
set_option maxRecDepth 100000
set_option linter.unusedVariables false
set_option linter.unusedSimpArgs false
namespace Go.Proofs.Ytfjdfnlkobeehaa


end Go.Proofs.Ytfjdfnlkobeehaa
end

section
set_option maxRecDepth 100000
set_option linter.unusedVariables false
set_option linter.unusedSimpArgs false
namespace Go.Proofs.Ytfjdfnlkobeehaa

theorem dropH_at (D : Nat → Bool) (H : Nat → Option (List PV)) (i : Nat) : dropH D H i = if D i = true then none else H i := rfl
end Go.Proofs.Ytfjdfnlkobeehaa
end

section
set_option maxRecDepth 100000
set_option linter.unusedVariables false
set_option linter.unusedSimpArgs false
namespace Go.Proofs.Ytfjdfnlkobeehaa

def loopsC : Code → List Code
  | .seq x y => loopsC x ++ loopsC y
  | .cond _ x y => loopsC x ++ loopsC y
  | .block _ x => loopsC x
  | .scope x => loopsC x
  | .loop x => .loop x :: loopsC x
  | _ => []
def loopN (fn : Func) (k : Nat) : Code := ((fn.body.map loopsC).getD []).getD k .skip
theorem LW.ofLoop {P : Program} {fn : Func} {k : Nat} {x : Code} {c : Cx} {Q : Exit → PS → Prop} {s : PS} (h : loopN fn k = Code.loop x) (hw : LW P c (.loop x) Q s) : LW P c (loopN fn k) Q s := h ▸ hw
end Go.Proofs.Ytfjdfnlkobeehaa
end

section
set_option maxRecDepth 100000
set_option linter.unusedVariables false
set_option linter.unusedSimpArgs false
namespace Go.Proofs.Ytfjdfnlkobeehaa.Ref
open Ytfjdfnlkobeehaa (SWc SW WX WC WV vals vals_len SM lenM Rn vc vc_lt SW_def SM_def cZ get_SM' getD_take getD_mem getD_vals wrongM swp_bd swp_swp swp_ge)

def QR (q : Rat) : List PV := [.val (.bool (decide (q.num < 0))), .sl (D q.num.natAbs).length ((D q.num.natAbs).map I), .val (.bool false), .sl (D q.den).length ((D q.den).map I)]
def QC (qs : List Rat) : List PV := qs.flatMap QR
theorem QC_cons (q : Rat) (qs : List Rat) : QC (q :: qs) = .val (.bool (decide (q.num < 0))) :: .sl (D q.num.natAbs).length ((D q.num.natAbs).map I) :: .val (.bool false) :: .sl (D q.den).length ((D q.den).map I) :: QC qs := rfl
theorem QC_app (x y : List Rat) : QC (x ++ y) = QC x ++ QC y := by unfold QC; rw [List.flatMap_append]
theorem QC_len : ∀ qs : List Rat, (QC qs).length = qs.length * 4
  | [] => rfl
  | q :: qs => by rw [QC_cons]; simp only [List.length_cons, QC_len qs]; omega
theorem QC_drop : ∀ (qs : List Rat) (c : Nat), (QC qs).drop (c * 4) = QC (qs.drop c)
  | qs, 0 => rfl
  | [], c + 1 => by simp [QC]
  | q :: qs, c + 1 => by
    rw [Nat.succ_mul, QC_cons]
    exact QC_drop qs c
theorem QC_take : ∀ (qs : List Rat) (c : Nat), (QC qs).take (c * 4) = QC (qs.take c)
  | qs, 0 => by simp [QC]
  | [], c + 1 => by simp [QC]
  | q :: qs, c + 1 => by
    rw [Nat.succ_mul, QC_cons]
    show _ :: _ :: _ :: _ :: (QC qs).take (c * 4) = _
    rw [QC_take qs c]; rfl

def qv (qs : List Rat) (k : Nat) : Rat := qs.getD k 0
theorem qv_lt {qs : List Rat} {k : Nat} (h : k < qs.length) : qv qs k = qs[k] := by simp [qv, h]
theorem QC_at {qs : List Rat} {c : Nat} (r : List PV) (h : c < qs.length) : (QC qs ++ r).drop (c * 4) = .val (.bool (decide ((qv qs c).num < 0))) :: .sl (D (qv qs c).num.natAbs).length ((D (qv qs c).num.natAbs).map I) :: .val (.bool false) :: .sl (D (qv qs c).den).length ((D (qv qs c).den).map I) :: (QC (qs.drop (c + 1)) ++ r) := by
  rw [List.drop_append_of_le_length (by rw [QC_len]; omega), QC_drop, List.drop_eq_getElem_cons h, QC_cons, qv_lt h]; rfl
theorem QC_set {qs : List Rat} {c : Nat} (r : List PV) (h : c < qs.length) (q : Rat) : spl (QC qs ++ r) (c * 4) [.val (.bool (decide (q.num < 0))), .sl (D q.num.natAbs).length ((D q.num.natAbs).map I), .val (.bool false), .sl (D q.den).length ((D q.den).map I)] = QC (qs.set c q) ++ r := by
  rw [Ytfjdfnlkobeehaa.spl_app (by rw [QC_len]; simp; omega)]
  congr 1
  unfold spl
  have h4 : c * 4 + 4 = (c + 1) * 4 := by omega
  simp only [List.length_cons, List.length_nil, Nat.zero_add, Nat.reduceAdd]
  rw [QC_take, h4, QC_drop, List.set_eq_take_append_cons_drop, if_pos h, QC_app]; rfl
theorem QC_next {qs : List Rat} {c : Nat} (h : c < qs.length) : QC (qs.take c) ++ [.val (.bool (decide ((qv qs c).num < 0))), .sl (D (qv qs c).num.natAbs).length ((D (qv qs c).num.natAbs).map I), .val (.bool false), .sl (D (qv qs c).den).length ((D (qv qs c).den).map I)] = QC (qs.take (c + 1)) := by
  rw [List.take_succ_eq_append_getElem h, QC_app, ← qv_lt h]; rfl

def RC (ids caps : Nat → Nat) (cols n : Nat) : List PV := (List.range n).map fun i => .ref (ids i) 0 cols (caps i) 4
theorem RC_len (ids caps : Nat → Nat) (cols n : Nat) : (RC ids caps cols n).length = n := by simp [RC]
theorem RC_succ (ids caps : Nat → Nat) (cols n : Nat) : RC ids caps cols (n + 1) = RC ids caps cols n ++ [.ref (ids n) 0 cols (caps n) 4] := by simp [RC, List.range_succ]
theorem RC_congr {ids ids' caps caps' : Nat → Nat} {cols n : Nat} (h : ∀ i, i < n → ids i = ids' i ∧ caps i = caps' i) : RC ids caps cols n = RC ids' caps' cols n := List.map_congr_left fun i hi => by
  obtain ⟨h1, h2⟩ := h i (List.mem_range.1 hi)
  rw [h1, h2]
theorem RC_get {ids caps : Nat → Nat} {cols n i : Nat} (r : List PV) (h : i < n) : (RC ids caps cols n ++ r)[i]? = some (.ref (ids i) 0 cols (caps i) 4) := by
  rw [List.getElem?_append_left (by rw [RC_len]; exact h)]
  simp [RC, h]
structure GO (H : Nat → Option (List PV)) (lo b idM n cols : Nat) (ids caps : Nat → Nat) (f : Nat → List Rat) : Prop where
  out : ∃ rest : List Value, H idM = some (RC ids caps cols n ++ rest.map .val)
  row : ∀ i, i < n → ∃ rest : List Value, H (ids i) = some (QC (f i) ++ rest.map .val)
  lt : ∀ i, i < n → lo ≤ ids i ∧ ids i < b ∧ ids i ≠ idM
  inj : ∀ i j, i < n → j < n → ids i = ids j → i = j
  idM : lo ≤ idM ∧ idM < b
  len : ∀ i, i < n → (f i).length = cols
theorem GO.mono {H H' : Nat → Option (List PV)} {lo b b' idM n cols : Nat} {ids caps : Nat → Nat} {f : Nat → List Rat} (h : GO H lo b idM n cols ids caps f) (hb : b ≤ b') (hH : ∀ j, lo ≤ j → j < b → H' j = H j) : GO H' lo b' idM n cols ids caps f := by
  obtain ⟨rest, ho⟩ := h.out
  refine ⟨⟨rest, by rw [hH _ h.idM.1 h.idM.2]; exact ho⟩, fun i hi => ?_, fun i hi => ?_, h.inj, ⟨h.idM.1, by have := h.idM.2; omega⟩, h.len⟩
  · obtain ⟨r, hr⟩ := h.row i hi
    have := h.lt i hi
    exact ⟨r, by rw [hH _ this.1 this.2.1]; exact hr⟩
  · have := h.lt i hi
    exact ⟨this.1, by omega, this.2.2⟩
theorem GO.congr {H : Nat → Option (List PV)} {lo b idM n cols : Nat} {ids caps : Nat → Nat} {f g : Nat → List Rat} (h : GO H lo b idM n cols ids caps f) (e : ∀ i, i < n → f i = g i) : GO H lo b idM n cols ids caps g :=
  ⟨h.out, fun i hi => by rw [← e i hi]; exact h.row i hi, h.lt, h.inj, h.idM, fun i hi => by rw [← e i hi]; exact h.len i hi⟩
theorem GO.set {H : Nat → Option (List PV)} {lo b idM n cols i : Nat} {ids caps : Nat → Nat} {f : Nat → List Rat} {z : List Rat} {rest : List Value} (h : GO H lo b idM n cols ids caps f) (hi : i < n) (hz : z.length = cols) : GO (upd H (ids i) (some (QC z ++ rest.map .val))) lo b idM n cols ids caps (fun j => if j = i then z else f j) := by
  obtain ⟨r0, ho⟩ := h.out
  refine ⟨⟨r0, by rw [upd_ne _ _ (Ne.symm (h.lt i hi).2.2)]; exact ho⟩, fun j hj => ?_, h.lt, h.inj, h.idM, fun j hj => ?_⟩
  · by_cases hji : j = i
    · subst hji
      exact ⟨rest, by rw [upd_self, if_pos rfl]⟩
    · obtain ⟨r, hr⟩ := h.row j hj
      exact ⟨r, by rw [upd_ne _ _ (fun e => hji (h.inj j i hj hi e)), if_neg hji]; exact hr⟩
  · show (if j = i then z else f j).length = cols
    split
    · exact hz
    · exact h.len j hj
theorem GO.swp {H : Nat → Option (List PV)} {lo b idM n cols p c : Nat} {ids caps : Nat → Nat} {f : Nat → List Rat} {rest : List Value} (h : GO H lo b idM n cols ids caps f) (hp : p < n) (hc : c < n) :
    GO (upd H idM (some (RC (fun i => ids (Ytfjdfnlkobeehaa.swp p c i)) (fun i => caps (Ytfjdfnlkobeehaa.swp p c i)) cols n ++ rest.map .val))) lo b idM n cols (fun i => ids (Ytfjdfnlkobeehaa.swp p c i)) (fun i => caps (Ytfjdfnlkobeehaa.swp p c i)) (fun i => f (Ytfjdfnlkobeehaa.swp p c i)) := by
  refine ⟨⟨rest, upd_self _ _ _⟩, fun i hi => ?_, fun i hi => h.lt _ (swp_bd hp hc hi), fun i j hi hj e => ?_, h.idM, fun i hi => h.len _ (swp_bd hp hc hi)⟩
  · obtain ⟨r, hr⟩ := h.row _ (swp_bd hp hc hi)
    exact ⟨r, by rw [upd_ne _ _ (h.lt _ (swp_bd hp hc hi)).2.2]; exact hr⟩
  · have := h.inj _ _ (swp_bd hp hc hi) (swp_bd hp hc hj) e
    have := congrArg (Ytfjdfnlkobeehaa.swp p c) this
    rwa [swp_swp, swp_swp] at this
theorem RC_set {ids caps : Nat → Nat} {cols n p c : Nat} (r : List PV) (hp : p < n) (hc : c < n) :
    spl (RC ids caps cols n ++ r) p [.ref (ids c) 0 cols (caps c) 4] = (RC ids caps cols n).set p (.ref (ids c) 0 cols (caps c) 4) ++ r ∧
    spl ((RC ids caps cols n).set p (.ref (ids c) 0 cols (caps c) 4) ++ r) c [.ref (ids p) 0 cols (caps p) 4] = RC (fun i => ids (Ytfjdfnlkobeehaa.swp p c i)) (fun i => caps (Ytfjdfnlkobeehaa.swp p c i)) cols n ++ r := by
  have key : ∀ (l : List PV) (q : Nat) (x : PV), q < l.length → spl (l ++ r) q [x] = l.set q x ++ r := fun l q x hq => by
    rw [Ytfjdfnlkobeehaa.spl_app (by simp; omega)]
    unfold spl
    rw [List.set_eq_take_append_cons_drop, if_pos hq]; rfl
  refine ⟨key _ _ _ (by rw [RC_len]; exact hp), ?_⟩
  rw [key _ _ _ (by rw [List.length_set, RC_len]; exact hc)]
  congr 1
  refine List.ext_getElem (by simp [RC]) fun k h1 h2 => ?_
  simp only [List.getElem_set, RC, List.getElem_map, List.getElem_range]
  unfold Ytfjdfnlkobeehaa.swp
  by_cases hkc : c = k
  · subst hkc
    by_cases hkp : c = p
    · subst hkp; simp
    · simp [hkp]
  · have hkc' : ¬ k = c := fun e => hkc e.symm
    by_cases hkp : p = k
    · subst hkp; simp [hkc, hkc']
    · have hkp' : ¬ k = p := fun e => hkp e.symm
      simp [hkc, hkc', hkp, hkp']


def radd (c : Nat) (x : Rat) (p z : List Rat) : List Rat := z.mapIdx fun j y => if j < c then y else y + x * qv p j
def rmix (c j : Nat) (x : Rat) (p z : List Rat) : List Rat := z.mapIdx fun t y => if t < c then y else if t < j then y + x * qv p t else y
theorem radd_len (c : Nat) (x : Rat) (p z : List Rat) : (radd c x p z).length = z.length := by simp [radd]
theorem rmix_len (c j : Nat) (x : Rat) (p z : List Rat) : (rmix c j x p z).length = z.length := by simp [rmix]
theorem rmix_start (c : Nat) (x : Rat) (p z : List Rat) : rmix c c x p z = z := by
  refine List.ext_getElem (rmix_len ..) fun t h1 h2 => ?_
  simp only [rmix, List.getElem_mapIdx]
  split
  · rfl
  · rfl
theorem rmix_end (c : Nat) (x : Rat) (p z : List Rat) : rmix c z.length x p z = radd c x p z := by
  refine List.ext_getElem (by rw [rmix_len, radd_len]) fun t h1 h2 => ?_
  rw [rmix_len] at h1
  simp only [rmix, radd, List.getElem_mapIdx, if_pos h1]
theorem rmix_at {c j : Nat} {x : Rat} {p z : List Rat} (h : j < z.length) : qv (rmix c j x p z) j = qv z j := by
  rw [qv_lt (by rw [rmix_len]; exact h), qv_lt h]
  simp [rmix]
theorem rmix_set {c j : Nat} {x : Rat} {p z : List Rat} (hc : c ≤ j) (h : j < z.length) : (rmix c j x p z).set j (qv z j + x * qv p j) = rmix c (j + 1) x p z := by
  refine List.ext_getElem (by simp [rmix_len]) fun t h1 h2 => ?_
  rw [List.getElem_set]
  simp only [rmix, List.getElem_mapIdx]
  by_cases htj : j = t
  · subst htj
    rw [if_pos rfl, if_neg (by omega), if_pos (by omega), qv_lt h]
  · rw [if_neg htj]
    by_cases h3 : t < c
    · rw [if_pos h3, if_pos h3]
    · rw [if_neg h3, if_neg h3]
      by_cases h4 : t < j
      · rw [if_pos h4, if_pos (by omega)]
      · rw [if_neg h4, if_neg (by omega)]
theorem radd_at {c j : Nat} {x : Rat} {p z : List Rat} (hc : c ≤ j) (h : j < z.length) : qv (radd c x p z) j = qv z j + x * qv p j := by
  rw [qv_lt (by rw [radd_len]; exact h), qv_lt h]
  simp only [radd, List.getElem_mapIdx]
  rw [if_neg (by omega)]
end Go.Proofs.Ytfjdfnlkobeehaa.Ref
end

section
set_option maxRecDepth 100000
set_option linter.unusedVariables false
set_option linter.unusedSimpArgs false
namespace Go.Proofs.Ytfjdfnlkobeehaa.Ref
open Ytfjdfnlkobeehaa (SWc SW WX WC WV vals vals_len SM lenM Rn vc vc_lt SW_def SM_def cZ get_SM' getD_take getD_mem getD_vals wrongM swp_bd swp_swp swp_ge loopN)
def PB (n c idM capM bd : Nat) (d : Rat) (t : PS) : Prop := t.sl 2 = .ptr 0 0 ∧ t.sl 3 = .ref idM 0 n capM 1 ∧ t.sl 7 = .ptr bd 0 ∧ t.sl 8 = .val (.int .i64 c) ∧ t.H 0 = some [.val (.bool false), .val (.slice none 0 0)] ∧
  t.H bd = some [.val (.bool (decide (d.num < 0))), .sl (D d.num.natAbs).length ((D d.num.natAbs).map I), .val (.bool false), .sl (D d.den).length ((D d.den).map I)] ∧ 0 < bd ∧ bd < t.nx
def PB4 (n c idM capM bd : Nat) (d : Rat) (bo : Nat) (o : Rat) (t : PS) : Prop := PB n c idM capM bd d t ∧ t.sl 11 = .ptr bo 0 ∧
  t.H bo = some [.val (.bool (decide (o.num < 0))), .sl (D o.num.natAbs).length ((D o.num.natAbs).map I), .val (.bool false), .sl (D o.den).length ((D o.den).map I)] ∧ bd < bo ∧ bo < t.nx
def PB5 (n c idM capM bd : Nat) (d : Rat) (bo : Nat) (o : Rat) (i bk : Nat) (x : Rat) (t : PS) : Prop := PB4 n c idM capM bd d bo o t ∧ t.sl 12 = .val (.int .i64 i) ∧ t.sl 13 = .ptr bk 0 ∧
  t.H bk = some [.val (.bool (decide (x.num < 0))), .sl (D x.num.natAbs).length ((D x.num.natAbs).map I), .val (.bool false), .sl (D x.den).length ((D x.den).map I)] ∧ bo < bk ∧ bk < t.nx
section
variable {n c idM capM bd bo bk i : Nat} {ids caps : Nat → Nat} {f : Nat → List Rat} {d o x : Rat} {cx : Cx} {Q : Exit → PS → Prop} {s : PS}
set_option maxHeartbeats 16000000 in
theorem prod5 (hc : cx.n = 172) (ht : cx.tb = [(9, [(0, []), (1, []), (2, []), (3, []), (4, []), (5, []), (6, []), (7, []), (8, [0, 1, 2, 3, 4, 5, 6, 7]), (9, []), (10, [0]), (11, []), (12, [])]), (1000009, [(0, []), (0, []), (0, []), (6, []), (14, []), (0, []), (62, []), (126, []), (0, []), (510, []), (1022, []), (2047, []), (4095, [])]), (25, [(0, []), (1, []), (2, []), (3, []), (4, []), (5, []), (6, []), (7, []), (8, [1, 2]), (9, [])]), (26, [(0, []), (1, []), (2, []), (3, []), (4, []), (5, []), (6, []), (7, []), (8, []), (9, []), (10, []), (11, []), (12, []), (13, []), (14, []), (15, []), (16, []), (17, [0, 1, 2, 3, 4, 5, 6, 7, 8, 9, 10, 11, 12, 13, 14, 15]), (18, [])]), (1000026, [(0, []), (0, []), (3, []), (7, []), (0, []), (31, []), (63, []), (127, []), (0, []), (0, []), (768, []), (1792, []), (0, []), (7936, []), (16128, []), (32512, []), (65535, []), (0, []), (262143, [])]), (30, [(0, []), (1, []), (2, []), (3, []), (4, []), (5, []), (6, []), (7, []), (8, []), (9, []), (10, [0, 1, 2, 3, 4, 5, 6, 7]), (11, [])]), (1000030, [(0, []), (0, []), (3, []), (7, []), (0, []), (31, []), (63, []), (0, []), (255, []), (511, []), (0, []), (2047, [])]), (34, [(0, []), (1, []), (2, []), (3, []), (4, []), (5, []), (6, []), (7, []), (8, []), (9, []), (10, []), (11, []), (12, []), (13, []), (14, []), (15, []), (16, []), (17, []), (18, []), (19, []), (20, [0, 1, 2, 3, 4, 5, 6, 7, 8, 9, 10, 11]), (21, [0, 1, 2, 3, 4]), (22, []), (23, [])]), (1000034, [(0, []), (0, []), (3, []), (7, []), (0, []), (0, []), (0, []), (96, []), (224, []), (0, []), (992, []), (2016, []), (0, []), (0, []), (0, []), (24576, []), (57344, []), (0, []), (253952, []), (516096, []), (1044480, []), (2097120, []), (4194303, []), (8388607, [])])]) (hci : c < i) (hin : i < n) (hn : n ≤ 1000)
    (hT : ∀ j, c ≤ j → j < n → PT Try.prog 111 [QZ x.num x.den, QZ (qv (f c) j).num (qv (f c) j).den] (isV (QZ (x * qv (f c) j).num (x * qv (f c) j).den)))
    (hP : ∀ j, c ≤ j → j < n → PT Try.prog 113 [QZ (qv (f i) j).num (qv (f i) j).den, QZ (x * qv (f c) j).num (x * qv (f c) j).den] (isV (QZ (qv (f i) j + x * qv (f c) j).num (qv (f i) j + x * qv (f c) j).den)))
    (hI : PB5 n c idM capM bd d bo o i bk x s ∧ s.sl 14 = .val (.int .i64 c) ∧ GO s.H 1 bd idM n n ids caps f)
    (hQ : ∀ t, PB5 n c idM capM bd d bo o i bk x t ∧ GO t.H 1 bd idM n n ids caps (fun k => if k = i then radd c x (f c) (f i) else f k) → Q (.exit 10) t) : LW Try.prog cx (loopN Try.f72 5) Q s := by
  refine Ytfjdfnlkobeehaa.LW.ofLoop rfl ?_
  refine LW.loopW hc ht (by kernel_rfl) (fun t => PB5 n c idM capM bd d bo o i bk x t ∧ ∃ j : Nat, c ≤ j ∧ j ≤ n ∧ t.sl 14 = .val (.int .i64 j) ∧ GO t.H 1 bd idM n n ids caps (fun k => if k = i then rmix c j x (f c) (f i) else f k))
    (fun t => match t.sl 14 with | .val (.int _ k) => n - k.toNat | _ => 0) ?_ ?_
  · obtain ⟨h1, h2, h3⟩ := hI
    refine ⟨h1, c, Nat.le_refl _, by omega, h2, h3.congr fun j hj => ?_⟩
    split
    · subst_vars; rw [rmix_start]
    · rfl
  rintro t ⟨⟨⟨⟨h2, h3, h7, h8, hH0, hHd, hb0, hbn⟩, h11, hHo, hbo, hon⟩, h12, h13, hHk, hbk, hkn⟩, j, hcj, hjn, h14, hG⟩
  have hGi := hG.len i hin
  have hGc := hG.len c (by omega)
  simp only [if_true] at hGi
  rw [if_neg (by omega)] at hGc
  rw [rmix_len] at hGi
  by_cases hje : j = n
  · subst hje
    simp -implicitDefEqProofs (disch := omega) only [go_sem, ht, h2, h3, h7, h8, h11, h12, h13, h14]
    refine hQ _ ⟨⟨⟨⟨by simp -implicitDefEqProofs (disch := omega) only [go_sem, ht, h2], by simp -implicitDefEqProofs (disch := omega) only [go_sem, ht, h3], by simp -implicitDefEqProofs (disch := omega) only [go_sem, ht, h7], by simp -implicitDefEqProofs (disch := omega) only [go_sem, ht, h8], by simp -implicitDefEqProofs (disch := omega) only [go_sem, ht, hH0], by simp -implicitDefEqProofs (disch := omega) only [go_sem, ht, hHd], by first | omega | (simp -implicitDefEqProofs (disch := omega) only [go_sem, ht]; done) | (simp -implicitDefEqProofs (disch := omega) only [go_sem, ht]; omega), by first | omega | (simp -implicitDefEqProofs (disch := omega) only [go_sem, ht]; done) | (simp -implicitDefEqProofs (disch := omega) only [go_sem, ht]; omega)⟩, by simp -implicitDefEqProofs (disch := omega) only [go_sem, ht, h11], by simp -implicitDefEqProofs (disch := omega) only [go_sem, ht, hHo], by first | omega | (simp -implicitDefEqProofs (disch := omega) only [go_sem, ht]; done) | (simp -implicitDefEqProofs (disch := omega) only [go_sem, ht]; omega), by first | omega | (simp -implicitDefEqProofs (disch := omega) only [go_sem, ht]; done) | (simp -implicitDefEqProofs (disch := omega) only [go_sem, ht]; omega)⟩, by simp -implicitDefEqProofs (disch := omega) only [go_sem, ht, h12], by simp -implicitDefEqProofs (disch := omega) only [go_sem, ht, h13], by simp -implicitDefEqProofs (disch := omega) only [go_sem, ht, hHk], by first | omega | (simp -implicitDefEqProofs (disch := omega) only [go_sem, ht]; done) | (simp -implicitDefEqProofs (disch := omega) only [go_sem, ht]; omega), by first | omega | (simp -implicitDefEqProofs (disch := omega) only [go_sem, ht]; done) | (simp -implicitDefEqProofs (disch := omega) only [go_sem, ht]; omega)⟩, ?_⟩
    refine hG.congr fun k hk => ?_
    split
    · rw [← rmix_end, hGi]
    · rfl
  · have hjlt : j < n := by omega
    have hcn : c < n := by omega
    have hmM := hG.idM
    have hmc := hG.lt c hcn
    have hmi := hG.lt i hin
    have hcne : ids c ≠ ids i := fun e => by have := hG.inj c i hcn hin e; omega
    obtain ⟨r0, hHM⟩ := hG.out
    obtain ⟨rc, hHc⟩ := hG.row c hcn
    obtain ⟨ri, hHi⟩ := hG.row i hin
    simp only [if_true] at hHi
    rw [if_neg (by omega)] at hHc
    have hTj := hT j hcj hjlt
    have hPj := hP j hcj hjlt
    clear hT hP
    have hat1 := QC_at (qs := rmix c j x (f c) (f i)) (ri.map .val) (c := j) (by rw [rmix_len]; omega)
    rw [rmix_at (by omega)] at hat1
    have hat2 := QC_at (qs := f c) (rc.map .val) (c := j) (by omega)
    have hgc := RC_get (ids := ids) (caps := caps) (cols := n) (r0.map .val) hcn
    have hgi := RC_get (ids := ids) (caps := caps) (cols := n) (r0.map .val) hin
    have hsp := QC_set (qs := rmix c j x (f c) (f i)) (ri.map .val) (c := j) (by rw [rmix_len]; omega) (qv (f i) j + x * qv (f c) j)
    rw [rmix_set hcj (by omega)] at hsp
    have hml1 := rmix_len c (j + 1) x (f c) (f i)
    have hln1 : (QC (rmix c j x (f c) (f i)) ++ ri.map PV.val).length = n * 4 + ri.length := by rw [List.length_append, QC_len, rmix_len, List.length_map]; omega
    have hln2 : (QC (f c) ++ rc.map PV.val).length = n * 4 + rc.length := by rw [List.length_append, QC_len, List.length_map]; omega
    have hset := GO.set (rest := ri) hG hin (z := rmix c (j + 1) x (f c) (f i)) (by rw [rmix_len]; exact hGi)
    generalize qv (f i) j + x * qv (f c) j = y2 at *
    generalize x * qv (f c) j = y1 at *
    generalize qv (f i) j = y3 at *
    generalize qv (f c) j = y4 at *
    have hset2 := hset.congr (g := fun k => if k = i then rmix c (j + 1) x (f c) (f i) else f k) fun k hk => by
      by_cases hki : k = i
      · rw [if_pos hki, if_pos hki]
      · rw [if_neg hki, if_neg hki, if_neg hki]
    clear hset
    obtain ⟨m1, em1⟩ : ∃ m, rmix c j x (f c) (f i) = m := ⟨_, rfl⟩
    obtain ⟨m2, em2⟩ : ∃ m, rmix c (j + 1) x (f c) (f i) = m := ⟨_, rfl⟩
    rw [em1] at hHi hat1 hsp hln1
    rw [em2] at hsp
    rw [em2] at hset2
    generalize hfc : f c = fc at *
    simp -implicitDefEqProofs (disch := omega) only [go_sem, ht, h2, h3, h7, h8, h11, h12, h13, h14, hHM, hgi, hgc, hHi, hHc, hat1, hat2, hHk]
    ((refine pCall_vw (by refine ⟨⟨?_, ?_⟩, ?_, ?_⟩; rotate_left 2; (first | (right; rintro r rfl; rfl) | left); all_goals ((try simp -implicitDefEqProofs (disch := omega) only [h2, h3, h7, h8, h11, h12, h13, h14, hHM, hgi, hgc, hHi, hHc, hat1, hat2, hHk, hsp, hln1, hln2, go_sem, ht]) <;> rfl)) (hTj) ?_; rintro _ nx_1 - rfl hnx_1; simp -implicitDefEqProofs (disch := omega) only [h2, h3, h7, h8, h11, h12, h13, h14, hHM, hgi, hgc, hHi, hHc, hat1, hat2, hHk, hsp, hln1, hln2, go_sem, ht]); (refine pCall_vw (by refine ⟨⟨?_, ?_⟩, ?_, ?_⟩; rotate_left 2; (first | (right; rintro r rfl; rfl) | left); all_goals ((try simp -implicitDefEqProofs (disch := omega) only [h2, h3, h7, h8, h11, h12, h13, h14, hHM, hgi, hgc, hHi, hHc, hat1, hat2, hHk, hsp, hln1, hln2, go_sem, ht]) <;> rfl)) (hPj) ?_; rintro _ nx_2 - rfl hnx_2; simp -implicitDefEqProofs (disch := omega) only [h2, h3, h7, h8, h11, h12, h13, h14, hHM, hgi, hgc, hHi, hHc, hat1, hat2, hHk, hsp, hln1, hln2, go_sem, ht]))
    refine ⟨⟨⟨⟨⟨by simp -implicitDefEqProofs (disch := omega) only [go_sem, ht, h2], by simp -implicitDefEqProofs (disch := omega) only [go_sem, ht, h3], by simp -implicitDefEqProofs (disch := omega) only [go_sem, ht, h7], by simp -implicitDefEqProofs (disch := omega) only [go_sem, ht, h8], by simp -implicitDefEqProofs (disch := omega) only [go_sem, ht, hH0], by simp -implicitDefEqProofs (disch := omega) only [go_sem, ht, hHd], by first | omega | (simp -implicitDefEqProofs (disch := omega) only [go_sem, ht]; done) | (simp -implicitDefEqProofs (disch := omega) only [go_sem, ht]; omega), by first | omega | (simp -implicitDefEqProofs (disch := omega) only [go_sem, ht]; done) | (simp -implicitDefEqProofs (disch := omega) only [go_sem, ht]; omega)⟩, by simp -implicitDefEqProofs (disch := omega) only [go_sem, ht, h11], by simp -implicitDefEqProofs (disch := omega) only [go_sem, ht, hHo], by first | omega | (simp -implicitDefEqProofs (disch := omega) only [go_sem, ht]; done) | (simp -implicitDefEqProofs (disch := omega) only [go_sem, ht]; omega), by first | omega | (simp -implicitDefEqProofs (disch := omega) only [go_sem, ht]; done) | (simp -implicitDefEqProofs (disch := omega) only [go_sem, ht]; omega)⟩, by simp -implicitDefEqProofs (disch := omega) only [go_sem, ht, h12], by simp -implicitDefEqProofs (disch := omega) only [go_sem, ht, h13], by simp -implicitDefEqProofs (disch := omega) only [go_sem, ht, hHk], by first | omega | (simp -implicitDefEqProofs (disch := omega) only [go_sem, ht]; done) | (simp -implicitDefEqProofs (disch := omega) only [go_sem, ht]; omega), by first | omega | (simp -implicitDefEqProofs (disch := omega) only [go_sem, ht]; done) | (simp -implicitDefEqProofs (disch := omega) only [go_sem, ht]; omega)⟩, j + 1, by omega, by omega, by first | rfl | simp -implicitDefEqProofs (disch := omega) only [go_sem, ht], ?_⟩, by omega⟩
    rw [em2]
    exact hset2

def kq (c : Nat) (o : Rat) (z : List Rat) : Rat := -(qv z c * o)
set_option maxHeartbeats 16000000 in
theorem prod4 (hc : cx.n = 172) (ht : cx.tb = [(9, [(0, []), (1, []), (2, []), (3, []), (4, []), (5, []), (6, []), (7, []), (8, [0, 1, 2, 3, 4, 5, 6, 7]), (9, []), (10, [0]), (11, []), (12, [])]), (1000009, [(0, []), (0, []), (0, []), (6, []), (14, []), (0, []), (62, []), (126, []), (0, []), (510, []), (1022, []), (2047, []), (4095, [])]), (25, [(0, []), (1, []), (2, []), (3, []), (4, []), (5, []), (6, []), (7, []), (8, [1, 2]), (9, [])]), (26, [(0, []), (1, []), (2, []), (3, []), (4, []), (5, []), (6, []), (7, []), (8, []), (9, []), (10, []), (11, []), (12, []), (13, []), (14, []), (15, []), (16, []), (17, [0, 1, 2, 3, 4, 5, 6, 7, 8, 9, 10, 11, 12, 13, 14, 15]), (18, [])]), (1000026, [(0, []), (0, []), (3, []), (7, []), (0, []), (31, []), (63, []), (127, []), (0, []), (0, []), (768, []), (1792, []), (0, []), (7936, []), (16128, []), (32512, []), (65535, []), (0, []), (262143, [])]), (30, [(0, []), (1, []), (2, []), (3, []), (4, []), (5, []), (6, []), (7, []), (8, []), (9, []), (10, [0, 1, 2, 3, 4, 5, 6, 7]), (11, [])]), (1000030, [(0, []), (0, []), (3, []), (7, []), (0, []), (31, []), (63, []), (0, []), (255, []), (511, []), (0, []), (2047, [])]), (34, [(0, []), (1, []), (2, []), (3, []), (4, []), (5, []), (6, []), (7, []), (8, []), (9, []), (10, []), (11, []), (12, []), (13, []), (14, []), (15, []), (16, []), (17, []), (18, []), (19, []), (20, [0, 1, 2, 3, 4, 5, 6, 7, 8, 9, 10, 11]), (21, [0, 1, 2, 3, 4]), (22, []), (23, [])]), (1000034, [(0, []), (0, []), (3, []), (7, []), (0, []), (0, []), (0, []), (96, []), (224, []), (0, []), (992, []), (2016, []), (0, []), (0, []), (0, []), (24576, []), (57344, []), (0, []), (253952, []), (516096, []), (1044480, []), (2097120, []), (4194303, []), (8388607, [])])]) (hcn : c < n) (hn : n ≤ 1000)
    (hO : ∀ i, c < i → i < n → PT Try.prog 111 [QZ (qv (f i) c).num (qv (f i) c).den, QZ o.num o.den] (isV (QZ (qv (f i) c * o).num (qv (f i) c * o).den)))
    (hM : ∀ i, c < i → i < n → PT Try.prog 110 [QZ (qv (f i) c * o).num (qv (f i) c * o).den] (isV (QZ (kq c o (f i)).num (kq c o (f i)).den)))
    (hT : ∀ i, c < i → i < n → ∀ j, c ≤ j → j < n → PT Try.prog 111 [QZ (kq c o (f i)).num (kq c o (f i)).den, QZ (qv (f c) j).num (qv (f c) j).den] (isV (QZ (kq c o (f i) * qv (f c) j).num (kq c o (f i) * qv (f c) j).den)))
    (hP : ∀ i, c < i → i < n → ∀ j, c ≤ j → j < n → PT Try.prog 113 [QZ (qv (f i) j).num (qv (f i) j).den, QZ (kq c o (f i) * qv (f c) j).num (kq c o (f i) * qv (f c) j).den] (isV (QZ (qv (f i) j + kq c o (f i) * qv (f c) j).num (qv (f i) j + kq c o (f i) * qv (f c) j).den)))
    (hI : PB4 n c idM capM bd d bo o s ∧ s.sl 12 = .val (.int .i64 (c + 1 : Nat)) ∧ GO s.H 1 bd idM n n ids caps f)
    (hQ : ∀ t, PB4 n c idM capM bd d bo o t ∧ GO t.H 1 bd idM n n ids caps (fun k => if c < k then radd c (kq c o (f k)) (f c) (f k) else f k) → Q (.exit 8) t) : LW Try.prog cx (loopN Try.f72 4) Q s := by
  refine Ytfjdfnlkobeehaa.LW.ofLoop rfl ?_
  refine LW.loopW hc ht (by kernel_rfl) (fun t => PB4 n c idM capM bd d bo o t ∧ ∃ i : Nat, c + 1 ≤ i ∧ i ≤ n ∧ t.sl 12 = .val (.int .i64 i) ∧ GO t.H 1 bd idM n n ids caps (fun k => if c < k ∧ k < i then radd c (kq c o (f k)) (f c) (f k) else f k))
    (fun t => match t.sl 12 with | .val (.int _ k) => n - k.toNat | _ => 0) ?_ ?_
  · obtain ⟨h1, h2, h3⟩ := hI
    refine ⟨h1, c + 1, Nat.le_refl _, by omega, h2, h3.congr fun j hj => ?_⟩
    rw [if_neg (by omega)]
  rintro t ⟨⟨⟨h2, h3, h7, h8, hH0, hHd, hb0, hbn⟩, h11, hHo, hbo, hon⟩, i, hci, hin, h12, hG⟩
  by_cases hie : i = n
  · subst hie
    simp -implicitDefEqProofs (disch := omega) only [go_sem, ht, h2, h3, h7, h8, h11, h12]
    refine hQ _ ⟨⟨⟨by simp -implicitDefEqProofs (disch := omega) only [go_sem, ht, h2], by simp -implicitDefEqProofs (disch := omega) only [go_sem, ht, h3], by simp -implicitDefEqProofs (disch := omega) only [go_sem, ht, h7], by simp -implicitDefEqProofs (disch := omega) only [go_sem, ht, h8], by simp -implicitDefEqProofs (disch := omega) only [go_sem, ht, hH0], by simp -implicitDefEqProofs (disch := omega) only [go_sem, ht, hHd], by first | omega | (simp -implicitDefEqProofs (disch := omega) only [go_sem, ht]; done) | (simp -implicitDefEqProofs (disch := omega) only [go_sem, ht]; omega), by first | omega | (simp -implicitDefEqProofs (disch := omega) only [go_sem, ht]; done) | (simp -implicitDefEqProofs (disch := omega) only [go_sem, ht]; omega)⟩, by simp -implicitDefEqProofs (disch := omega) only [go_sem, ht, h11], by simp -implicitDefEqProofs (disch := omega) only [go_sem, ht, hHo], by first | omega | (simp -implicitDefEqProofs (disch := omega) only [go_sem, ht]; done) | (simp -implicitDefEqProofs (disch := omega) only [go_sem, ht]; omega), by first | omega | (simp -implicitDefEqProofs (disch := omega) only [go_sem, ht]; done) | (simp -implicitDefEqProofs (disch := omega) only [go_sem, ht]; omega)⟩, ?_⟩
    refine hG.congr fun k hk => ?_
    by_cases hck : c < k
    · rw [if_pos hck, if_pos ⟨hck, hk⟩]
    · rw [if_neg hck, if_neg (by omega)]
  · have hilt : i < n := by omega
    have hmM := hG.idM
    have hmc := hG.lt c hcn
    have hmi := hG.lt i hilt
    have hGi := hG.len i hilt
    rw [if_neg (by omega)] at hGi
    obtain ⟨r0, hHM⟩ := hG.out
    obtain ⟨ri, hHi⟩ := hG.row i hilt
    rw [if_neg (by omega)] at hHi
    have hOi := hO i (by omega) hilt
    have hMi := hM i (by omega) hilt
    have hTi := hT i (by omega) hilt
    have hPi := hP i (by omega) hilt
    clear hO hM hT hP
    have hat1 := QC_at (qs := f i) (ri.map .val) (c := c) (by omega)
    have hgi := RC_get (ids := ids) (caps := caps) (cols := n) (r0.map .val) hilt
    have hln1 : (QC (f i) ++ ri.map PV.val).length = n * 4 + ri.length := by rw [List.length_append, QC_len, List.length_map]; omega
    have hle1 : c * 4 + 4 ≤ n * 4 + ri.length := by omega
    obtain ⟨x, ex⟩ : ∃ x, kq c o (f i) = x := ⟨_, rfl⟩
    rw [ex] at hMi hTi hPi
    generalize qv (f i) c * o = y1 at *
    generalize qv (f i) c = y2 at *
    simp -implicitDefEqProofs (disch := omega) only [go_sem, ht, h2, h3, h7, h8, h11, h12, hHM, hgi, hHi, hat1, hHo, hln1, hle1]
    ((refine pCall_vw (by refine ⟨⟨?_, ?_⟩, ?_, ?_⟩; rotate_left 2; (first | (right; rintro r rfl; rfl) | left); all_goals ((try simp -implicitDefEqProofs (disch := omega) only [h2, h3, h7, h8, h11, h12, hHM, hgi, hHi, hat1, hHo, hln1, hle1, go_sem, ht]) <;> rfl)) (hOi) ?_; rintro _ nx_3 - rfl hnx_3; simp -implicitDefEqProofs (disch := omega) only [h2, h3, h7, h8, h11, h12, hHM, hgi, hHi, hat1, hHo, hln1, hle1, go_sem, ht]); (refine pCall_vw (by refine ⟨⟨?_, ?_⟩, ?_, ?_⟩; rotate_left 2; (first | (right; rintro r rfl; rfl) | left); all_goals ((try simp -implicitDefEqProofs (disch := omega) only [h2, h3, h7, h8, h11, h12, hHM, hgi, hHi, hat1, hHo, hln1, hle1, go_sem, ht]) <;> rfl)) (hMi) ?_; rintro _ nx_4 - rfl hnx_4; simp -implicitDefEqProofs (disch := omega) only [h2, h3, h7, h8, h11, h12, hHM, hgi, hHi, hat1, hHo, hln1, hle1, go_sem, ht]))
    refine prod5 (n := n) (c := c) (idM := idM) (capM := capM) (ids := ids) (caps := caps) (bd := bd) (bo := bo) (bk := nx_4) (d := d) (o := o) (x := x) (i := i) (f := fun k => if c < k ∧ k < i then radd c (kq c o (f k)) (f c) (f k) else f k) hc ht (by omega) hilt hn ?_ ?_ ⟨⟨⟨⟨by simp -implicitDefEqProofs (disch := omega) only [go_sem, ht, h2], by simp -implicitDefEqProofs (disch := omega) only [go_sem, ht, h3], by simp -implicitDefEqProofs (disch := omega) only [go_sem, ht, h7], by simp -implicitDefEqProofs (disch := omega) only [go_sem, ht, h8], by simp -implicitDefEqProofs (disch := omega) only [go_sem, ht, hH0], by simp -implicitDefEqProofs (disch := omega) only [go_sem, ht, hHd], by first | omega | (simp -implicitDefEqProofs (disch := omega) only [go_sem, ht]; done) | (simp -implicitDefEqProofs (disch := omega) only [go_sem, ht]; omega), by first | omega | (simp -implicitDefEqProofs (disch := omega) only [go_sem, ht]; done) | (simp -implicitDefEqProofs (disch := omega) only [go_sem, ht]; omega)⟩, by simp -implicitDefEqProofs (disch := omega) only [go_sem, ht, h11], by simp -implicitDefEqProofs (disch := omega) only [go_sem, ht, hHo], by first | omega | (simp -implicitDefEqProofs (disch := omega) only [go_sem, ht]; done) | (simp -implicitDefEqProofs (disch := omega) only [go_sem, ht]; omega), by first | omega | (simp -implicitDefEqProofs (disch := omega) only [go_sem, ht]; done) | (simp -implicitDefEqProofs (disch := omega) only [go_sem, ht]; omega)⟩, by simp -implicitDefEqProofs (disch := omega) only [go_sem, ht, h12], by simp -implicitDefEqProofs (disch := omega) only [go_sem, ht], by simp -implicitDefEqProofs (disch := omega) only [go_sem, ht, upd_self], by first | omega | (simp -implicitDefEqProofs (disch := omega) only [go_sem, ht]; done) | (simp -implicitDefEqProofs (disch := omega) only [go_sem, ht]; omega), by first | omega | (simp -implicitDefEqProofs (disch := omega) only [go_sem, ht]; done) | (simp -implicitDefEqProofs (disch := omega) only [go_sem, ht]; omega)⟩, by simp -implicitDefEqProofs (disch := omega) only [go_sem, ht], ?_⟩ ?_
    · simp only [show ¬ (c < c ∧ c < i) by omega, if_false]
      exact hTi
    · simp only [show ¬ (c < c ∧ c < i) by omega, show ¬ (c < i ∧ i < i) by omega, if_false]
      exact hPi
    · simp -implicitDefEqProofs (disch := omega) only [go_sem, ht]
      exact hG.mono (Nat.le_refl _) fun j h1 h2 => upd_ne _ _ (by omega)
    · rintro u ⟨⟨⟨⟨h2, h3, h7, h8, hH0, hHd, hb0, hbn⟩, h11, hHo, hbo, hon⟩, h12, h13, hHk, hbk, hkn⟩, hG2⟩
      simp -implicitDefEqProofs (disch := omega) only [go_sem, ht, h2, h3, h7, h8, h11, h12]
      refine ⟨⟨⟨⟨by simp -implicitDefEqProofs (disch := omega) only [go_sem, ht, h2], by simp -implicitDefEqProofs (disch := omega) only [go_sem, ht, h3], by simp -implicitDefEqProofs (disch := omega) only [go_sem, ht, h7], by simp -implicitDefEqProofs (disch := omega) only [go_sem, ht, h8], by simp -implicitDefEqProofs (disch := omega) only [go_sem, ht, hH0], by simp -implicitDefEqProofs (disch := omega) only [go_sem, ht, hHd], by first | omega | (simp -implicitDefEqProofs (disch := omega) only [go_sem, ht]; done) | (simp -implicitDefEqProofs (disch := omega) only [go_sem, ht]; omega), by first | omega | (simp -implicitDefEqProofs (disch := omega) only [go_sem, ht]; done) | (simp -implicitDefEqProofs (disch := omega) only [go_sem, ht]; omega)⟩, by simp -implicitDefEqProofs (disch := omega) only [go_sem, ht, h11], by simp -implicitDefEqProofs (disch := omega) only [go_sem, ht, hHo], by first | omega | (simp -implicitDefEqProofs (disch := omega) only [go_sem, ht]; done) | (simp -implicitDefEqProofs (disch := omega) only [go_sem, ht]; omega), by first | omega | (simp -implicitDefEqProofs (disch := omega) only [go_sem, ht]; done) | (simp -implicitDefEqProofs (disch := omega) only [go_sem, ht]; omega)⟩, i + 1, by omega, by omega, by first | rfl | simp -implicitDefEqProofs (disch := omega) only [go_sem, ht], ?_⟩, by omega⟩
      refine hG2.congr fun k hk => ?_
      by_cases hki : k = i
      · subst hki
        simp only [show ¬ (c < c ∧ c < k) by omega, show ¬ (c < k ∧ k < k) by omega, show c < k ∧ k < k + 1 by omega, if_true, if_false, ex, Nat.lt_irrefl, and_false, false_and, and_true, true_and, and_self]
      · rw [if_neg hki]
        by_cases h : c < k ∧ k < i
        · rw [if_pos h, if_pos (by omega)]
        · rw [if_neg h, if_neg (by omega)]
end
end Go.Proofs.Ytfjdfnlkobeehaa.Ref
end

section
set_option maxRecDepth 100000
set_option linter.unusedVariables false
set_option linter.unusedSimpArgs false
namespace Go.Proofs.Ytfjdfnlkobeehaa.Ref
open Ytfjdfnlkobeehaa (SWc SW WX WC WV vals vals_len SM lenM Rn vc vc_lt SW_def SM_def cZ get_SM' getD_take getD_mem getD_vals wrongM swp_bd swp_swp swp_ge loopN)
section
variable {n c idM capM bd bo bk i : Nat} {ids caps : Nat → Nat} {f : Nat → List Rat} {d o x : Rat} {cx : Cx} {Q : Exit → PS → Prop} {s : PS}
set_option maxHeartbeats 16000000 in
theorem prod3 (hc : cx.n = 172) (ht : cx.tb = [(9, [(0, []), (1, []), (2, []), (3, []), (4, []), (5, []), (6, []), (7, []), (8, [0, 1, 2, 3, 4, 5, 6, 7]), (9, []), (10, [0]), (11, []), (12, [])]), (1000009, [(0, []), (0, []), (0, []), (6, []), (14, []), (0, []), (62, []), (126, []), (0, []), (510, []), (1022, []), (2047, []), (4095, [])]), (25, [(0, []), (1, []), (2, []), (3, []), (4, []), (5, []), (6, []), (7, []), (8, [1, 2]), (9, [])]), (26, [(0, []), (1, []), (2, []), (3, []), (4, []), (5, []), (6, []), (7, []), (8, []), (9, []), (10, []), (11, []), (12, []), (13, []), (14, []), (15, []), (16, []), (17, [0, 1, 2, 3, 4, 5, 6, 7, 8, 9, 10, 11, 12, 13, 14, 15]), (18, [])]), (1000026, [(0, []), (0, []), (3, []), (7, []), (0, []), (31, []), (63, []), (127, []), (0, []), (0, []), (768, []), (1792, []), (0, []), (7936, []), (16128, []), (32512, []), (65535, []), (0, []), (262143, [])]), (30, [(0, []), (1, []), (2, []), (3, []), (4, []), (5, []), (6, []), (7, []), (8, []), (9, []), (10, [0, 1, 2, 3, 4, 5, 6, 7]), (11, [])]), (1000030, [(0, []), (0, []), (3, []), (7, []), (0, []), (31, []), (63, []), (0, []), (255, []), (511, []), (0, []), (2047, [])]), (34, [(0, []), (1, []), (2, []), (3, []), (4, []), (5, []), (6, []), (7, []), (8, []), (9, []), (10, []), (11, []), (12, []), (13, []), (14, []), (15, []), (16, []), (17, []), (18, []), (19, []), (20, [0, 1, 2, 3, 4, 5, 6, 7, 8, 9, 10, 11]), (21, [0, 1, 2, 3, 4]), (22, []), (23, [])]), (1000034, [(0, []), (0, []), (3, []), (7, []), (0, []), (0, []), (0, []), (96, []), (224, []), (0, []), (992, []), (2016, []), (0, []), (0, []), (0, []), (24576, []), (57344, []), (0, []), (253952, []), (516096, []), (1044480, []), (2097120, []), (4194303, []), (8388607, [])])]) (hcn : c < n) (hn : n ≤ 1000)
    (hS : ∀ k, c ≤ k → k < n → PT Try.prog 96 [NZ (qv (f k) c).num] (isV (.val (.int .i64 (cZ (qv (f k) c).num 0)))))
    (hI : PB n c idM capM bd d s ∧ s.sl 9 = .val (.int .i64 c) ∧ GO s.H 1 bd idM n n ids caps f)
    (hQ : ∀ t p, c ≤ p → p ≤ n → (∀ k, c ≤ k → k < p → (qv (f k) c).num = 0) → (p < n → (qv (f p) c).num ≠ 0) → PB n c idM capM bd d t ∧ t.sl 9 = .val (.int .i64 (p : Nat)) ∧ GO t.H 1 bd idM n n ids caps f → Q (.exit 6) t) : LW Try.prog cx (loopN Try.f72 3) Q s := by
  refine Ytfjdfnlkobeehaa.LW.ofLoop rfl ?_
  refine LW.loopW hc ht (by kernel_rfl) (fun t => PB n c idM capM bd d t ∧ ∃ p : Nat, c ≤ p ∧ p ≤ n ∧ t.sl 9 = .val (.int .i64 p) ∧ (∀ k, c ≤ k → k < p → (qv (f k) c).num = 0) ∧ GO t.H 1 bd idM n n ids caps f)
    (fun t => match t.sl 9 with | .val (.int _ k) => n - k.toNat | _ => 0) ?_ ?_
  · obtain ⟨h1, h2, h3⟩ := hI
    exact ⟨h1, c, Nat.le_refl _, by omega, h2, fun k _ _ => by omega, h3⟩
  rintro t ⟨⟨h2, h3, h7, h8, hH0, hHd, hb0, hbn⟩, p, hcp, hpn, h9, hz, hG⟩
  by_cases hpe : p = n
  · subst hpe
    simp -implicitDefEqProofs (disch := omega) only [go_sem, ht, h2, h3, h7, h8, h9]
    exact hQ _ p hcp (Nat.le_refl _) hz (fun h => by omega) ⟨⟨by simp -implicitDefEqProofs (disch := omega) only [go_sem, ht, h2], by simp -implicitDefEqProofs (disch := omega) only [go_sem, ht, h3], by simp -implicitDefEqProofs (disch := omega) only [go_sem, ht, h7], by simp -implicitDefEqProofs (disch := omega) only [go_sem, ht, h8], by simp -implicitDefEqProofs (disch := omega) only [go_sem, ht, hH0], by simp -implicitDefEqProofs (disch := omega) only [go_sem, ht, hHd], by first | omega | (simp -implicitDefEqProofs (disch := omega) only [go_sem, ht]; done) | (simp -implicitDefEqProofs (disch := omega) only [go_sem, ht]; omega), by first | omega | (simp -implicitDefEqProofs (disch := omega) only [go_sem, ht]; done) | (simp -implicitDefEqProofs (disch := omega) only [go_sem, ht]; omega)⟩, by simp -implicitDefEqProofs (disch := omega) only [go_sem, ht, h9], hG⟩
  · have hplt : p < n := by omega
    have hmM := hG.idM
    have hmp := hG.lt p hplt
    have hGp := hG.len p hplt
    obtain ⟨r0, hHM⟩ := hG.out
    obtain ⟨rp, hHp⟩ := hG.row p hplt
    have hSp := hS p hcp hplt
    have hat1 := QC_at (qs := f p) (rp.map .val) (c := c) (by omega)
    have hgp := RC_get (ids := ids) (caps := caps) (cols := n) (r0.map .val) hplt
    have hln1 : (QC (f p) ++ rp.map PV.val).length = n * 4 + rp.length := by rw [List.length_append, QC_len, List.length_map]; omega
    have hle1 : c * 4 + 2 ≤ n * 4 + rp.length := by omega
    have hle2 : c * 4 + 4 ≤ n * 4 + rp.length := by omega
    by_cases hz0 : (qv (f p) c).num = 0
    · rw [hz0, Ytfjdfnlkobeehaa.cZ_eq rfl] at hSp
      rw [hz0] at hat1
      have hz2 : ∀ k, c ≤ k → k < p + 1 → (qv (f k) c).num = 0 := fun k h1 h2 => by
        by_cases e : k = p
        · rw [e]; exact hz0
        · exact hz k h1 (by omega)
      generalize (qv (f p) c).den = dn at *
      simp -implicitDefEqProofs (disch := omega) only [go_sem, ht, h2, h3, h7, h8, h9, hHM, hgp, hHp, hat1, hln1, hle1, hle2]
      (refine pCall_vw (by refine ⟨⟨?_, ?_⟩, ?_, ?_⟩; rotate_left 2; (first | (right; rintro r rfl; rfl) | left); all_goals ((try simp -implicitDefEqProofs (disch := omega) only [h2, h3, h7, h8, h9, hHM, hgp, hHp, hat1, hln1, hle1, hle2, go_sem, ht]) <;> rfl)) (hSp) ?_; rintro _ nx - rfl hnx; simp -implicitDefEqProofs (disch := omega) only [h2, h3, h7, h8, h9, hHM, hgp, hHp, hat1, hln1, hle1, hle2, go_sem, ht])
      exact ⟨⟨⟨by simp -implicitDefEqProofs (disch := omega) only [go_sem, ht, h2], by simp -implicitDefEqProofs (disch := omega) only [go_sem, ht, h3], by simp -implicitDefEqProofs (disch := omega) only [go_sem, ht, h7], by simp -implicitDefEqProofs (disch := omega) only [go_sem, ht, h8], by simp -implicitDefEqProofs (disch := omega) only [go_sem, ht, hH0], by simp -implicitDefEqProofs (disch := omega) only [go_sem, ht, hHd], by first | omega | (simp -implicitDefEqProofs (disch := omega) only [go_sem, ht]; done) | (simp -implicitDefEqProofs (disch := omega) only [go_sem, ht]; omega), by first | omega | (simp -implicitDefEqProofs (disch := omega) only [go_sem, ht]; done) | (simp -implicitDefEqProofs (disch := omega) only [go_sem, ht]; omega)⟩, p + 1, by omega, by omega, by first | rfl | simp -implicitDefEqProofs (disch := omega) only [go_sem, ht], hz2, hG⟩, by omega⟩
    · have hs0 : cZ (qv (f p) c).num 0 ≠ 0 := by unfold cZ; split <;> (try split) <;> omega
      have hq := hQ
      have hz1 : p < n → (qv (f p) c).num ≠ 0 := fun _ => hz0
      generalize cZ (qv (f p) c).num 0 = sx at *
      simp -implicitDefEqProofs (disch := omega) only [go_sem, ht, h2, h3, h7, h8, h9, hHM, hgp, hHp, hat1, hln1, hle1, hle2]
      (refine pCall_vw (by refine ⟨⟨?_, ?_⟩, ?_, ?_⟩; rotate_left 2; (first | (right; rintro r rfl; rfl) | left); all_goals ((try simp -implicitDefEqProofs (disch := omega) only [h2, h3, h7, h8, h9, hHM, hgp, hHp, hat1, hln1, hle1, hle2, hs0, go_sem, ht]) <;> rfl)) (hSp) ?_; rintro _ nx - rfl hnx; simp -implicitDefEqProofs (disch := omega) only [h2, h3, h7, h8, h9, hHM, hgp, hHp, hat1, hln1, hle1, hle2, hs0, go_sem, ht])
      exact hQ _ p hcp (Nat.le_of_lt hplt) hz hz1 ⟨⟨by simp -implicitDefEqProofs (disch := omega) only [go_sem, ht, h2], by simp -implicitDefEqProofs (disch := omega) only [go_sem, ht, h3], by simp -implicitDefEqProofs (disch := omega) only [go_sem, ht, h7], by simp -implicitDefEqProofs (disch := omega) only [go_sem, ht, h8], by simp -implicitDefEqProofs (disch := omega) only [go_sem, ht, hH0], by simp -implicitDefEqProofs (disch := omega) only [go_sem, ht, hHd], by first | omega | (simp -implicitDefEqProofs (disch := omega) only [go_sem, ht]; done) | (simp -implicitDefEqProofs (disch := omega) only [go_sem, ht]; omega), by first | omega | (simp -implicitDefEqProofs (disch := omega) only [go_sem, ht]; done) | (simp -implicitDefEqProofs (disch := omega) only [go_sem, ht]; omega)⟩, by simp -implicitDefEqProofs (disch := omega) only [go_sem, ht, h9], hG⟩

def rr (z : List Int) : List Rat := z.map fun x : Int => ((x : Int) : Rat)
theorem rr_len (z : List Int) : (rr z).length = z.length := by simp [rr]
theorem rr_qv {z : List Int} {j : Nat} (h : j < z.length) : qv (rr z) j = (vc z j : Rat) := by
  rw [qv_lt (by rw [rr_len]; exact h), vc_lt h]; simp [rr]
set_option maxHeartbeats 16000000 in
theorem prod1 {W : List (List Int)} {z : List Int} {v3 : PV} {b0 : Nat} (hc : cx.n = 172) (ht : cx.tb = [(9, [(0, []), (1, []), (2, []), (3, []), (4, []), (5, []), (6, []), (7, []), (8, [0, 1, 2, 3, 4, 5, 6, 7]), (9, []), (10, [0]), (11, []), (12, [])]), (1000009, [(0, []), (0, []), (0, []), (6, []), (14, []), (0, []), (62, []), (126, []), (0, []), (510, []), (1022, []), (2047, []), (4095, [])]), (25, [(0, []), (1, []), (2, []), (3, []), (4, []), (5, []), (6, []), (7, []), (8, [1, 2]), (9, [])]), (26, [(0, []), (1, []), (2, []), (3, []), (4, []), (5, []), (6, []), (7, []), (8, []), (9, []), (10, []), (11, []), (12, []), (13, []), (14, []), (15, []), (16, []), (17, [0, 1, 2, 3, 4, 5, 6, 7, 8, 9, 10, 11, 12, 13, 14, 15]), (18, [])]), (1000026, [(0, []), (0, []), (3, []), (7, []), (0, []), (31, []), (63, []), (127, []), (0, []), (0, []), (768, []), (1792, []), (0, []), (7936, []), (16128, []), (32512, []), (65535, []), (0, []), (262143, [])]), (30, [(0, []), (1, []), (2, []), (3, []), (4, []), (5, []), (6, []), (7, []), (8, []), (9, []), (10, [0, 1, 2, 3, 4, 5, 6, 7]), (11, [])]), (1000030, [(0, []), (0, []), (3, []), (7, []), (0, []), (31, []), (63, []), (0, []), (255, []), (511, []), (0, []), (2047, [])]), (34, [(0, []), (1, []), (2, []), (3, []), (4, []), (5, []), (6, []), (7, []), (8, []), (9, []), (10, []), (11, []), (12, []), (13, []), (14, []), (15, []), (16, []), (17, []), (18, []), (19, []), (20, [0, 1, 2, 3, 4, 5, 6, 7, 8, 9, 10, 11]), (21, [0, 1, 2, 3, 4]), (22, []), (23, [])]), (1000034, [(0, []), (0, []), (3, []), (7, []), (0, []), (0, []), (0, []), (96, []), (224, []), (0, []), (992, []), (2016, []), (0, []), (0, []), (0, []), (24576, []), (57344, []), (0, []), (253952, []), (516096, []), (1044480, []), (2097120, []), (4194303, []), (8388607, [])])]) (hW : W.length = n) (hi : i < n) (hn : n ≤ 1000) (ez : W.getD i [] = z) (hz : z.length = n)
    (hI : s.sl 0 = .sl n (W.map SN) ∧ s.sl 2 = .ptr 0 0 ∧ s.sl 3 = v3 ∧ s.sl 4 = .val (.int .i64 (i : Nat)) ∧ s.sl 5 = .ref b0 0 0 0 4 ∧ s.H b0 = some [] ∧ b0 < s.nx ∧ s.sl 6 = .val (.int .i64 (0 : Nat)))
    (hQ : ∀ (t : PS) (id cap : Nat) (rest : List Value), t.sl 0 = .sl n (W.map SN) → t.sl 2 = .ptr 0 0 → t.sl 3 = v3 → t.sl 4 = .val (.int .i64 (i : Nat)) → t.sl 5 = .ref id 0 n cap 4 → t.H id = some (QC (rr z) ++ rest.map .val) → b0 ≤ id → id < t.nx → (∀ a, a < b0 → t.H a = s.H a) → Q (.exit 2) t) : LW Try.prog cx (loopN Try.f72 1) Q s := by
  refine Ytfjdfnlkobeehaa.LW.ofLoop rfl ?_
  refine LW.loopW hc ht (by kernel_rfl) (fun t => t.sl 0 = .sl n (W.map SN) ∧ t.sl 2 = .ptr 0 0 ∧ t.sl 3 = v3 ∧ t.sl 4 = .val (.int .i64 (i : Nat)) ∧ ∃ j : Nat, j ≤ n ∧ t.sl 6 = .val (.int .i64 j) ∧ ∃ (id cap : Nat) (rest : List Value), t.sl 5 = .ref id 0 j cap 4 ∧ t.H id = some (QC ((rr z).take j) ++ rest.map .val) ∧ j * 4 + rest.length = cap * 4 ∧ b0 ≤ id ∧ id < t.nx ∧ ∀ a, a < b0 → t.H a = s.H a)
    (fun t => match t.sl 6 with | .val (.int _ k) => n - k.toNat | _ => 0) ?_ ?_
  · obtain ⟨g0, g2, g3, g4, g5, gH, gb, g6⟩ := hI
    exact ⟨g0, g2, g3, g4, 0, Nat.zero_le _, g6, b0, 0, [], g5, by rw [gH]; rfl, rfl, Nat.le_refl _, gb, fun a _ => rfl⟩
  rintro t ⟨h0, h2, h3, h4, j, hj, h6, id, cap, rest, h5, hH, hcap, hbi, hid, hfr⟩
  have hrl := rr_len z
  by_cases hje : j = n
  · subst hje
    rw [List.take_of_length_le (by omega)] at hH
    simp -implicitDefEqProofs (disch := omega) only [go_sem, ht, h0, h2, h3, h4, h5, h6]
    exact hQ _ id cap rest (by simp -implicitDefEqProofs (disch := omega) only [go_sem, ht, h0]) (by simp -implicitDefEqProofs (disch := omega) only [go_sem, ht, h2]) (by simp -implicitDefEqProofs (disch := omega) only [go_sem, ht, h3]) (by simp -implicitDefEqProofs (disch := omega) only [go_sem, ht, h4]) (by simp -implicitDefEqProofs (disch := omega) only [go_sem, ht, h5]) (by simp -implicitDefEqProofs (disch := omega) only [go_sem, ht, hH]) hbi (by simp -implicitDefEqProofs (disch := omega) only [go_sem, ht]; omega) hfr
  · have hlt : j < n := by omega
    have hgi := get_SNM' (W := W) (i := i) (by omega)
    rw [ez, SN_def, hz] at hgi
    have hat := SNc_at (show j < z.length by omega)
    have h1 := int_z (v := 1) (by omega) (by omega)
    rw [show ((1 : Int)) = ((1 : Nat) : Int) from rfl, NZ_nat_def] at h1
    have hst := QC_next (qs := rr z) (c := j) (by omega)
    rw [rr_qv (by omega), Rat.num_intCast, Rat.den_intCast] at hst
    have hln : (QC ((rr z).take j)).length = j * 4 := by rw [QC_len, List.length_take]; omega
    have hwl : (W.map SN).length = n := by simpa using hW
    generalize vc z j = x at *
    simp -implicitDefEqProofs (disch := omega) only [go_sem, ht, h0, h2, h3, h4, h5, h6, hgi, hat]
    ((refine pCall_vw (by refine ⟨⟨?_, ?_⟩, ?_, ?_⟩; rotate_left 2; (first | (right; rintro r rfl; rfl) | left); all_goals ((try simp -implicitDefEqProofs (disch := omega) only [h0, h2, h3, h4, h5, h6, hgi, hat, go_sem, ht]) <;> rfl)) (h1) ?_; rintro _ nx_1 - rfl hnx_1; simp -implicitDefEqProofs (disch := omega) only [h0, h2, h3, h4, h5, h6, hgi, hat, go_sem, ht]))
    have hne : id ≠ nx_1 := by omega
    (refine append_ownSX (by refine ⟨?_, ?_, ?_, ?_, ?_, ?_, ?_, ?_⟩ <;> (simp -implicitDefEqProofs (disch := omega) only [srcP_ref, srcP_sl, srcP_nil, Option.isSome_some, hH, hne, go_sem, ht] <;> rfl)) (by rfl) (by first | omega | (simp <;> omega)) (by first | assumption | (simp <;> omega)) (by first | rfl | simp) (by first | omega | (simp <;> omega)) ?_; intro id1 cap1 rest1 H1 nx1 hH1 hcap1 hid1 hnx1 hfr1 hfs1; simp only [put_nx, withH_nx, put_H, withH_H] at hid1 hnx1 hfr1 hfs1)
    rw [hst] at hH1
    simp -implicitDefEqProofs (disch := omega) only [go_sem, ht, h0, h2, h3, h4, h5, h6]
    exact ⟨⟨j + 1, by omega, rfl, id1, cap1, rest1, rfl, hH1, by omega, by omega, by omega, fun a ha => by rw [hfr1 a (by omega) (by omega)]; simp -implicitDefEqProofs (disch := omega) only [go_sem, ht]; exact hfr a ha⟩, by omega⟩
set_option maxHeartbeats 16000000 in
theorem prod0 {W : List (List Int)} {z0 : Option (List PV)} (hc : cx.n = 172) (ht : cx.tb = [(9, [(0, []), (1, []), (2, []), (3, []), (4, []), (5, []), (6, []), (7, []), (8, [0, 1, 2, 3, 4, 5, 6, 7]), (9, []), (10, [0]), (11, []), (12, [])]), (1000009, [(0, []), (0, []), (0, []), (6, []), (14, []), (0, []), (62, []), (126, []), (0, []), (510, []), (1022, []), (2047, []), (4095, [])]), (25, [(0, []), (1, []), (2, []), (3, []), (4, []), (5, []), (6, []), (7, []), (8, [1, 2]), (9, [])]), (26, [(0, []), (1, []), (2, []), (3, []), (4, []), (5, []), (6, []), (7, []), (8, []), (9, []), (10, []), (11, []), (12, []), (13, []), (14, []), (15, []), (16, []), (17, [0, 1, 2, 3, 4, 5, 6, 7, 8, 9, 10, 11, 12, 13, 14, 15]), (18, [])]), (1000026, [(0, []), (0, []), (3, []), (7, []), (0, []), (31, []), (63, []), (127, []), (0, []), (0, []), (768, []), (1792, []), (0, []), (7936, []), (16128, []), (32512, []), (65535, []), (0, []), (262143, [])]), (30, [(0, []), (1, []), (2, []), (3, []), (4, []), (5, []), (6, []), (7, []), (8, []), (9, []), (10, [0, 1, 2, 3, 4, 5, 6, 7]), (11, [])]), (1000030, [(0, []), (0, []), (3, []), (7, []), (0, []), (31, []), (63, []), (0, []), (255, []), (511, []), (0, []), (2047, [])]), (34, [(0, []), (1, []), (2, []), (3, []), (4, []), (5, []), (6, []), (7, []), (8, []), (9, []), (10, []), (11, []), (12, []), (13, []), (14, []), (15, []), (16, []), (17, []), (18, []), (19, []), (20, [0, 1, 2, 3, 4, 5, 6, 7, 8, 9, 10, 11]), (21, [0, 1, 2, 3, 4]), (22, []), (23, [])]), (1000034, [(0, []), (0, []), (3, []), (7, []), (0, []), (0, []), (0, []), (96, []), (224, []), (0, []), (992, []), (2016, []), (0, []), (0, []), (0, []), (24576, []), (57344, []), (0, []), (253952, []), (516096, []), (1044480, []), (2097120, []), (4194303, []), (8388607, [])])]) (hW : W.length = n) (hn : n ≤ 1000) (hz : ∀ i, i < n → (W.getD i []).length = n)
    (hI : s.sl 0 = .sl n (W.map SN) ∧ s.sl 2 = .ptr 0 0 ∧ s.H 0 = z0 ∧ s.sl 3 = .ref 1 0 0 0 1 ∧ s.H 1 = some [] ∧ 1 < s.nx ∧ s.sl 4 = .val (.int .i64 (0 : Nat)))
    (hQ : ∀ (t : PS) (idM capM : Nat) (ids caps : Nat → Nat), t.sl 2 = .ptr 0 0 → t.H 0 = z0 → t.sl 3 = .ref idM 0 n capM 1 → GO t.H 1 t.nx idM n n ids caps (fun k => rr (W.getD k [])) → Q (.exit 0) t) : LW Try.prog cx (loopN Try.f72 0) Q s := by
  refine Ytfjdfnlkobeehaa.LW.ofLoop rfl ?_
  refine LW.loopG hc ht (by kernel_rfl) (fun t => t.sl 0 = .sl n (W.map SN) ∧ t.sl 2 = .ptr 0 0 ∧ t.H 0 = z0 ∧ ∃ i : Nat, i ≤ n ∧ t.sl 4 = .val (.int .i64 i) ∧ ∃ (id cap : Nat) (rest : List Value) (ids caps : Nat → Nat), t.sl 3 = .ref id 0 i cap 1 ∧ t.H id = some (RC ids caps n i ++ rest.map .val) ∧ i + rest.length = cap ∧ 1 ≤ id ∧ id < t.nx ∧
      (∀ k, k < i → (∃ rest : List Value, t.H (ids k) = some (QC (rr (W.getD k [])) ++ rest.map .val)) ∧ 1 ≤ ids k ∧ ids k < t.nx ∧ ids k ≠ id) ∧ (∀ a b, a < i → b < i → ids a = ids b → a = b))
    (fun t => match t.sl 4 with | .val (.int _ k) => n - k.toNat | _ => 0) ?_ ?_
  · obtain ⟨g0, g2, gH0, g3, gH, gn, g4⟩ := hI
    exact ⟨g0, g2, gH0, 0, Nat.zero_le _, g4, 1, 0, [], fun _ => 0, fun _ => 0, g3, by rw [gH]; rfl, rfl, Nat.le_refl _, gn, fun k hk => by omega, fun a b ha => by omega⟩
  rintro t ⟨h0, h2, hH0, i, hi, h4, id, cap, rest, ids, caps, h3, hH, hcap, hid1, hid, hrow, hinj⟩
  refine ⟨t, Gh.refl t, ?_⟩
  by_cases hie : i = n
  · subst hie
    simp -implicitDefEqProofs (disch := omega) only [go_sem, ht, h0, h2, h3, h4]
    exact hQ _ id cap ids caps (by simp -implicitDefEqProofs (disch := omega) only [go_sem, ht, h2]) (by simp -implicitDefEqProofs (disch := omega) only [go_sem, ht, hH0]) (by simp -implicitDefEqProofs (disch := omega) only [go_sem, ht, h3]) ⟨⟨rest, by simp -implicitDefEqProofs (disch := omega) only [go_sem, ht, hH]⟩, fun k hk => (hrow k hk).1, fun k hk => (hrow k hk).2, hinj, ⟨hid1, hid⟩, fun k hk => by rw [rr_len]; exact hz k hk⟩
  · have hlt : i < n := by omega
    have hwl : (W.map SN).length = n := by simpa using hW
    have hml := RC_len ids caps n i
    simp -implicitDefEqProofs (disch := omega) only [go_sem, ht, h0, h2, h3, h4]
    refine LW.ghost (Gh.nilW 5 4 (by simp -implicitDefEqProofs (disch := omega) only [go_sem, ht])) ?_
    refine prod1 (n := n) (i := i) (W := W) (v3 := .ref id 0 i cap 1) (b0 := t.nx) hc ht hW hlt hn rfl (hz i hlt) ⟨by simp -implicitDefEqProofs (disch := omega) only [go_sem, ht, h0], by simp -implicitDefEqProofs (disch := omega) only [go_sem, ht, h2], by simp -implicitDefEqProofs (disch := omega) only [go_sem, ht, h3], by simp -implicitDefEqProofs (disch := omega) only [go_sem, ht, h4], by simp -implicitDefEqProofs (disch := omega) only [go_sem, ht] <;> rfl, by simp -implicitDefEqProofs (disch := omega) only [go_sem, ht, upd_self], by first | omega | (simp -implicitDefEqProofs (disch := omega) only [go_sem, ht]; done) | (simp -implicitDefEqProofs (disch := omega) only [go_sem, ht]; omega), by simp -implicitDefEqProofs (disch := omega) only [go_sem, ht] <;> rfl⟩ ?_
    intro u ir capr restr u0 u2 u3 u4 u5 uH uir uirn ufr
    (try simp only [put_nx, withH_nx, put_H, withH_H] at ufr)
    have ufr : ∀ a, a < t.nx → u.H a = t.H a := fun a ha => by rw [ufr a ha, upd_ne _ _ (by omega)]
    have hH2 : u.H id = some (RC ids caps n i ++ rest.map .val) := by rw [ufr id hid]; exact hH
    simp -implicitDefEqProofs (disch := omega) only [go_sem, ht, u0, u2, u3, u4, u5]
    have hne : id ≠ u.nx := by omega
    (refine append_ownX (by refine ⟨?_, ?_, ?_, ?_, ?_, ?_, ?_, ?_⟩ <;> (simp -implicitDefEqProofs (disch := omega) only [srcP_ref, srcP_sl, srcP_nil, Option.isSome_some, hH2, hne, go_sem, ht] <;> rfl)) (by first | omega | (simp <;> omega)) (by first | assumption | (simp <;> omega)) (by first | rfl | simp) (by first | omega | (simp <;> omega)) ?_; intro id1 cap1 rest1 H1 nx1 hH1 hcap1 hid1 hnx1 hfr1 hfs1; (try simp only [put_nx, withH_nx, put_H, withH_H] at hid1 hnx1 hfr1 hfs1); (try simp only [app_U, ← List.map_append] at hH1))
    obtain ⟨ids', ea, eb⟩ : ∃ g : Nat → Nat, g i = ir ∧ ∀ k, k ≠ i → g k = ids k := ⟨fun k => if k = i then ir else ids k, if_pos rfl, fun k hk => if_neg hk⟩
    obtain ⟨caps', ec, ed⟩ : ∃ g : Nat → Nat, g i = capr ∧ ∀ k, k ≠ i → g k = caps k := ⟨fun k => if k = i then capr else caps k, if_pos rfl, fun k hk => if_neg hk⟩
    have hC : RC ids' caps' n (i + 1) = RC ids caps n i ++ [.ref ir 0 n capr 4] := by
      rw [RC_succ, ea, ec]
      congr 1
      exact RC_congr fun k hk => ⟨eb k (by omega), ed k (by omega)⟩
    have hkeep : ∀ j, j < t.nx → j ≠ id → H1 j = t.H j := fun j hj hji => by
      rw [hfr1 j hji (by omega)]
      simp -implicitDefEqProofs (disch := omega) only [go_sem, ht]
      exact ufr j hj
    simp -implicitDefEqProofs (disch := omega) only [go_sem, ht, u0, u2, u3, u4, u5]
    refine ⟨⟨by rw [hkeep 0 (by omega) (by omega)]; exact hH0, i + 1, by omega, rfl, id1, cap1, rest1, ids', caps', rfl, by rw [hC]; exact hH1, by omega, by omega, by omega, fun k hk => ?_, fun a b ha hb hab => ?_⟩, by omega⟩
    · by_cases hki : k = i
      · subst hki
        rw [ea]
        refine ⟨⟨restr, ?_⟩, by omega, by omega, by omega⟩
        rw [hfr1 ir (by omega) (by omega)]
        simp -implicitDefEqProofs (disch := omega) only [go_sem, ht, uH]
      · rw [eb k hki]
        obtain ⟨⟨rk, hrk⟩, g1, g2, g3⟩ := hrow k (by omega)
        exact ⟨⟨rk, by rw [hkeep _ g2 g3]; exact hrk⟩, g1, by omega, by omega⟩
    · by_cases hai : a = i <;> by_cases hbi : b = i
      · omega
      · rw [hai, ea, eb b hbi] at hab
        have := (hrow b (by omega)).2; omega
      · rw [hbi, ea, eb a hai] at hab
        have := (hrow a (by omega)).2; omega
      · rw [eb a hai, eb b hbi] at hab
        exact hinj a b (by omega) (by omega) hab
end
end Go.Proofs.Ytfjdfnlkobeehaa.Ref
end

section
set_option maxRecDepth 100000
set_option linter.unusedVariables false
set_option linter.unusedSimpArgs false
namespace Go.Proofs.Ytfjdfnlkobeehaa.Ref
open Ytfjdfnlkobeehaa (SWc SW WX WC WV vals vals_len SM lenM Rn vc vc_lt SW_def SM_def cZ get_SM' getD_take getD_mem getD_vals wrongM swp_bd swp_swp swp_ge loopN)

def pstep (c : Nat) (g : Nat → List Rat) : Nat → List Rat := fun k => if c < k then radd c (kq c (Rat.divInt (qv (g c) c).den (qv (g c) c).num) (g k)) (g c) (g k) else g k

inductive PR (n : Nat) (f0 : Nat → List Rat) : Nat → (Nat → List Rat) → Rat → Prop
  | start : PR n f0 0 f0 1
  | step {c p : Nat} {f : Nat → List Rat} {d : Rat} : PR n f0 c f d → c ≤ p → p < n → (∀ k, c ≤ k → k < p → (qv (f k) c).num = 0) → (qv (f p) c).num ≠ 0 →
      PR n f0 (c + 1) (pstep c fun k => f (Ytfjdfnlkobeehaa.swp p c k)) ((if p = c then d else -d) * qv (f p) c)
theorem Zq_neg {k : Nat} {q : Rat} (h : Zq k q) : Zq k (-q) := ⟨by rw [Rat.neg_num]; exact h.num.neg, by rw [Rat.neg_den]; exact h.den⟩
theorem Zq_mul {k : Nat} {q p : Rat} (h : Zq k q) (g : Zq k p) (hk : k ≤ 1000000) (h1 : 1 ≤ k) : Zq (2 * k) (q * p) := Ytfjdfnlkobeehaa.Zq.mul (Ytfjdfnlkobeehaa.Fn.C h hk h1) (Ytfjdfnlkobeehaa.Fn.C g hk h1)
theorem Zq_div {k : Nat} {x y : Int} (hx : Z k x) (hy : Z k y) (hk : 1 ≤ k) (h0 : y ≠ 0) : Zq k (Rat.divInt x y) := by
  rw [← Ytfjdfnlkobeehaa.rat_over h0]
  refine .of hk ?_ hy
  split
  · exact hx.neg
  · exact hx
theorem swp_c {p c : Nat} : Ytfjdfnlkobeehaa.swp p c c = p := by unfold Ytfjdfnlkobeehaa.swp; simp
section
variable {n K : Nat} {W : List (List Int)} {r : Int}
set_option maxHeartbeats 32000000 in
theorem product_z (hW : W.length = n) (hz : ∀ i, i < n → (W.getD i []).length = n) (hn : n ≤ 1000) (hK1 : 1 ≤ K) (hK : 12 * K ≤ 100000)
    (hZ : ∀ c f d, c ≤ n → PR n (fun k => rr (W.getD k [])) c f d → Zq K d ∧ ∀ i j, c ≤ i → i < n → c ≤ j → j < n → Zq K (qv (f i) j))
    (hend : ∀ f d, PR n (fun k => rr (W.getD k [])) n f d → d.num = r)
    (hstuck : ∀ c f d, c < n → PR n (fun k => rr (W.getD k [])) c f d → (∀ k, c ≤ k → k < n → (qv (f k) c).num = 0) → r = 0) :
    PT Try.prog 72 [SNM W] (isV (NZ r)) := by
  have h1 := int_z (v := 1) (by omega) (by omega)
  rw [show ((1 : Int)) = ((1 : Nat) : Int) from rfl, NZ_nat_def] at h1
  have hwl : (W.map SN).length = n := by simpa using hW
  rw [SNM_def, hW]
  refine PCalls.enter (n := 172) (rs := [.cell 2 103]) (tb := [(9, [(0, []), (1, []), (2, []), (3, []), (4, []), (5, []), (6, []), (7, []), (8, [0, 1, 2, 3, 4, 5, 6, 7]), (9, []), (10, [0]), (11, []), (12, [])]), (1000009, [(0, []), (0, []), (0, []), (6, []), (14, []), (0, []), (62, []), (126, []), (0, []), (510, []), (1022, []), (2047, []), (4095, [])]), (25, [(0, []), (1, []), (2, []), (3, []), (4, []), (5, []), (6, []), (7, []), (8, [1, 2]), (9, [])]), (26, [(0, []), (1, []), (2, []), (3, []), (4, []), (5, []), (6, []), (7, []), (8, []), (9, []), (10, []), (11, []), (12, []), (13, []), (14, []), (15, []), (16, []), (17, [0, 1, 2, 3, 4, 5, 6, 7, 8, 9, 10, 11, 12, 13, 14, 15]), (18, [])]), (1000026, [(0, []), (0, []), (3, []), (7, []), (0, []), (31, []), (63, []), (127, []), (0, []), (0, []), (768, []), (1792, []), (0, []), (7936, []), (16128, []), (32512, []), (65535, []), (0, []), (262143, [])]), (30, [(0, []), (1, []), (2, []), (3, []), (4, []), (5, []), (6, []), (7, []), (8, []), (9, []), (10, [0, 1, 2, 3, 4, 5, 6, 7]), (11, [])]), (1000030, [(0, []), (0, []), (3, []), (7, []), (0, []), (31, []), (63, []), (0, []), (255, []), (511, []), (0, []), (2047, [])]), (34, [(0, []), (1, []), (2, []), (3, []), (4, []), (5, []), (6, []), (7, []), (8, []), (9, []), (10, []), (11, []), (12, []), (13, []), (14, []), (15, []), (16, []), (17, []), (18, []), (19, []), (20, [0, 1, 2, 3, 4, 5, 6, 7, 8, 9, 10, 11]), (21, [0, 1, 2, 3, 4]), (22, []), (23, [])]), (1000034, [(0, []), (0, []), (3, []), (7, []), (0, []), (0, []), (0, []), (96, []), (224, []), (0, []), (992, []), (2016, []), (0, []), (0, []), (0, []), (24576, []), (57344, []), (0, []), (253952, []), (516096, []), (1044480, []), (2097120, []), (4194303, []), (8388607, [])])]) Try.func72 rfl rfl rfl (by kernel_rfl) (by kernel_rfl) (by simp) fun c hc ht => ?_
  simp -implicitDefEqProofs (disch := omega) only [go_sem, ht]
  refine LW.ghost (Gh.nilW 3 1 (by simp -implicitDefEqProofs (disch := omega) only [go_sem, ht])) ?_
  refine prod0 (W := W) (n := n) (z0 := some [.val (.bool false), .val (.slice none 0 0)]) hc ht hW hn hz ⟨by simp -implicitDefEqProofs (disch := omega) only [go_sem, ht], by simp -implicitDefEqProofs (disch := omega) only [go_sem, ht], by simp -implicitDefEqProofs (disch := omega) only [go_sem, ht, upd_self], by simp -implicitDefEqProofs (disch := omega) only [go_sem, ht] <;> rfl, by simp -implicitDefEqProofs (disch := omega) only [go_sem, ht, upd_self] <;> rfl, by first | omega | (simp -implicitDefEqProofs (disch := omega) only [go_sem, ht]; done) | (simp -implicitDefEqProofs (disch := omega) only [go_sem, ht]; omega), by simp -implicitDefEqProofs (disch := omega) only [go_sem, ht] <;> rfl⟩ ?_
  intro t0 idM capM ids0 caps0 h2 hH0 h3 hG0
  simp -implicitDefEqProofs (disch := omega) only [go_sem, ht, h2, h3]
  ((refine pCall_vw (by refine ⟨⟨?_, ?_⟩, ?_, ?_⟩; rotate_left 2; (first | (right; rintro r rfl; rfl) | left); all_goals ((try simp -implicitDefEqProofs (disch := omega) only [h2, h3, go_sem, ht]) <;> rfl)) (h1) ?_; rintro _ nx_1 - rfl hnx_1; simp -implicitDefEqProofs (disch := omega) only [h2, h3, go_sem, ht]); (refine pCall_vw (by refine ⟨⟨?_, ?_⟩, ?_, ?_⟩; rotate_left 2; (first | (right; rintro r rfl; rfl) | left); all_goals ((try simp -implicitDefEqProofs (disch := omega) only [h2, h3, go_sem, ht]) <;> rfl)) (h1) ?_; rintro _ nx_2 - rfl hnx_2; simp -implicitDefEqProofs (disch := omega) only [h2, h3, go_sem, ht]))
  have hmM0 := hG0.idM
  refine LW.loopW hc ht (by kernel_rfl) (fun t => ∃ c : Nat, c ≤ n ∧ ∃ (f : Nat → List Rat) (d : Rat) (ids caps : Nat → Nat), PR n (fun k => rr (W.getD k [])) c f d ∧ PB n c idM capM nx_2 d t ∧ GO t.H 1 nx_2 idM n n ids caps f)
    (fun t => match t.sl 8 with | .val (.int _ k) => n - k.toNat | _ => 0) ?_ ?_
  · refine ⟨0, Nat.zero_le _, _, 1, ids0, caps0, PR.start, ⟨by simp -implicitDefEqProofs (disch := omega) only [go_sem, ht, h2], by simp -implicitDefEqProofs (disch := omega) only [go_sem, ht, h3], by simp -implicitDefEqProofs (disch := omega) only [go_sem, ht], by simp -implicitDefEqProofs (disch := omega) only [go_sem, ht] <;> rfl, by simp -implicitDefEqProofs (disch := omega) only [go_sem, ht, hH0], by simp -implicitDefEqProofs (disch := omega) only [go_sem, ht, upd_self] <;> rfl, by first | omega | (simp -implicitDefEqProofs (disch := omega) only [go_sem, ht]; done) | (simp -implicitDefEqProofs (disch := omega) only [go_sem, ht]; omega), by first | omega | (simp -implicitDefEqProofs (disch := omega) only [go_sem, ht]; done) | (simp -implicitDefEqProofs (disch := omega) only [go_sem, ht]; omega)⟩, ?_⟩
    simp -implicitDefEqProofs (disch := omega) only [go_sem, ht]
    exact hG0.mono (by omega) fun j h1 h2 => upd_ne _ _ (by omega)
  clear h2 hH0 h3 hG0 h1
  rintro t ⟨c, hcn, f, d, ids, caps, hPr, ⟨h2, h3, h7, h8, hH0, hHd, hb0, hbn⟩, hG⟩
  obtain ⟨hZd, hZf⟩ := hZ c f d hcn hPr
  by_cases hce : c = n
  · subst hce
    have hd := hend f d hPr
    rw [← hd]
    simp -implicitDefEqProofs (disch := omega) only [go_sem, ht, h2, h3, h7, h8, hHd, hH0]
    (refine end_treeM 2 ?_; simp -implicitDefEqProofs (disch := omega) only [go_sem, ht, h2, upd_self, hH0])
  have hcn : c < n := by omega
  simp -implicitDefEqProofs (disch := omega) only [go_sem, ht, h2, h3, h7, h8]
  refine prod3 (n := n) (c := c) (idM := idM) (capM := capM) (bd := nx_2) (d := d) (ids := ids) (caps := caps) (f := f) hc ht hcn hn (fun k h1 h2 => sign_z (okZ (hZf k c h1 h2 (Nat.le_refl _) hcn).num (by omega))) ⟨⟨by simp -implicitDefEqProofs (disch := omega) only [go_sem, ht, h2], by simp -implicitDefEqProofs (disch := omega) only [go_sem, ht, h3], by simp -implicitDefEqProofs (disch := omega) only [go_sem, ht, h7], by simp -implicitDefEqProofs (disch := omega) only [go_sem, ht, h8], by simp -implicitDefEqProofs (disch := omega) only [go_sem, ht, hH0], by simp -implicitDefEqProofs (disch := omega) only [go_sem, ht, hHd], by first | omega | (simp -implicitDefEqProofs (disch := omega) only [go_sem, ht]; done) | (simp -implicitDefEqProofs (disch := omega) only [go_sem, ht]; omega), by first | omega | (simp -implicitDefEqProofs (disch := omega) only [go_sem, ht]; done) | (simp -implicitDefEqProofs (disch := omega) only [go_sem, ht]; omega)⟩, by simp -implicitDefEqProofs (disch := omega) only [go_sem, ht], by simp -implicitDefEqProofs (disch := omega) only [go_sem, ht, hG]⟩ ?_
  clear h2 h3 h7 h8 hH0 hHd hbn hG
  rintro t p hcp hpn hz1 hz2 ⟨⟨h2, h3, h7, h8, hH0, hHd, hb0, hbn⟩, h9, hG⟩
  by_cases hpe : p = n
  · subst hpe
    have hr := hstuck c f d hcn hPr hz1
    rw [hr]
    simp -implicitDefEqProofs (disch := omega) only [go_sem, ht, h2, h3, h7, h8, h9, hH0]
    (refine end_treeM 2 ?_; simp -implicitDefEqProofs (disch := omega) only [go_sem, ht, h2, upd_self, hH0]); (rw [show Int.natAbs 0 = 0 from rfl, D_zero]; rfl)
  · have hplt : p < n := by omega
    have hpne : p ≠ n := hpe
    have hz2 := hz2 hplt
    have hZx := hZf p c hcp hplt (Nat.le_refl _) hcn
    have hGp := hG.len p hplt
    obtain ⟨r0, hHM⟩ := hG.out
    obtain ⟨rp, hHp⟩ := hG.row p hplt
    have hmM := hG.idM
    have hmp := hG.lt p hplt
    have hln1 : (QC (f p) ++ rp.map PV.val).length = n * 4 + rp.length := by rw [List.length_append, QC_len, List.length_map]; omega
    have hle1 : c * 4 + 2 ≤ n * 4 + rp.length := by omega
    have hle2 : c * 4 + 4 ≤ n * 4 + rp.length := by omega
    have hle3 : c * 4 + 2 + 2 ≤ n * 4 + rp.length := by omega
    have hat1 := QC_at (qs := f p) (rp.map .val) (c := c) (by omega)
    have hat2 : (QC (f p) ++ rp.map PV.val).drop (c * 4 + 2) = PV.val (.bool false) :: .sl (D (qv (f p) c).den).length ((D (qv (f p) c).den).map I) :: (QC ((f p).drop (c + 1)) ++ rp.map PV.val) := by
      rw [← List.drop_drop, hat1]; rfl
    obtain ⟨x, ex⟩ : ∃ x, qv (f p) c = x := ⟨_, rfl⟩
    rw [ex] at hat1 hat2 hZx
    have hx0 : x.num ≠ 0 := ex ▸ hz2
    by_cases hpc : p = c
    · obtain ⟨g, eg⟩ : ∃ g : Nat → List Rat, (fun k => f (Ytfjdfnlkobeehaa.swp p c k)) = g := ⟨_, rfl⟩
      have hgc : g c = f p := by rw [← eg]; simp only [swp_c]
      subst hpc
      have hfg : g = f := by rw [← eg]; funext k; congr 1; unfold Ytfjdfnlkobeehaa.swp; split <;> simp_all
      have hgp := RC_get (ids := ids) (caps := caps) (cols := n) (r0.map .val) hplt
      have hZd1 := hZd
      have hPR := PR.step hPr (Nat.le_refl p) hplt hz1 hz2
      rw [if_pos rfl, eg, ex] at hPR
      have hmt := times_q hZd1 hZx hK1 (by omega)
      have hmk := make_z (show Z K (x.den : Int) from hZx.den) hZx.num (by omega) hx0
      rw [NZ_nat_def] at hmk
      obtain ⟨o, eo⟩ : ∃ o, Rat.divInt (x.den : Nat) x.num = o := ⟨_, rfl⟩
      have hZo : Zq K o := eo ▸ Zq_div (show Z K (x.den : Int) from hZx.den) hZx.num hK1 hx0
      rw [eo] at hmk
      obtain ⟨d2, ed2⟩ : ∃ d2, d * x = d2 := ⟨_, rfl⟩
      rw [ed2] at hmt hPR
      have hZg : ∀ i j, p ≤ i → i < n → p ≤ j → j < n → Zq K (qv (g i) j) := fun i j h1 h2 h3 h4 => by
        rw [← eg]; exact hZf _ j (swp_ge (Nat.le_refl _) h1) (swp_bd hplt hcn h2) h3 h4
      have hkz : ∀ i, p < i → i < n → Zq (2 * K) (kq p o (g i)) := fun i h1 h2 => Zq_neg (Zq_mul (hZg i p (by omega) h2 (Nat.le_refl _) hcn) hZo (by omega) hK1)
      have hrng : pstep p g = fun k => if p < k then radd p (kq p o (g k)) (g p) (g k) else g k := by unfold pstep; rw [hgc, ex, eo]
      have hcl := hG.len
      simp -implicitDefEqProofs (disch := omega) only [go_sem, ht, h2, h3, h7, h8, h9, hHM, hgp, hpne, hHd, hHp, hat1, hat2, hln1, hle1, hle2, hle3]
      ((refine pCall_vw (by refine ⟨⟨?_, ?_⟩, ?_, ?_⟩; rotate_left 2; (first | (right; rintro r rfl; rfl) | left); all_goals ((try simp -implicitDefEqProofs (disch := omega) only [h2, h3, h7, h8, h9, hHM, hgp, hpne, hHd, hHp, hat1, hat2, hln1, hle1, hle2, hle3, go_sem, ht]) <;> rfl)) (hmt) ?_; rintro _ nx_3 - rfl hnx_3; simp -implicitDefEqProofs (disch := omega) only [h2, h3, h7, h8, h9, hHM, hgp, hpne, hHd, hHp, hat1, hat2, hln1, hle1, hle2, hle3, go_sem, ht]); (refine pCall_vw (by refine ⟨⟨?_, ?_⟩, ?_, ?_⟩; rotate_left 2; (first | (right; rintro r rfl; rfl) | left); all_goals ((try simp -implicitDefEqProofs (disch := omega) only [h2, h3, h7, h8, h9, hHM, hgp, hpne, hHd, hHp, hat1, hat2, hln1, hle1, hle2, hle3, go_sem, ht]) <;> rfl)) (hmk) ?_; rintro _ nx_4 - rfl hnx_4; simp -implicitDefEqProofs (disch := omega) only [h2, h3, h7, h8, h9, hHM, hgp, hpne, hHd, hHp, hat1, hat2, hln1, hle1, hle2, hle3, go_sem, ht]))
      have hq2 : ∀ i j, p < i → i < n → p ≤ j → j < n → Zq (2 * (2 * K)) (kq p o (g i) * qv (g p) j) := fun i j h1 h2 h3 h4 => Zq_mul (hkz i h1 h2) ((hZg p j (Nat.le_refl _) hcn h3 h4).mono (by omega)) (by omega) (by omega)
      refine prod4 (n := n) (c := p) (idM := idM) (capM := capM) (bd := nx_2) (d := d2) (bo := nx_4) (o := o) (ids := ids) (caps := caps) (f := g) hc ht hcn hn (fun i h1 h2 => times_q (hZg i p (by omega) h2 (Nat.le_refl _) hcn) hZo hK1 (by omega)) (fun i h1 h2 => minus_q (Zq_mul (hZg i p (by omega) h2 (Nat.le_refl _) hcn) hZo (by omega) hK1) (by omega)) (fun i h1 h2 j h3 h4 => times_q (hkz i h1 h2) ((hZg p j (Nat.le_refl _) hcn h3 h4).mono (by omega)) (by omega) (by omega)) (fun i h1 h2 j h3 h4 => plus_q ((hZg i j (by omega) h2 h3 h4).mono (by omega)) (hq2 i j h1 h2 h3 h4) (by omega) (by omega)) ⟨⟨⟨by simp -implicitDefEqProofs (disch := omega) only [go_sem, ht, h2], by simp -implicitDefEqProofs (disch := omega) only [go_sem, ht, h3], by simp -implicitDefEqProofs (disch := omega) only [go_sem, ht, h7], by simp -implicitDefEqProofs (disch := omega) only [go_sem, ht, h8], by simp -implicitDefEqProofs (disch := omega) only [go_sem, ht, hH0], by simp -implicitDefEqProofs (disch := omega) only [go_sem, ht, upd_self], by first | omega | (simp -implicitDefEqProofs (disch := omega) only [go_sem, ht]; done) | (simp -implicitDefEqProofs (disch := omega) only [go_sem, ht]; omega), by first | omega | (simp -implicitDefEqProofs (disch := omega) only [go_sem, ht]; done) | (simp -implicitDefEqProofs (disch := omega) only [go_sem, ht]; omega)⟩, by simp -implicitDefEqProofs (disch := omega) only [go_sem, ht], by simp -implicitDefEqProofs (disch := omega) only [go_sem, ht, upd_self], by first | omega | (simp -implicitDefEqProofs (disch := omega) only [go_sem, ht]; done) | (simp -implicitDefEqProofs (disch := omega) only [go_sem, ht]; omega), by first | omega | (simp -implicitDefEqProofs (disch := omega) only [go_sem, ht]; done) | (simp -implicitDefEqProofs (disch := omega) only [go_sem, ht]; omega)⟩, by simp -implicitDefEqProofs (disch := omega) only [go_sem, ht] <;> rfl, ?_⟩ ?_
      · rw [hfg]
        simp -implicitDefEqProofs (disch := omega) only [go_sem, ht]
        exact hG.mono (Nat.le_refl _) fun j h1 h2 => by rw [upd_ne _ _ (by omega), upd_ne _ _ (by omega)]
      · clear h2 h3 h7 h8 hH0 hHd hbn hG h9 hHM hHp
        rintro u ⟨⟨⟨h2, h3, h7, h8, hH0, hHd, hb0, hbn⟩, h11, hHo, hbo, hon⟩, hG⟩
        rw [← hrng] at hG
        simp -implicitDefEqProofs (disch := omega) only [go_sem, ht, h2, h3, h7, h8]
        exact ⟨⟨p + 1, by omega, pstep p g, d2, _, _, hPR, ⟨by simp -implicitDefEqProofs (disch := omega) only [go_sem, ht, h2], by simp -implicitDefEqProofs (disch := omega) only [go_sem, ht, h3], by simp -implicitDefEqProofs (disch := omega) only [go_sem, ht, h7], by first | rfl | simp -implicitDefEqProofs (disch := omega) only [go_sem, ht], by simp -implicitDefEqProofs (disch := omega) only [go_sem, ht, hH0], by simp -implicitDefEqProofs (disch := omega) only [go_sem, ht, hHd], by first | omega | (simp -implicitDefEqProofs (disch := omega) only [go_sem, ht]; done) | (simp -implicitDefEqProofs (disch := omega) only [go_sem, ht]; omega), by first | omega | (simp -implicitDefEqProofs (disch := omega) only [go_sem, ht]; done) | (simp -implicitDefEqProofs (disch := omega) only [go_sem, ht]; omega)⟩, hG⟩, by omega⟩
    · obtain ⟨g, eg⟩ : ∃ g : Nat → List Rat, (fun k => f (Ytfjdfnlkobeehaa.swp p c k)) = g := ⟨_, rfl⟩
      have hgc : g c = f p := by rw [← eg]; simp only [swp_c]
      have hGs := GO.swp (rest := r0) hG hplt hcn
      obtain ⟨hset1, hset2⟩ := RC_set (ids := ids) (caps := caps) (cols := n) (r0.map .val) hplt hcn
      have hgp := RC_get (ids := ids) (caps := caps) (cols := n) (r0.map .val) hplt
      have hgcc := RC_get (ids := ids) (caps := caps) (cols := n) (r0.map .val) hcn
      have hgs := RC_get (ids := fun x => ids (Ytfjdfnlkobeehaa.swp p c x)) (caps := fun x => caps (Ytfjdfnlkobeehaa.swp p c x)) (cols := n) (r0.map .val) hcn
      simp only [swp_c] at hgs
      have hls := RC_len (fun x => ids (Ytfjdfnlkobeehaa.swp p c x)) (fun x => caps (Ytfjdfnlkobeehaa.swp p c x)) n n
      obtain ⟨RS, eRS⟩ : ∃ l, RC (fun x => ids (Ytfjdfnlkobeehaa.swp p c x)) (fun x => caps (Ytfjdfnlkobeehaa.swp p c x)) n n = l := ⟨_, rfl⟩
      rw [eRS] at hset2 hgs hls hGs
      rw [eg] at hGs
      have hml := RC_len ids caps n n
      have hsl : ∀ x : PV, ((RC ids caps n n).set p x).length = n := fun x => by rw [List.length_set, hml]
      obtain ⟨d1, ed1⟩ : ∃ d1, -d = d1 := ⟨_, rfl⟩
      have hmd := minus_q hZd (by omega)
      rw [ed1] at hmd
      have hZd1 : Zq K d1 := ed1 ▸ Zq_neg hZd
      have hPR := PR.step hPr hcp hplt hz1 hz2
      rw [if_neg hpc, eg, ed1, ex] at hPR
      have hmt := times_q hZd1 hZx hK1 (by omega)
      have hmk := make_z (show Z K (x.den : Int) from hZx.den) hZx.num (by omega) hx0
      rw [NZ_nat_def] at hmk
      obtain ⟨o, eo⟩ : ∃ o, Rat.divInt (x.den : Nat) x.num = o := ⟨_, rfl⟩
      have hZo : Zq K o := eo ▸ Zq_div (show Z K (x.den : Int) from hZx.den) hZx.num hK1 hx0
      rw [eo] at hmk
      obtain ⟨d2, ed2⟩ : ∃ d2, d1 * x = d2 := ⟨_, rfl⟩
      rw [ed2] at hmt hPR
      have hZg : ∀ i j, c ≤ i → i < n → c ≤ j → j < n → Zq K (qv (g i) j) := fun i j h1 h2 h3 h4 => by
        rw [← eg]; exact hZf _ j (swp_ge hcp h1) (swp_bd hplt hcn h2) h3 h4
      have hkz : ∀ i, c < i → i < n → Zq (2 * K) (kq c o (g i)) := fun i h1 h2 => Zq_neg (Zq_mul (hZg i c (by omega) h2 (Nat.le_refl _) hcn) hZo (by omega) hK1)
      have hrng : pstep c g = fun k => if c < k then radd c (kq c o (g k)) (g c) (g k) else g k := by unfold pstep; rw [hgc, ex, eo]
      have hcl := hG.len
      have hpne' : ¬ ((p : Nat) : Int) = (c : Nat) := by omega
      simp -implicitDefEqProofs (disch := omega) only [go_sem, ht, h2, h3, h7, h8, h9, hHM, hgp, hgcc, hset1, hset2, hpne, hpne', hpc, hHd]
      refine ⟨by rw [hsl]; omega, ?_⟩
      ((refine pCall_vw (by refine ⟨⟨?_, ?_⟩, ?_, ?_⟩; rotate_left 2; (first | (right; rintro r rfl; rfl) | left); all_goals ((try simp -implicitDefEqProofs (disch := omega) only [h2, h3, h7, h8, h9, hHM, hgp, hgcc, hset1, hset2, hls, hml, hsl, hpne, hpne', hpc, hHd, hgs, hHp, hat1, hat2, hln1, hle1, hle2, hle3, go_sem, ht]) <;> rfl)) (hmd) ?_; rintro _ nx_5 - rfl hnx_5; simp -implicitDefEqProofs (disch := omega) only [h2, h3, h7, h8, h9, hHM, hgp, hgcc, hset1, hset2, hls, hml, hsl, hpne, hpne', hpc, hHd, hgs, hHp, hat1, hat2, hln1, hle1, hle2, hle3, go_sem, ht]); (refine pCall_vw (by refine ⟨⟨?_, ?_⟩, ?_, ?_⟩; rotate_left 2; (first | (right; rintro r rfl; rfl) | left); all_goals ((try simp -implicitDefEqProofs (disch := omega) only [h2, h3, h7, h8, h9, hHM, hgp, hgcc, hset1, hset2, hls, hml, hsl, hpne, hpne', hpc, hHd, hgs, hHp, hat1, hat2, hln1, hle1, hle2, hle3, go_sem, ht]) <;> rfl)) (hmt) ?_; rintro _ nx_6 - rfl hnx_6; simp -implicitDefEqProofs (disch := omega) only [h2, h3, h7, h8, h9, hHM, hgp, hgcc, hset1, hset2, hls, hml, hsl, hpne, hpne', hpc, hHd, hgs, hHp, hat1, hat2, hln1, hle1, hle2, hle3, go_sem, ht]); (refine pCall_vw (by refine ⟨⟨?_, ?_⟩, ?_, ?_⟩; rotate_left 2; (first | (right; rintro r rfl; rfl) | left); all_goals ((try simp -implicitDefEqProofs (disch := omega) only [h2, h3, h7, h8, h9, hHM, hgp, hgcc, hset1, hset2, hls, hml, hsl, hpne, hpne', hpc, hHd, hgs, hHp, hat1, hat2, hln1, hle1, hle2, hle3, go_sem, ht]) <;> rfl)) (hmk) ?_; rintro _ nx_7 - rfl hnx_7; simp -implicitDefEqProofs (disch := omega) only [h2, h3, h7, h8, h9, hHM, hgp, hgcc, hset1, hset2, hls, hml, hsl, hpne, hpne', hpc, hHd, hgs, hHp, hat1, hat2, hln1, hle1, hle2, hle3, go_sem, ht]))
      have hq2 : ∀ i j, c < i → i < n → c ≤ j → j < n → Zq (2 * (2 * K)) (kq c o (g i) * qv (g c) j) := fun i j h1 h2 h3 h4 => Zq_mul (hkz i h1 h2) ((hZg c j (Nat.le_refl _) hcn h3 h4).mono (by omega)) (by omega) (by omega)
      refine prod4 (n := n) (c := c) (idM := idM) (capM := capM) (bd := nx_2) (d := d2) (bo := nx_7) (o := o) (ids := (fun i => ids (Ytfjdfnlkobeehaa.swp p c i))) (caps := (fun i => caps (Ytfjdfnlkobeehaa.swp p c i))) (f := g) hc ht hcn hn (fun i h1 h2 => times_q (hZg i c (by omega) h2 (Nat.le_refl _) hcn) hZo hK1 (by omega)) (fun i h1 h2 => minus_q (Zq_mul (hZg i c (by omega) h2 (Nat.le_refl _) hcn) hZo (by omega) hK1) (by omega)) (fun i h1 h2 j h3 h4 => times_q (hkz i h1 h2) ((hZg c j (Nat.le_refl _) hcn h3 h4).mono (by omega)) (by omega) (by omega)) (fun i h1 h2 j h3 h4 => plus_q ((hZg i j (by omega) h2 h3 h4).mono (by omega)) (hq2 i j h1 h2 h3 h4) (by omega) (by omega)) ⟨⟨⟨by simp -implicitDefEqProofs (disch := omega) only [go_sem, ht, h2], by simp -implicitDefEqProofs (disch := omega) only [go_sem, ht, h3], by simp -implicitDefEqProofs (disch := omega) only [go_sem, ht, h7], by simp -implicitDefEqProofs (disch := omega) only [go_sem, ht, h8], by simp -implicitDefEqProofs (disch := omega) only [go_sem, ht, hH0], by simp -implicitDefEqProofs (disch := omega) only [go_sem, ht, upd_self], by first | omega | (simp -implicitDefEqProofs (disch := omega) only [go_sem, ht]; done) | (simp -implicitDefEqProofs (disch := omega) only [go_sem, ht]; omega), by first | omega | (simp -implicitDefEqProofs (disch := omega) only [go_sem, ht]; done) | (simp -implicitDefEqProofs (disch := omega) only [go_sem, ht]; omega)⟩, by simp -implicitDefEqProofs (disch := omega) only [go_sem, ht], by simp -implicitDefEqProofs (disch := omega) only [go_sem, ht, upd_self], by first | omega | (simp -implicitDefEqProofs (disch := omega) only [go_sem, ht]; done) | (simp -implicitDefEqProofs (disch := omega) only [go_sem, ht]; omega), by first | omega | (simp -implicitDefEqProofs (disch := omega) only [go_sem, ht]; done) | (simp -implicitDefEqProofs (disch := omega) only [go_sem, ht]; omega)⟩, by simp -implicitDefEqProofs (disch := omega) only [go_sem, ht] <;> rfl, ?_⟩ ?_
      · simp -implicitDefEqProofs (disch := omega) only [go_sem, ht, hset1, hset2]
        exact hGs.mono (Nat.le_refl _) fun j h1 h2 => by rw [upd_ne _ _ (by omega), upd_ne _ _ (by omega)]
      · clear h2 h3 h7 h8 hH0 hHd hbn hG h9 hHM hHp
        rintro u ⟨⟨⟨h2, h3, h7, h8, hH0, hHd, hb0, hbn⟩, h11, hHo, hbo, hon⟩, hG⟩
        rw [← hrng] at hG
        simp -implicitDefEqProofs (disch := omega) only [go_sem, ht, h2, h3, h7, h8]
        exact ⟨⟨c + 1, by omega, pstep c g, d2, _, _, hPR, ⟨by simp -implicitDefEqProofs (disch := omega) only [go_sem, ht, h2], by simp -implicitDefEqProofs (disch := omega) only [go_sem, ht, h3], by simp -implicitDefEqProofs (disch := omega) only [go_sem, ht, h7], by first | rfl | simp -implicitDefEqProofs (disch := omega) only [go_sem, ht], by simp -implicitDefEqProofs (disch := omega) only [go_sem, ht, hH0], by simp -implicitDefEqProofs (disch := omega) only [go_sem, ht, hHd], by first | omega | (simp -implicitDefEqProofs (disch := omega) only [go_sem, ht]; done) | (simp -implicitDefEqProofs (disch := omega) only [go_sem, ht]; omega), by first | omega | (simp -implicitDefEqProofs (disch := omega) only [go_sem, ht]; done) | (simp -implicitDefEqProofs (disch := omega) only [go_sem, ht]; omega)⟩, hG⟩, by omega⟩
end
end Go.Proofs.Ytfjdfnlkobeehaa.Ref
end

section
set_option maxRecDepth 100000
set_option linter.unusedVariables false
set_option linter.unusedSimpArgs false
namespace Go.Proofs.Ytfjdfnlkobeehaa
theorem findP_of {W : List (List Int)} {c p : Nat} (hp : p < W.length) (hz2 : vc (W.getD p []) c ≠ 0) : ∀ (k r : Nat), k + r = p → (∀ i, r ≤ i → i < p → vc (W.getD i []) c = 0) → findP W c r = p
  | 0, r, e, _ => by
    obtain rfl : r = p := by omega
    rw [findP_eq hp, if_pos hz2]
  | k + 1, r, e, hz => by
    rw [findP_eq (by omega), if_neg (by simpa using hz r (Nat.le_refl _) (by omega))]
    exact findP_of hp hz2 k (r + 1) (by omega) fun i h1 h2 => hz i (by omega) h2
theorem findP_no {W : List (List Int)} {c : Nat} : ∀ (k r : Nat), k + r = W.length → (∀ i, r ≤ i → i < W.length → vc (W.getD i []) c = 0) → findP W c r = W.length
  | 0, r, e, _ => findP_end (by omega)
  | k + 1, r, e, hz => by
    rw [findP_eq (by omega), if_neg (by simpa using hz r (Nat.le_refl _) (by omega))]
    exact findP_no k (r + 1) (by omega) fun i h1 h2 => hz i (by omega) h2
section
variable {W0 W : List (List Int)} {n c β B : Nat} {last : Int} {t : Bool}
theorem BI.exact (h : BI W0 n c β B W last t) (hcn : c < n) (hf : findP W c c < W.length) : ∀ i, c < i → i < n → ∀ k, c < k → k < n →
    last ∣ vc ((swapL W c (findP W c c)).getD i []) k * vc ((swapL W c (findP W c c)).getD c []) c - vc ((swapL W c (findP W c c)).getD i []) c * vc ((swapL W c (findP W c c)).getD c []) k := by
  obtain ⟨O, κ, hs, hO, hla, hnz, hent, hsz, hB⟩ := h.st
  obtain ⟨hcp, hp0⟩ := findP_spec hf
  have hlen := h.len
  rw [hlen] at hf
  generalize findP W c c = p at *
  have hsg : ∀ k, k < n → (swapL W c p).getD k [] = W.getD (swp p c k) [] := fun k hk => swapL_get (by omega) (by omega) (by omega)
  have hO' : ∀ i, i < c → O i = O (swp p c i) := fun i hi => by rw [swp_lt hcp hi]
  have hDc : ∀ j, j ≤ c → DD (fun k => O (swp p c k)) j = DD O j := fun j hj => (DD_congr fun i hi => hO' i (by omega)).symm
  have hNc : ∀ x, NN (fun k => O (swp p c k)) c x = NN O c x := fun x => (NN_congr fun i hi => hO' i hi) x ▸ rfl
  have hent' : ∀ i, c ≤ i → i < n → ∀ k, c ≤ k → k < n → vc ((swapL W c p).getD i []) k = NN (fun k => O (swp p c k)) c (O (swp p c i)) k := fun i hi hin k hk hkn => by
    rw [hsg i hin, hNc]
    exact hent _ (swp_ge hcp hi) (swp_bd hf hcn hin) k hk hkn
  have hnz' : ∀ j, j ≤ c → DD (fun k => O (swp p c k)) j ≠ 0 := fun j hj => by rw [hDc j hj]; exact hnz j hj
  intro i hi hin k hk hkn
  rw [hent' i (by omega) hin k (by omega) hkn, hent' i (by omega) hin c (Nat.le_refl _) hcn, hent' c (Nat.le_refl _) hcn c (Nat.le_refl _) hcn, hent' c (Nat.le_refl _) hcn k (by omega) hkn]
  rw [← NN_step hnz', hDc c (Nat.le_refl _), hla]
  exact Int.dvd_mul_right _ _
end
end Go.Proofs.Ytfjdfnlkobeehaa
namespace Go.Proofs.Ytfjdfnlkobeehaa.Ref
open Ytfjdfnlkobeehaa (vc vc_lt findP findP_of findP_no findP_spec swapL swapL_len swapL_get bstep bstep_get brow brow_vc barW barD BI detZ swp_bd swp_ge)
theorem divInt_num_zero {a l : Int} (hl : l ≠ 0) : (Rat.divInt a l).num = 0 ↔ a = 0 := by
  rw [Rat.num_eq_zero, Rat.divInt_eq_div]
  have hl' : (l : Rat) ≠ 0 := fun e => hl (by exact_mod_cast e)
  constructor
  · intro h
    have h2 : (a : Rat) = 0 := by
      have : (a : Rat) = (a : Rat) / (l : Rat) * (l : Rat) := by grind
      rw [this, h]; simp
    exact_mod_cast h2
  · rintro rfl
    simp
    grind
theorem rat_alg {L pc a b pj q : Rat} (hL : L ≠ 0) (hp : pc ≠ 0) (h : L * q = a * pc - b * pj) : a / L + -(b / L * (L / pc)) * (pj / L) = q / pc := by
  have : q = (a * pc - b * pj) / L := by rw [← h]; grind
  rw [this]
  grind
section
variable {W0 : List (List Int)} {n β B : Nat}
theorem PR_bar (hl : W0.length = n) (hr : ∀ i, i < n → (W0.getD i []).length = n) (hall : ∀ c, c ≤ n → ∀ W last t, barW W0 c = some (W, last, t) → BI W0 n c β B W last t) (hβ : n + 1 ≤ β) {c : Nat} {f : Nat → List Rat} {d : Rat} (h : PR n (fun k => rr (W0.getD k [])) c f d) :
    c ≤ n → ∃ W last t, barW W0 c = some (W, last, t) ∧ d = (((if t then -last else last : Int) : Int) : Rat) ∧ (∀ i, i < n → (f i).length = n) ∧ ∀ i j, c ≤ i → i < n → c ≤ j → j < n → qv (f i) j = Rat.divInt (vc (W.getD i []) j) last := by
  induction h with
  | start =>
    intro _
    refine ⟨W0, 1, false, rfl, by simp, fun i hi => by rw [rr_len]; exact hr i hi, fun i j _ hi _ hj => ?_⟩
    rw [rr_qv (by rw [hr i hi]; exact hj), Rat.divInt_eq_div]
    simp
    grind
  | @step c p f d hp hcp hpn hz1 hz2 ih =>
    intro hc
    obtain ⟨W, last, t, hb, hd, hlen, hq⟩ := ih (by omega)
    have hBI := hall c (by omega) W last t hb
    have hcn : c < n := by omega
    have hl0 := (hBI.zl (by omega) hβ (by omega)).2
    have hWl := hBI.len
    have e1 : ∀ k, c ≤ k → k < p → vc (W.getD k []) c = 0 := fun k h1 h2 => by
      have := hz1 k h1 h2
      rw [hq k c h1 (by omega) (Nat.le_refl _) hcn] at this
      exact (divInt_num_zero hl0).1 this
    have e2 : vc (W.getD p []) c ≠ 0 := fun e => hz2 (by
      rw [hq p c hcp hpn (Nat.le_refl _) hcn]
      exact (divInt_num_zero hl0).2 e)
    have hf : findP W c c = p := findP_of (by omega) e2 (p - c) c (by omega) e1
    have hex := hBI.exact hcn (by rw [hf]; omega)
    have hsg : ∀ k, k < n → (swapL W c p).getD k [] = W.getD (Ytfjdfnlkobeehaa.swp p c k) [] := fun k hk => swapL_get (by omega) (by omega) (by omega)
    have hsl : (swapL W c p).length = n := by rw [swapL_len]; exact hWl
    rw [hf] at hex
    have hpc : vc ((swapL W c p).getD c []) c = vc (W.getD p []) c := by rw [hsg c hcn, Ytfjdfnlkobeehaa.swp_t]
    refine ⟨bstep last c (swapL W c p), vc ((swapL W c p).getD c []) c, xor t (decide (p ≠ c)), ?_, ?_, fun i hi => ?_, fun i j hi hin hj hjn => ?_⟩
    · rw [barW, hb]
      simp only []
      rw [hf, if_pos (by omega)]
    · rw [hpc, hd, hq p c hcp hpn (Nat.le_refl _) hcn, Rat.divInt_eq_div]
      have hl' : (last : Rat) ≠ 0 := fun e => hl0 (by exact_mod_cast e)
      by_cases hpe : p = c <;> cases t <;> simp [hpe] <;> grind
    · show (pstep c (fun k => f (Ytfjdfnlkobeehaa.swp p c k)) i).length = n
      unfold pstep
      split
      · rw [radd_len]; exact hlen _ (swp_bd hpn hcn hi)
      · exact hlen _ (swp_bd hpn hcn hi)
    · have hi' : c < i := by omega
      show qv (pstep c (fun k => f (Ytfjdfnlkobeehaa.swp p c k)) i) j = _
      unfold pstep
      rw [if_pos hi']
      have hfi : ((fun k => f (Ytfjdfnlkobeehaa.swp p c k)) i).length = n := hlen _ (swp_bd hpn hcn hin)
      rw [radd_at (by omega) (by rw [hfi]; exact hjn)]
      unfold kq
      have q1 := hq (Ytfjdfnlkobeehaa.swp p c i) j (swp_ge hcp (by omega)) (swp_bd hpn hcn hin) (by omega) hjn
      have q2 := hq (Ytfjdfnlkobeehaa.swp p c i) c (swp_ge hcp (by omega)) (swp_bd hpn hcn hin) (Nat.le_refl _) hcn
      have q3 := hq (Ytfjdfnlkobeehaa.swp p c c) j (swp_ge hcp (Nat.le_refl _)) (swp_bd hpn hcn hcn) (by omega) hjn
      have q4 := hq (Ytfjdfnlkobeehaa.swp p c c) c (swp_ge hcp (Nat.le_refl _)) (swp_bd hpn hcn hcn) (Nat.le_refl _) hcn
      rw [← hsg i hin] at q1 q2
      rw [← hsg c hcn] at q3 q4
      have hrl : ((swapL W c p).getD i []).length = n := by rw [hsg i hin]; exact hBI.row _ (swp_bd hpn hcn hin)
      have hx := hex i hi' hin j (by omega) hjn
      rw [bstep_get (by rw [hsl]; exact hin), if_neg (by omega), brow_vc (by rw [hrl]; exact hjn), if_neg (by omega)]
      simp only [q1, q2, q3, q4]
      have hp0 : vc ((swapL W c p).getD c []) c ≠ 0 := by rw [hpc]; exact e2
      generalize vc ((swapL W c p).getD i []) j = a at *
      generalize vc ((swapL W c p).getD i []) c = b at *
      generalize vc ((swapL W c p).getD c []) c = pc at *
      generalize vc ((swapL W c p).getD c []) j = pj at *
      obtain ⟨q, hqq⟩ := hx
      have hqv : (a * pc - b * pj) / last = q := by rw [hqq]; exact Int.mul_ediv_cancel_left _ hl0
      rw [hqv]
      have hl' : (last : Rat) ≠ 0 := fun e => hl0 (by exact_mod_cast e)
      have hp' : (pc : Rat) ≠ 0 := fun e => hp0 (by exact_mod_cast e)
      have hcast : (last : Rat) * (q : Rat) = (a : Rat) * (pc : Rat) - (b : Rat) * (pj : Rat) := by exact_mod_cast hqq.symm
      have hov : Rat.divInt (((Rat.divInt pc last).den : Nat) : Int) (Rat.divInt pc last).num = (last : Rat) / (pc : Rat) := by
        have h1 : Rat.divInt (((Rat.divInt pc last).den : Nat) : Int) (Rat.divInt pc last).num = (Rat.divInt pc last)⁻¹ := by
          rw [Rat.inv_def]
        rw [h1, Rat.divInt_eq_div]
        grind
      rw [hov]
      simp only [Rat.divInt_eq_div]
      exact rat_alg hl' hp' hcast
end
end Go.Proofs.Ytfjdfnlkobeehaa.Ref
end

section
set_option maxRecDepth 100000
set_option linter.unusedVariables false
set_option linter.unusedSimpArgs false
namespace Go.Proofs.Ytfjdfnlkobeehaa.Ref
open Ytfjdfnlkobeehaa (SWc SW WX WC WV vals vals_len SM lenM Rn vc vc_lt SW_def SM_def cZ get_SM' getD_take getD_mem getD_vals wrongM wrongM_false Mx mDet detZ barW barD expW expW_det WC_def)
theorem big_z {k : Nat} {z : Int} (h : Z k z) (hk : k ≤ 1000000) : PT Try.prog 73 [NZ z] (isV (.val (.bool (decide (32 < (Ytfjdfnlkobeehaa.D z.natAbs).length))))) := by
  have hl := long_z h hk
  have h2 := lenZ h
  rw [NZ_def] at hl ⊢
  by_cases h77 : 77 < (D z.natAbs).length
  · have h77i : (77 : Int) < ((D z.natAbs).length : Nat) := by omega
    have e : decide ((32 : Int) < ((Ytfjdfnlkobeehaa.D z.natAbs).length : Nat)) = decide (32 < (Ytfjdfnlkobeehaa.D z.natAbs).length) := by
      rw [Bool.eq_iff_iff, decide_eq_true_iff, decide_eq_true_iff]; omega
    generalize (Ytfjdfnlkobeehaa.D z.natAbs).length = ln at *
    refine PCalls.enter (n := 12) (rs := [.tmp 2]) (tb := []) Try.func73 rfl rfl rfl (by kernel_rfl) (by kernel_rfl) (by simp) fun c hc ht => ?_
    simp -implicitDefEqProofs (disch := omega) only [go_sem, ht, h77, h77i]
    (refine pCall_vw (by refine ⟨⟨?_, ?_⟩, ?_, ?_⟩; rotate_left 2; (first | (right; rintro r rfl; rfl) | left); all_goals ((try simp -implicitDefEqProofs (disch := omega) only [h77, h77i, e, go_sem, ht]) <;> rfl)) (hl) ?_; rintro _ nx - rfl hnx; simp -implicitDefEqProofs (disch := omega) only [h77, h77i, e, go_sem, ht])
    (refine end_treeW 0 ?_; simp -implicitDefEqProofs (disch := omega) only [go_sem, ht])
  · have h77i : ¬ (77 : Int) < ((D z.natAbs).length : Nat) := by omega
    have h32 : (Ytfjdfnlkobeehaa.D z.natAbs).length ≤ 32 := Ytfjdfnlkobeehaa.D_len_le.2 (Nat.lt_of_lt_of_le (D_len_le.1 (show (D z.natAbs).length ≤ 77 by omega)) (by decide))
    rw [show decide (32 < (Ytfjdfnlkobeehaa.D z.natAbs).length) = false from decide_eq_false (by omega)]
    refine PCalls.enter (n := 12) (rs := [.tmp 2]) (tb := []) Try.func73 rfl rfl rfl (by kernel_rfl) (by kernel_rfl) (by simp) fun c hc ht => ?_
    simp -implicitDefEqProofs (disch := omega) only [go_sem, ht, h77, h77i]
    (refine end_treeW 0 ?_; simp -implicitDefEqProofs (disch := omega) only [go_sem, ht])
section
variable {m : List (List (Bool × List Nat))} {B n : Nat}
theorem product_det (h : Mx m B) (hB : B ≤ 8000) (hlc : ∀ l ∈ m, l.length = n) (hml : m.length = n) (hn : n ≤ 32) : PT Try.prog 72 [SNM (m.map vals)] (isV (NZ (detZ (m.map vals) n))) := by
  obtain ⟨hall, hdet⟩ := h.bar hlc hml
  have hWl : (m.map vals).length = n := by simp [hml]
  have hWr : ∀ i, i < n → ((m.map vals).getD i []).length = n := fun i hi => by
    rw [getD_vals (by omega), vals_len]; exact hlc _ (getD_mem (by omega))
  have hPR := fun {c f d} (hp : PR n (fun k => rr ((m.map vals).getD k [])) c f d) => PR_bar hWl hWr hall (by omega) hp
  have hpow : (4294967296 : Nat) ^ B < 4294967296 ^ (B + 1) := Nat.pow_lt_pow_right (by decide) (by omega)
  refine product_z (K := B + 1) hWl hWr (by omega) (by omega) (by omega) (fun c f d hc hp => ?_) (fun f d hp => ?_) fun c f d hc hp hz => ?_
  · obtain ⟨W, last, t, hb, hd, hlen, hq⟩ := hPR hp hc
    have hBI := hall c hc W last t hb
    obtain ⟨hlz, hl0⟩ := hBI.zl hc (by omega) (by omega)
    have hZl : Z (B + 1) last := Nat.lt_of_le_of_lt hlz hpow
    refine ⟨?_, fun i j h1 h2 h3 h4 => ?_⟩
    · rw [hd]
      refine ⟨?_, by rw [Rat.den_intCast]; exact Nat.one_lt_pow (by omega) (by decide)⟩
      rw [Rat.num_intCast]
      cases t
      · exact hZl
      · exact hZl.neg
    · rw [hq i j h1 h2 h3 h4]
      exact Zq_div (Nat.lt_of_le_of_lt (hBI.z (by omega) (by omega) h1 h2 h3 h4) hpow) hZl (by omega) hl0
  · obtain ⟨W, last, t, hb, hd, hlen, hq⟩ := hPR hp (Nat.le_refl _)
    rw [hd, Rat.num_intCast, ← hdet]
    unfold barD
    rw [hb]
  · obtain ⟨W, last, t, hb, hd, hlen, hq⟩ := hPR hp (by omega)
    have hBI := hall c (by omega) W last t hb
    obtain ⟨hlz, hl0⟩ := hBI.zl (by omega) (by omega) (by omega)
    have hbn1 : barW (m.map vals) (c + 1) = none := by
      rw [barW, hb]
      simp only []
      rw [if_neg]
      have hWn := hBI.len
      rw [Ytfjdfnlkobeehaa.findP_no (W.length - c) c (by omega) fun i h1 h2 => by
        have := hz i h1 (by omega)
        rw [hq i c h1 (by omega) (Nat.le_refl _) hc] at this
        exact (divInt_num_zero hl0).1 this]
      omega
    have hbnn := Ytfjdfnlkobeehaa.barW_none hbn1 (n - (c + 1))
    rw [show c + 1 + (n - (c + 1)) = n by omega] at hbnn
    rw [← hdet]
    unfold barD
    rw [hbnn]
set_option maxHeartbeats 4000000 in
theorem rdet_calls (h : Mx m B) (hB : B ≤ 8000) (hml : m.length ≤ 1000000) {cn : Int} : PT Try.prog 31 [SM m, .val (.int .i64 cn)] (isV (.tup [WC (mDet m cn).1, .val (.int .i64 (mDet m cn).2)])) := by
  have hw := rwrong_calls (m := m) (cn := cn) (by omega)
  unfold Ytfjdfnlkobeehaa.mDet
  by_cases hb : wrongM m cn = true
  · rw [hb] at hw
    rw [hb, Bool.true_or, if_pos rfl]
    refine PCalls.enter (n := 31) (rs := [.cell 4 30, .tmp 5]) (tb := []) Try.func31 rfl rfl rfl (by kernel_rfl) (by kernel_rfl) (by simp) fun c hc ht => ?_
    simp -implicitDefEqProofs (disch := omega) only [go_sem, ht]
    (refine pCall_vw (by refine ⟨⟨?_, ?_⟩, ?_, ?_⟩; rotate_left 2; (first | (right; rintro r rfl; rfl) | left); all_goals ((try simp -implicitDefEqProofs (disch := omega) only [go_sem, ht]) <;> rfl)) (hw) ?_; rintro _ nx - rfl hnx; simp -implicitDefEqProofs (disch := omega) only [go_sem, ht])
    (refine end_treeM 2 ?_; simp -implicitDefEqProofs (disch := omega) only [go_sem, ht, upd_self]); (rw [show Int.natAbs 0 = 0 from rfl, Ytfjdfnlkobeehaa.D_zero]; rfl)
  have hb' : wrongM m cn = false := by simpa using hb
  rw [hb'] at hw
  by_cases hmc : (m.length : Int) = cn
  · obtain ⟨k, rfl, hn, hml2, hlc⟩ := wrongM_false hb'
    have hmk : m.length = k := by omega
    subst hmk
    have hwl : (m.map vals).length = m.length := by simp
    have hbar := h.bar hlc rfl
    have hrd := read_z (m := m) (fun l hl => ⟨h.rn hl, by rw [hlc l hl]; omega⟩) hml
    have hpd := product_det h hB hlc rfl hn
    have hex : m.length ≤ 4 → PT Try.prog 71 [SNM (m.map vals)] (isV (NZ (detZ (m.map vals) m.length))) := fun h4 => by
      rw [← expW_det hwl]
      refine expanded_z (k := B) (by omega) _ _ hwl (fun z hz => ?_) h4
      obtain ⟨l, hl, rfl⟩ := List.mem_map.1 hz
      exact ⟨by rw [vals_len]; exact hlc l hl, (h.rn hl).z⟩
    rw [hb', Bool.false_or, if_neg (by simp), Int.toNat_natCast]
    
    have hdz : Z (B + 1) (detZ (m.map vals) m.length) := by
      rw [← hbar.2]
      unfold barD
      cases hbb : barW (m.map vals) m.length with
      | none => exact Z0
      | some s =>
        obtain ⟨W, last, t⟩ := s
        have hlz := ((hbar.1 _ (Nat.le_refl _) W last t hbb).zl (Nat.le_refl _) (by omega) (by omega)).1
        have hZl : Z (B + 1) last := Nat.lt_of_le_of_lt hlz (Nat.pow_lt_pow_right (by decide) (by omega))
        cases t
        · exact hZl
        · exact hZl.neg
    have hbg := big_z hdz (by omega)
    have htd := told_z hdz (by omega)
    generalize detZ (m.map vals) m.length = dv at *
    rw [SNM_def, hwl] at hrd hpd
    simp only [SNM_def, hwl] at hex
    have hmm : (m.map SW).length = m.length := by simp
    have hfl := SNM_flat (m.map vals)
    generalize m.map vals = WW at *
    by_cases h32 : 32 < (Ytfjdfnlkobeehaa.D dv.natAbs).length
    · rw [decide_eq_true h32] at hbg
      rw [if_pos h32]
      by_cases h4 : m.length ≤ 4
      · have hex := hex h4
        have h4i : ((m.length : Nat) : Int) ≤ 4 := by omega
        refine PCalls.enter (n := 31) (rs := [.cell 4 30, .tmp 5]) (tb := []) Try.func31 rfl rfl rfl (by kernel_rfl) (by kernel_rfl) (by simp) fun c hc ht => ?_
        simp -implicitDefEqProofs (disch := omega) only [go_sem, ht]
        ((refine pCall_vw (by refine ⟨⟨?_, ?_⟩, ?_, ?_⟩; rotate_left 2; (first | (right; rintro r rfl; rfl) | left); all_goals ((try simp -implicitDefEqProofs (disch := omega) only [h4, h4i, go_sem, ht]) <;> rfl)) (hw) ?_; rintro _ nx_1 - rfl hnx_1; simp -implicitDefEqProofs (disch := omega) only [h4, h4i, go_sem, ht]); (refine pCall_vw (by refine ⟨⟨?_, ?_⟩, ?_, ?_⟩; rotate_left 2; (first | (right; rintro r rfl; rfl) | left); all_goals ((try simp -implicitDefEqProofs (disch := omega) only [h4, h4i, go_sem, ht]) <;> rfl)) (hrd) ?_; rintro _ nx_2 - rfl hnx_2; simp -implicitDefEqProofs (disch := omega) only [h4, h4i, go_sem, ht]); (refine pCall_vw (by refine ⟨⟨?_, ?_⟩, ?_, ?_⟩; rotate_left 2; (first | (right; rintro r rfl; rfl) | left); all_goals ((try simp -implicitDefEqProofs (disch := omega) only [h4, h4i, go_sem, ht]) <;> rfl)) (hex) ?_; rintro _ nx_3 - rfl hnx_3; simp -implicitDefEqProofs (disch := omega) only [h4, h4i, go_sem, ht]); (refine pCall_vw (by refine ⟨⟨?_, ?_⟩, ?_, ?_⟩; rotate_left 2; (first | (right; rintro r rfl; rfl) | left); all_goals ((try simp -implicitDefEqProofs (disch := omega) only [h4, h4i, go_sem, ht]) <;> rfl)) (hbg) ?_; rintro _ nx_4 - rfl hnx_4; simp -implicitDefEqProofs (disch := omega) only [h4, h4i, go_sem, ht]))
        (refine end_treeM 2 ?_; simp -implicitDefEqProofs (disch := omega) only [go_sem, ht, upd_self]); (rw [show Int.natAbs 0 = 0 from rfl, Ytfjdfnlkobeehaa.D_zero]; rfl)
      · have h4i : ¬ ((m.length : Nat) : Int) ≤ 4 := by omega
        refine PCalls.enter (n := 31) (rs := [.cell 4 30, .tmp 5]) (tb := []) Try.func31 rfl rfl rfl (by kernel_rfl) (by kernel_rfl) (by simp) fun c hc ht => ?_
        simp -implicitDefEqProofs (disch := omega) only [go_sem, ht]
        ((refine pCall_vw (by refine ⟨⟨?_, ?_⟩, ?_, ?_⟩; rotate_left 2; (first | (right; rintro r rfl; rfl) | left); all_goals ((try simp -implicitDefEqProofs (disch := omega) only [h4, h4i, go_sem, ht]) <;> rfl)) (hw) ?_; rintro _ nx_5 - rfl hnx_5; simp -implicitDefEqProofs (disch := omega) only [h4, h4i, go_sem, ht]); (refine pCall_vw (by refine ⟨⟨?_, ?_⟩, ?_, ?_⟩; rotate_left 2; (first | (right; rintro r rfl; rfl) | left); all_goals ((try simp -implicitDefEqProofs (disch := omega) only [h4, h4i, go_sem, ht]) <;> rfl)) (hrd) ?_; rintro _ nx_6 - rfl hnx_6; simp -implicitDefEqProofs (disch := omega) only [h4, h4i, go_sem, ht]); (refine pCall_vw (by refine ⟨⟨?_, ?_⟩, ?_, ?_⟩; rotate_left 2; (first | (right; rintro r rfl; rfl) | left); all_goals ((try simp -implicitDefEqProofs (disch := omega) only [h4, h4i, go_sem, ht]) <;> rfl)) (hpd) ?_; rintro _ nx_7 - rfl hnx_7; simp -implicitDefEqProofs (disch := omega) only [h4, h4i, go_sem, ht]); (refine pCall_vw (by refine ⟨⟨?_, ?_⟩, ?_, ?_⟩; rotate_left 2; (first | (right; rintro r rfl; rfl) | left); all_goals ((try simp -implicitDefEqProofs (disch := omega) only [h4, h4i, go_sem, ht]) <;> rfl)) (hbg) ?_; rintro _ nx_8 - rfl hnx_8; simp -implicitDefEqProofs (disch := omega) only [h4, h4i, go_sem, ht]))
        (refine end_treeM 2 ?_; simp -implicitDefEqProofs (disch := omega) only [go_sem, ht, upd_self]); (rw [show Int.natAbs 0 = 0 from rfl, Ytfjdfnlkobeehaa.D_zero]; rfl)
    · rw [decide_eq_false h32] at hbg
      rw [if_neg h32]
      by_cases h4 : m.length ≤ 4
      · have hex := hex h4
        have h4i : ((m.length : Nat) : Int) ≤ 4 := by omega
        refine PCalls.enter (n := 31) (rs := [.cell 4 30, .tmp 5]) (tb := []) Try.func31 rfl rfl rfl (by kernel_rfl) (by kernel_rfl) (by simp) fun c hc ht => ?_
        simp -implicitDefEqProofs (disch := omega) only [go_sem, ht]
        ((refine pCall_vw (by refine ⟨⟨?_, ?_⟩, ?_, ?_⟩; rotate_left 2; (first | (right; rintro r rfl; rfl) | left); all_goals ((try simp -implicitDefEqProofs (disch := omega) only [h4, h4i, go_sem, ht]) <;> rfl)) (hw) ?_; rintro _ nx_9 - rfl hnx_9; simp -implicitDefEqProofs (disch := omega) only [h4, h4i, go_sem, ht]); (refine pCall_vw (by refine ⟨⟨?_, ?_⟩, ?_, ?_⟩; rotate_left 2; (first | (right; rintro r rfl; rfl) | left); all_goals ((try simp -implicitDefEqProofs (disch := omega) only [h4, h4i, go_sem, ht]) <;> rfl)) (hrd) ?_; rintro _ nx_10 - rfl hnx_10; simp -implicitDefEqProofs (disch := omega) only [h4, h4i, go_sem, ht]); (refine pCall_vw (by refine ⟨⟨?_, ?_⟩, ?_, ?_⟩; rotate_left 2; (first | (right; rintro r rfl; rfl) | left); all_goals ((try simp -implicitDefEqProofs (disch := omega) only [h4, h4i, go_sem, ht]) <;> rfl)) (hex) ?_; rintro _ nx_11 - rfl hnx_11; simp -implicitDefEqProofs (disch := omega) only [h4, h4i, go_sem, ht]); (refine pCall_vw (by refine ⟨⟨?_, ?_⟩, ?_, ?_⟩; rotate_left 2; (first | (right; rintro r rfl; rfl) | left); all_goals ((try simp -implicitDefEqProofs (disch := omega) only [h4, h4i, go_sem, ht]) <;> rfl)) (hbg) ?_; rintro _ nx_12 - rfl hnx_12; simp -implicitDefEqProofs (disch := omega) only [h4, h4i, go_sem, ht]); (refine pCall_vw (by refine ⟨⟨?_, ?_⟩, ?_, ?_⟩; rotate_left 2; (first | (right; rintro r rfl; rfl) | left); all_goals ((try simp -implicitDefEqProofs (disch := omega) only [h4, h4i, go_sem, ht]) <;> rfl)) (htd) ?_; rintro _ nx_13 - rfl hnx_13; simp -implicitDefEqProofs (disch := omega) only [h4, h4i, go_sem, ht]))
        (refine end_treeM 2 ?_; simp -implicitDefEqProofs (disch := omega) only [go_sem, ht, upd_self])
      · have h4i : ¬ ((m.length : Nat) : Int) ≤ 4 := by omega
        refine PCalls.enter (n := 31) (rs := [.cell 4 30, .tmp 5]) (tb := []) Try.func31 rfl rfl rfl (by kernel_rfl) (by kernel_rfl) (by simp) fun c hc ht => ?_
        simp -implicitDefEqProofs (disch := omega) only [go_sem, ht]
        ((refine pCall_vw (by refine ⟨⟨?_, ?_⟩, ?_, ?_⟩; rotate_left 2; (first | (right; rintro r rfl; rfl) | left); all_goals ((try simp -implicitDefEqProofs (disch := omega) only [h4, h4i, go_sem, ht]) <;> rfl)) (hw) ?_; rintro _ nx_14 - rfl hnx_14; simp -implicitDefEqProofs (disch := omega) only [h4, h4i, go_sem, ht]); (refine pCall_vw (by refine ⟨⟨?_, ?_⟩, ?_, ?_⟩; rotate_left 2; (first | (right; rintro r rfl; rfl) | left); all_goals ((try simp -implicitDefEqProofs (disch := omega) only [h4, h4i, go_sem, ht]) <;> rfl)) (hrd) ?_; rintro _ nx_15 - rfl hnx_15; simp -implicitDefEqProofs (disch := omega) only [h4, h4i, go_sem, ht]); (refine pCall_vw (by refine ⟨⟨?_, ?_⟩, ?_, ?_⟩; rotate_left 2; (first | (right; rintro r rfl; rfl) | left); all_goals ((try simp -implicitDefEqProofs (disch := omega) only [h4, h4i, go_sem, ht]) <;> rfl)) (hpd) ?_; rintro _ nx_16 - rfl hnx_16; simp -implicitDefEqProofs (disch := omega) only [h4, h4i, go_sem, ht]); (refine pCall_vw (by refine ⟨⟨?_, ?_⟩, ?_, ?_⟩; rotate_left 2; (first | (right; rintro r rfl; rfl) | left); all_goals ((try simp -implicitDefEqProofs (disch := omega) only [h4, h4i, go_sem, ht]) <;> rfl)) (hbg) ?_; rintro _ nx_17 - rfl hnx_17; simp -implicitDefEqProofs (disch := omega) only [h4, h4i, go_sem, ht]); (refine pCall_vw (by refine ⟨⟨?_, ?_⟩, ?_, ?_⟩; rotate_left 2; (first | (right; rintro r rfl; rfl) | left); all_goals ((try simp -implicitDefEqProofs (disch := omega) only [h4, h4i, go_sem, ht]) <;> rfl)) (htd) ?_; rintro _ nx_18 - rfl hnx_18; simp -implicitDefEqProofs (disch := omega) only [h4, h4i, go_sem, ht]))
        (refine end_treeM 2 ?_; simp -implicitDefEqProofs (disch := omega) only [go_sem, ht, upd_self])
  · rw [if_pos (by simp [hmc])]
    have hmc' : ¬ ((m.length : Nat) : Int) = cn := hmc
    refine PCalls.enter (n := 31) (rs := [.cell 4 30, .tmp 5]) (tb := []) Try.func31 rfl rfl rfl (by kernel_rfl) (by kernel_rfl) (by simp) fun c hc ht => ?_
    simp -implicitDefEqProofs (disch := omega) only [go_sem, ht]
    (refine pCall_vw (by refine ⟨⟨?_, ?_⟩, ?_, ?_⟩; rotate_left 2; (first | (right; rintro r rfl; rfl) | left); all_goals ((try simp -implicitDefEqProofs (disch := omega) only [hmc', go_sem, ht]) <;> rfl)) (hw) ?_; rintro _ nx - rfl hnx; simp -implicitDefEqProofs (disch := omega) only [hmc', go_sem, ht])
    (refine end_treeM 2 ?_; simp -implicitDefEqProofs (disch := omega) only [go_sem, ht, upd_self]); (rw [show Int.natAbs 0 = 0 from rfl, Ytfjdfnlkobeehaa.D_zero]; rfl)
end
end Go.Proofs.Ytfjdfnlkobeehaa.Ref
end

section
set_option maxRecDepth 100000
set_option linter.unusedVariables false
set_option linter.unusedSimpArgs false
namespace Go.Proofs.Ytfjdfnlkobeehaa

section
variable {m : List (List (Bool × List Nat))}
theorem mDet_e (cn : Int) : ((mDet m cn).2 = 0 ∨ (mDet m cn).2 = 1 ∨ (mDet m cn).2 = 2) ∧ Z 32 (mDet m cn).1 := by
  have h0 : Z 32 0 := Ref.Z0
  unfold mDet
  split
  · exact ⟨.inr (.inl rfl), h0⟩
  · split
    · exact ⟨.inr (.inr rfl), h0⟩
    · rename_i h
      have h2 : Z 32 (detZ (m.map vals) cn.toNat) := D_len_le.1 (by omega)
      exact ⟨.inl rfl, h2⟩
set_option maxHeartbeats 4000000 in
theorem dets_law {cn : Int} (hm : ∀ l ∈ m, ∀ p ∈ l, Lm p.2) (hb : lenM m + 1 ≤ 1048576) (lo : -9223372036854775808 ≤ cn) (hi : cn ≤ 9223372036854775807) :
    PT Try.prog 6 [SM m, .val (.int .i64 cn)] (isV (.val (.bool true))) := by
  have hlr := len_rows (m := m) (by omega)
  have hml := lenM_len m
  by_cases hl : 1500 < lenM m
  · refine PCalls.enter (n := 36) (rs := [.tmp 4]) (tb := []) Try.func6 rfl rfl rfl (by kernel_rfl) (by kernel_rfl) (by simp) fun c hc ht => ?_
    simp -implicitDefEqProofs (disch := omega) only [go_sem, ht]
    ((refine pCall_vw (by refine ⟨⟨?_, ?_⟩, ?_, ?_⟩; rotate_left 2; (first | (right; rintro r rfl; rfl) | left); all_goals ((try simp -implicitDefEqProofs (disch := omega) only [go_sem, ht]) <;> rfl)) (awake_matrix) ?_; rintro _ nx_1 - rfl hnx_1; simp -implicitDefEqProofs (disch := omega) only [go_sem, ht]); (refine pCall_vw (by refine ⟨⟨?_, ?_⟩, ?_, ?_⟩; rotate_left 2; (first | (right; rintro r rfl; rfl) | left); all_goals ((try simp -implicitDefEqProofs (disch := omega) only [go_sem, ht]) <;> rfl)) (hlr) ?_; rintro _ nx_2 - rfl hnx_2; simp -implicitDefEqProofs (disch := omega) only [go_sem, ht]))
    (refine end_treeW 0 ?_; simp -implicitDefEqProofs (disch := omega) only [go_sem, ht])
  have hMx : Mx m 1500 := ⟨hm, by omega, by omega⟩
  have hcr := copy_rows (m := m) (fun l hl => ⟨fun p hp => by have := (hMx.rn hl).ok p hp; exact ⟨this.1, by omega⟩, by have := lenM_mem hl; have := lenW_len l; omega⟩) (by omega)
  have hd := mdet_calls hMx (cn := cn)
  have hr := Ref.rdet_calls hMx (by omega) (by omega) (cn := cn)
  obtain ⟨he, hz⟩ := mDet_e (m := m) cn
  have hnum := Ref.num_calls (s := (mDet m cn).2) (by omega) (by omega)
  have hs := sameT hz (by omega) (rfl : (mDet m cn).1 = (mDet m cn).1)
  generalize (mDet m cn).1 = d at *
  generalize (mDet m cn).2 = e at *
  clear he
  refine PCalls.enter (n := 36) (rs := [.tmp 4]) (tb := []) Try.func6 rfl rfl rfl (by kernel_rfl) (by kernel_rfl) (by simp) fun c hc ht => ?_
  simp -implicitDefEqProofs (disch := omega) only [go_sem, ht]
  ((refine pCall_vw (by refine ⟨⟨?_, ?_⟩, ?_, ?_⟩; rotate_left 2; (first | (right; rintro r rfl; rfl) | left); all_goals ((try simp -implicitDefEqProofs (disch := omega) only [go_sem, ht]) <;> rfl)) (awake_matrix) ?_; rintro _ nx_3 - rfl hnx_3; simp -implicitDefEqProofs (disch := omega) only [go_sem, ht]); (refine pCall_vw (by refine ⟨⟨?_, ?_⟩, ?_, ?_⟩; rotate_left 2; (first | (right; rintro r rfl; rfl) | left); all_goals ((try simp -implicitDefEqProofs (disch := omega) only [go_sem, ht]) <;> rfl)) (hlr) ?_; rintro _ nx_4 - rfl hnx_4; simp -implicitDefEqProofs (disch := omega) only [go_sem, ht]); (refine pCall_vw (by refine ⟨⟨?_, ?_⟩, ?_, ?_⟩; rotate_left 2; (first | (right; rintro r rfl; rfl) | left); all_goals ((try simp -implicitDefEqProofs (disch := omega) only [go_sem, ht]) <;> rfl)) (hcr) ?_; rintro _ nx_5 - rfl hnx_5; simp -implicitDefEqProofs (disch := omega) only [go_sem, ht]); (refine pCall_vw (by refine ⟨⟨?_, ?_⟩, ?_, ?_⟩; rotate_left 2; (first | (right; rintro r rfl; rfl) | left); all_goals ((try simp -implicitDefEqProofs (disch := omega) only [go_sem, ht]) <;> rfl)) (hd) ?_; rintro _ nx_6 - rfl hnx_6; simp -implicitDefEqProofs (disch := omega) only [go_sem, ht]); (refine pCall_vw (by refine ⟨⟨?_, ?_⟩, ?_, ?_⟩; rotate_left 2; (first | (right; rintro r rfl; rfl) | left); all_goals ((try simp -implicitDefEqProofs (disch := omega) only [go_sem, ht]) <;> rfl)) (hr) ?_; rintro _ nx_7 - rfl hnx_7; simp -implicitDefEqProofs (disch := omega) only [go_sem, ht]))
  ((refine pCall_vw (by refine ⟨⟨?_, ?_⟩, ?_, ?_⟩; rotate_left 2; (first | (right; rintro r rfl; rfl) | left); all_goals ((try simp -implicitDefEqProofs (disch := omega) only [go_sem, ht]) <;> rfl)) (hs) ?_; rintro _ nx_8 - rfl hnx_8; simp -implicitDefEqProofs (disch := omega) only [go_sem, ht]); (refine pCall_vw (by refine ⟨⟨?_, ?_⟩, ?_, ?_⟩; rotate_left 2; (first | (right; rintro r rfl; rfl) | left); all_goals ((try simp -implicitDefEqProofs (disch := omega) only [go_sem, ht]) <;> rfl)) (hnum) ?_; rintro _ nx_9 - rfl hnx_9; simp -implicitDefEqProofs (disch := omega) only [go_sem, ht]))
  (refine end_treeW 0 ?_; simp -implicitDefEqProofs (disch := omega) only [go_sem, ht])
end
end Go.Proofs.Ytfjdfnlkobeehaa
open Go.ChangeShapes Go.WideShapes Go.ChangeAt Go.RowKit
namespace Go.Proofs.Ytfjdfnlkobeehaa
end Go.Proofs.Ytfjdfnlkobeehaa
end
