/- Part 34 of the way to the statement: the walk and what it needs. -/
import Derived.Test.YtfjdfnlkobeehaaKDeF3
import Derived.Test.YtfjdfnlkobeehaaKDeF28
import Derived.Test.YtfjdfnlkobeehaaKDeF33
import Derived.Deep.SlicePairs
import Derived.Deep.CondSized
import Derived.JoinedCond
section
set_option maxRecDepth 100000
set_option linter.unusedVariables false
set_option linter.unusedSimpArgs false
namespace Go.Proofs.Ytfjdfnlkobeehaa
open Go.ChangeShapes Go.WideShapes Go.ChangeAt Go.RowKit Go.Deep

section
variable {H : Type} {enc : TypeId × Value → H} {w : World} {P : Program}

theorem bulk_len : ∀ (l : List (DataW H)), l.length ≤ Rows.uptoBulkAll l
  | [] => by simp
  | d :: l => by
    have h2 := bulk_len l
    have : 1 ≤ Rows.uptoBulk d := by
      cases d with
      | lit x => cases x <;> simp [Rows.uptoBulk]
      | _ => simp [Rows.uptoBulk]
    simp only [List.length_cons, Rows.uptoBulkAll]
    omega
theorem bulk_slice (es sp : List (DataW H)) : Rows.uptoBulkAll es + 1 ≤ Rows.uptoBulk (.slice es sp) := by simp only [Rows.uptoBulk]; omega
theorem row_ones {b : Nat} : ∀ (l : List PV) (o : Nat), (∀ i (h : i < l.length), ∃ v, w.cell? ⟨b, o + i, none⟩ = some v ∧ Rep (E0 w) l[i] v) → Row (E0 w) b o l
  | [], _, _ => by simp [Row]
  | p :: l, o, h => by
    simp only [Row]
    refine ⟨by have := h 0 (by simp); simpa using this, row_ones l (o + 1) fun i hi => ?_⟩
    obtain ⟨v, h1, h2⟩ := h (i + 1) (by simpa using hi)
    exact ⟨v, by rw [← h1]; congr 2; omega, by simpa using h2⟩
theorem row_pairs {b : Nat} : ∀ (l : List (Bool × List Nat)) (o : Nat), (∀ i (h : i < l.length), (∃ v, w.cell? ⟨b, o + i * 2, none⟩ = some v ∧ Rep (E0 w) (.val (.bool l[i].1)) v) ∧ ∃ v, w.cell? ⟨b, o + (i * 2 + 1), none⟩ = some v ∧ Rep (E0 w) (SU l[i].2) v) → Row (E0 w) b o (SWc l)
  | [], _, _ => by simp [Row, SWc]
  | p :: l, o, h => by
    rw [SWc_cons]
    simp only [Row]
    obtain ⟨h1, h2⟩ := h 0 (by simp)
    refine ⟨by simpa using h1, by simpa using h2, row_pairs l (o + 1 + 1) fun i hi => ?_⟩
    obtain ⟨⟨v, h1, h2⟩, u, h3, h4⟩ := h (i + 1) (by simpa using hi)
    exact ⟨⟨v, by rw [← h1]; congr 2; omega, by simpa using h2⟩, u, by rw [← h3]; congr 2; omega, by simpa using h4⟩
theorem not_A0 (b : Nat) : ¬ (E0 w).A b := by
  rintro (h | ⟨i, ⟨cs, hcs, _⟩ | hi, _⟩)
  · exact h
  · simp at hcs
  · simp at hi
theorem add_eq {a : Addr} (h : a.spot = none) (i : Nat) : a.add i = ⟨a.block, a.off + i, none⟩ := by
  obtain ⟨b, o, s⟩ := a
  simp only at h; subst h
  unfold Addr.add
  split
  · subst i; rfl
  · rfl
theorem cell_limbsS {t e : TypeId} {fuel : Nat} {v : Value} {x : DataW H × List MemPlace} (ht : P.underlying t = some (.slice e)) (he : P.underlying e = some (.int .u32)) (hc : P.cellsOf e = 1)
    (hf : DataW.trod enc P w 0 (fun _ => true) true fuel t [v] = some x) :
    ∃ xs : List Nat, Lm xs ∧ xs.length + 1 ≤ Rows.uptoBulk x.1 ∧ Rep (E0 w) (SU xs) v := by
  rcases open_ints ht he hc hf with ⟨hcs, hx⟩ | ⟨a, len, cap, zs, hcs, _, hl, hm, hz, hx, hcell, hwz⟩
  · obtain rfl : v = .slice none 0 0 := by simpa using hcs
    exact ⟨[], Lm_nil, by rw [hx]; simp [Rows.uptoBulk], by simp [SU_def, Rep]⟩
  · obtain rfl : v = .slice (some a) len cap := by simpa using hcs
    simp only [if_true] at hz
    have hrange : ∀ z ∈ zs, 0 ≤ z ∧ z < 4294967296 := fun z hz => by
      have h1 := hwz z hz
      have h1 : (decide (IntKind.u32.min ≤ z) && decide (z ≤ IntKind.u32.max)) = true := h1
      have h2 : IntKind.u32.min ≤ z ∧ z ≤ IntKind.u32.max := by simpa using h1
      have h3 : IntKind.u32.min = 0 := rfl
      have h4 : IntKind.u32.max = 4294967295 := rfl
      omega
    have hln : ((zs.take len).map Int.toNat).length = len := by simp [hz, hl]
    refine ⟨(zs.take len).map Int.toNat, fun y hy => ?_, ?_, ?_⟩
    · obtain ⟨z, hz1, rfl⟩ := List.mem_map.1 hy
      have := hrange z (List.mem_of_mem_take hz1)
      omega
    · rw [hln, hx]
      have h1 := bulk_slice (lits (H := H) .u32 (zs.take len)) (lits .u32 (zs.drop len))
      have h2 := bulk_len (lits (H := H) .u32 (zs.take len))
      have h3 : (lits (H := H) .u32 (zs.take len)).length = len := by simp [lits, hz, hl]
      simp only at h1 ⊢
      omega
    · rw [SU_def, hln]
      simp only [Rep]
      by_cases h0 : cap = 0
      · subst h0
        obtain rfl : len = 0 := by omega
        exact .inl ⟨rfl, by simp, some a, rfl⟩
      · have hs : a.spot = none := by
          have := World.cell?_spot (hcell 0 (by omega))
          simpa [Addr.add] using this
        refine .inr ⟨a.block, a.off, cap, ?_, hl, .inr ⟨not_A0 (w := w) _, row_ones _ _ fun i hi => ?_⟩⟩
        · obtain ⟨b, o, s⟩ := a
          simp only at hs; subst hs; rfl
        · have hi' : i < len := by simpa [hz, hl] using hi
          have h1 := hcell i (by omega)
          rw [add_eq hs] at h1
          refine ⟨_, h1, ?_⟩
          have h2 := hrange (zs.getD i 0) (by rw [List.getD_eq_getElem?_getD, List.getElem?_eq_getElem (by omega)]; exact List.getElem_mem _)
          simp only [List.getElem_map, List.getElem_take, U, Rep]
          congr 1
          rw [List.getD_eq_getElem?_getD, List.getElem?_eq_getElem (by omega)] at h2 ⊢
          simp only [Option.getD_some] at h2 ⊢
          omega
def SM (m : List (List (Bool × List Nat))) : PV := .sl m.length (m.map SW)
theorem SM_def (m : List (List (Bool × List Nat))) : SM m = .sl m.length (m.map SW) := rfl
def lenM (m : List (List (Bool × List Nat))) : Nat := (m.map fun l => 1 + lenW l).sum
theorem value_cells {t e : TypeId} {b0 : Nat} {v : Value} {d : DataW H} {p : List MemPlace} (ht : P.underlying t = some (.slice e)) (hv : Value.okWide P w .any b0 t v) (hd : DataW.Trod enc P w 0 (fun _ => true) true t v d p) :
    ∃ fuel, DataW.trod enc P w 0 (fun _ => true) true fuel t [v] = some (d, p) := by
  obtain ⟨a, len, cap, rfl⟩ := okWide_slice ht hv
  exact hd
end
end Go.Proofs.Ytfjdfnlkobeehaa
end

section
set_option maxRecDepth 100000
set_option linter.unusedVariables false
set_option linter.unusedSimpArgs false
namespace Go.Proofs.Ytfjdfnlkobeehaa

theorem nn3_sl (n : Nat) (cs : List PV) : nn3 (.sl n cs) = .sl n cs := rfl
attribute [go_sem] nn3_sl

def toC (z : Int) : Bool × List Nat := (decide (z < 0), D z.natAbs)
def CZ (zs : List Int) : List (Bool × List Nat) := zs.map toC
theorem CZ_len (zs : List Int) : (CZ zs).length = zs.length := by simp [CZ]
theorem CZ_app (zs ws : List Int) : CZ (zs ++ ws) = CZ zs ++ CZ ws := by simp [CZ]

def vals (l : List (Bool × List Nat)) : List Int := l.map fun p => WV p.1 p.2
theorem vals_len (l : List (Bool × List Nat)) : (vals l).length = l.length := by simp [vals]
theorem vals_CZ (zs : List Int) : vals (CZ zs) = zs := by
  simp only [vals, CZ, List.map_map]
  conv => rhs; rw [← List.map_id zs]
  apply List.map_congr_left
  intro z _
  exact WV_C z
theorem vals_get {l : List (Bool × List Nat)} {i : Nat} (h : i < l.length) : vc (vals l) i = WV l[i].1 l[i].2 := by
  rw [vc_lt (by rw [vals_len]; exact h)]; simp [vals]

structure Rn (l : List (Bool × List Nat)) (k : Nat) : Prop where
  ok : ∀ p ∈ l, Lm p.2 ∧ p.2.length ≤ k
  hk : k ≤ 1000000
theorem Rn.wn {l : List (Bool × List Nat)} {k i : Nat} (h : Rn l k) (hi : i < l.length) : Wn l[i].1 l[i].2 (vc (vals l) i) k := by
  obtain ⟨h1, h2⟩ := h.ok _ (List.getElem_mem hi)
  rw [vals_get hi]
  exact Wn.raw h1 h2 h.hk
theorem Rn.C {zs : List Int} {k : Nat} (h : ∀ z ∈ zs, Z k z) (hk : k ≤ 1000000) : Rn (CZ zs) k := by
  refine ⟨fun p hp => ?_, hk⟩
  obtain ⟨z, hz, rfl⟩ := List.mem_map.1 hp
  exact ⟨Lm_D _, (h z hz).len⟩
theorem Rn.z {l : List (Bool × List Nat)} {k : Nat} (h : Rn l k) : ∀ z ∈ vals l, Z k z := by
  intro z hz
  obtain ⟨p, hp, rfl⟩ := List.mem_map.1 hz
  obtain ⟨h1, h2⟩ := h.ok p hp
  exact .V h1 h2
theorem Z.zero (k : Nat) : Z k 0 := by unfold Z; exact Nat.pos_of_ne_zero (by simp)
theorem gcdF_le {k : Nat} : ∀ {zs : List Int} {g : Nat}, Z k (g : Int) → (∀ z ∈ zs, Z k z) → Z k (gcdF g zs : Nat)
  | [], g, h, _ => h
  | z :: zs, g, h, hz => by
    rw [gcdF_cons]
    refine gcdF_le ?_ fun x hx => hz x (List.mem_cons_of_mem _ hx)
    by_cases h0 : g = 0
    · subst h0
      rw [Nat.gcd_zero_left]
      exact Z.le (hz z (List.mem_cons_self ..)) (by simp)
    · exact Z.le h (by simp only [Int.natAbs_natCast]; exact Nat.le_of_dvd (Nat.pos_of_ne_zero h0) (Nat.gcd_dvd_left _ _))
theorem gcdF_take {zs : List Int} {i : Nat} (h : i < zs.length) : gcdF 0 (zs.take (i + 1)) = Nat.gcd (gcdF 0 (zs.take i)) (zs[i]).natAbs := by
  rw [List.take_succ_eq_append_getElem h, gcdF_app]; rfl
theorem replW (n : Nat) : repl n [PV.val (.bool false), PV.val (.slice none 0 0)] = ((repl n [Value.bool false, Value.slice none 0 0]).map .val) := by
  unfold repl
  induction n with
  | zero => rfl
  | succ n ih => simp only [List.replicate_succ, List.flatten_cons, List.map_append, ih]; rfl
theorem repl_len {α : Type} (n : Nat) (l : List α) : (repl n l).length = n * l.length := by
  unfold repl
  induction n with
  | zero => simp
  | succ n ih => simp only [List.replicate_succ, List.flatten_cons, List.length_append, ih, Nat.succ_mul]; omega


theorem each_w {l : List (Bool × List Nat)} {zs : List Int} {f : FuncId} {caps : List PV} (hf : flatL caps = true) (hcv : ∀ H, caps.map (view H) = caps) (hlen : l.length ≤ 1000000) (hz : zs.length = l.length)
    (h : ∀ i (hi : i < l.length) (hi' : i < zs.length), PT Try.prog f (WX l[i].1 l[i].2 :: caps) (isV (WC zs[i]))) : PT Try.prog 68 [SW l, .fn f caps] (isV (SW (CZ zs))) := by
  have hrp := replW l.length
  have hrl := repl_len l.length [Value.bool false, Value.slice none 0 0]
  refine PCalls.enter (n := 25) (rs := [.tmp 4]) (tb := []) Try.func68 rfl rfl rfl (by kernel_rfl) (by kernel_rfl) (by simp) fun c hc ht => ?_
  simp -implicitDefEqProofs (disch := omega) only [go_sem, ht]
  refine LW.loopW hc ht (by kernel_rfl) (fun t => t.sl 1 = .fn f caps ∧ t.sl 11 = .sl l.length (SWc l) ∧ t.sl 12 = .val (.int .i64 l.length) ∧ ∃ i : Nat, i ≤ l.length ∧ t.sl 13 = .val (.int .i64 i) ∧ ∃ (id cap : Nat) (rest : List Value), t.sl 5 = .ref id 0 i cap 2 ∧ t.H id = some (SWc ((CZ zs).take i) ++ rest.map .val) ∧ i * 2 + rest.length = cap * 2 ∧ id < t.nx)
    (fun t => match t.sl 13 with | .val (.int _ k) => l.length - k.toNat | _ => 0) ?_ ?_
  · simp -implicitDefEqProofs (disch := omega) only [go_sem, ht]
    refine ⟨0, Nat.zero_le _, rfl, 0, l.length, repl l.length [Value.bool false, Value.slice none 0 0], rfl, ?_, by rw [hrl]; simp, by omega⟩
    rw [upd_self, hrp]; rfl
  · rintro t ⟨h1, h11, h12, i, hi, h13, id, cap, rest, h5, hH, hcap, hid⟩
    by_cases hil : i = l.length
    · subst hil
      have htk : (CZ zs).take l.length = CZ zs := List.take_of_length_le (by rw [CZ_len]; omega)
      rw [htk] at hH
      have hts := take_SWc (CZ zs) (rest.map .val) (n := l.length) (by rw [CZ_len]; omega)
      have hcl : l.length = (CZ zs).length := by rw [CZ_len]; omega
      have hcl2 := SWc_len (CZ zs)
      simp -implicitDefEqProofs (disch := omega) only [go_sem, ht, h1, h5, h11, h12, h13]
      (refine end_treeW 2 ?_; simp -implicitDefEqProofs (disch := omega) only [go_sem, ht, hH, hts])
      refine ⟨by omega, ?_⟩
      rw [← hcl]
    · have hlt : i < l.length := by omega
      have hlt' : i < (CZ zs).length := by rw [CZ_len]; omega
      have hat := SWc_at hlt
      have hel := h i hlt (by omega)
      have htk := SWc_take hlt'
      have e1 : (CZ zs)[i] = toC zs[i] := by simp [CZ]
      rw [e1] at htk
      simp only [toC] at htk
      have hln : (SWc ((CZ zs).take i)).length = 2 * i := by rw [SWc_len, List.length_take]; omega
      simp -implicitDefEqProofs (disch := omega) only [go_sem, ht, h1, h5, h11, h12, h13, hat]
      refine ⟨f, caps, rfl, ?_⟩
      (refine pCall_vw (by refine ⟨⟨?_, ?_⟩, ?_, ?_⟩; rotate_left 2; (first | (right; rintro r rfl; rfl) | left); all_goals ((try simp -implicitDefEqProofs (disch := omega) only [h1, h5, h11, h12, h13, hcv, hf, List.map_append, go_sem, ht]) <;> rfl)) (hel) ?_; rintro _ nx - rfl hnx; simp -implicitDefEqProofs (disch := omega) only [h1, h5, h11, h12, h13, hcv, hf, List.map_append, go_sem, ht])
      have hne : id ≠ nx := by omega
      (refine append_ownSX (by refine ⟨?_, ?_, ?_, ?_, ?_, ?_, ?_, ?_⟩ <;> (simp -implicitDefEqProofs (disch := omega) only [srcP_ref, srcP_sl, srcP_nil, Option.isSome_some, hH, go_sem, ht] <;> rfl)) (by rfl) (by first | omega | (simp <;> omega)) (by first | assumption | (simp <;> omega)) (by first | rfl | simp) (by first | omega | (simp <;> omega)) ?_; intro id1 cap1 rest1 H1 nx1 hH1 hcap1 hid1 hnx1 hfr1 hfs1; simp only [put_nx, withH_nx, put_H, withH_H] at hid1 hnx1 hfr1 hfs1)
      rw [htk] at hH1
      simp -implicitDefEqProofs (disch := omega) only [go_sem, ht, h1, h11, h12, h13]
      exact ⟨⟨i + 1, by omega, rfl, id1, cap1, rest1, rfl, hH1, by omega, by omega⟩, by omega⟩

theorem gcd_natAbs (g : Nat) (x : Int) : Int.gcd (g : Int) x = Nat.gcd g x.natAbs := by simp [Int.gcd]

theorem prim1_calls {b : Bool} {xs : List Nat} {x : Int} {k g : Nat} {cc : PV} (h : Wn b xs x k) (hg : Z k (g : Int)) (h0 : g = 0 → x = 0) (hf : flat cc = true) (ho : oneP cc = true) (ha : isAny cc = false) (hv : ∀ H, view1 H cc = .sl (D g).length ((D g).map U)) :
    PT Try.prog 119 [WX b xs, .rp [.val (.bool false), cc]] (isV (WC (x / (g : Int)))) := by
  by_cases hz : g = 0
  · subst hz
    have hx := h0 rfl
    subst hx
    have hd := divZ h (Wn.C (k := k) (x := 0) (Z.zero k) h.hk)
    rw [show decide ((0 : Int) < 0) = false from rfl, show Int.natAbs 0 = 0 from rfl] at hd
    rw [Int.zero_ediv]
    refine PCalls.enter (n := 15) (rs := [.cell 3 30]) (tb := []) Try.func119 rfl rfl rfl (by kernel_rfl) (by kernel_rfl) (by simp) fun c hc ht => ?_
    simp -implicitDefEqProofs (disch := omega) only [go_sem, ht, hf, ho, ha, hv]
    (refine pCall_vw (by refine ⟨⟨?_, ?_⟩, ?_, ?_⟩; rotate_left 2; (first | (right; rintro r rfl; rfl) | left); all_goals ((try simp -implicitDefEqProofs (disch := omega) only [hf, ho, ha, hv, go_sem, ht]) <;> rfl)) (hd) ?_; rintro _ nx - rfl hnx; simp -implicitDefEqProofs (disch := omega) only [hf, ho, ha, hv, go_sem, ht])
    (refine end_treeM 2 ?_; simp -implicitDefEqProofs (disch := omega) only [go_sem, ht])
  · have hd := divW h (Wn.C hg h.hk) (by omega)
    rw [show decide ((g : Int) < 0) = false by simp, show Int.natAbs (g : Int) = g from rfl] at hd
    generalize x / (g : Int) = q at *
    generalize x % (g : Int) = r at *
    refine PCalls.enter (n := 15) (rs := [.cell 3 30]) (tb := []) Try.func119 rfl rfl rfl (by kernel_rfl) (by kernel_rfl) (by simp) fun c hc ht => ?_
    simp -implicitDefEqProofs (disch := omega) only [go_sem, ht, hf, ho, ha, hv]
    (refine pCall_vw (by refine ⟨⟨?_, ?_⟩, ?_, ?_⟩; rotate_left 2; (first | (right; rintro r rfl; rfl) | left); all_goals ((try simp -implicitDefEqProofs (disch := omega) only [hf, ho, ha, hv, go_sem, ht]) <;> rfl)) (hd) ?_; rintro _ nx - rfl hnx; simp -implicitDefEqProofs (disch := omega) only [hf, ho, ha, hv, go_sem, ht])
    (refine end_treeM 2 ?_; simp -implicitDefEqProofs (disch := omega) only [go_sem, ht])
theorem primitive_calls {l : List (Bool × List Nat)} {k : Nat} (h : Rn l k) (hlen : l.length ≤ 1000000) : PT Try.prog 90 [SW l] (isV (SW (CZ (primZ (vals l))))) := by
  have hgz : ∀ i, Z k (gcdF 0 ((vals l).take i) : Nat) := fun i => gcdF_le (Z.zero k) fun z hz => h.z z (List.mem_of_mem_take hz)
  have heach : ∀ cc : PV, flat cc = true → oneP cc = true → isAny cc = false → (∀ H, view1 H cc = .sl (D (gcdL (vals l))).length ((D (gcdL (vals l))).map U)) → PT Try.prog 68 [SW l, .fn 119 [.rp [.val (.bool false), cc]]] (isV (SW (CZ (primZ (vals l))))) := by
    intro cc hf ho ha hv
    refine each_w (by simp [flatL, flat, hf]) (fun H => rfl) hlen (by rw [primZ_len, vals_len]) fun i hi hi' => ?_
    have hw := h.wn hi
    have hg := hgz (vals l).length
    rw [List.take_length] at hg
    have := prim1_calls (g := gcdL (vals l)) hw hg (fun h0 => by
      rw [vc_lt (by rw [vals_len]; exact hi)]
      exact gcdL_zero.1 h0 _ (List.getElem_mem _)) hf ho ha hv
    rw [vc_lt (by rw [vals_len]; exact hi)] at this
    have e : (primZ (vals l))[i] = (vals l)[i]'(by rw [vals_len]; exact hi) / (gcdL (vals l) : Nat) := by simp only [primZ, List.getElem_map]
    rw [e]
    exact this
  refine PCalls.enter (n := 20) (rs := [.tmp 2]) (tb := []) Try.func90 rfl rfl rfl (by kernel_rfl) (by kernel_rfl) (by simp) fun c hc ht => ?_
  simp -implicitDefEqProofs (disch := omega) only [go_sem, ht]
  refine LW.loopG hc ht (by kernel_rfl) (fun t => t.sl 0 = .sl l.length (SWc l) ∧ t.sl 3 = .ptr 0 0 ∧ t.sl 7 = .sl l.length (SWc l) ∧ t.sl 8 = .val (.int .i64 l.length) ∧ 0 < t.nx ∧ ∃ i : Nat, i ≤ l.length ∧ t.sl 9 = .val (.int .i64 i) ∧ ∃ c, t.H 0 = some [.val (.bool false), c] ∧ flat c = true ∧ oneP c = true ∧ isAny c = false ∧ (∀ H, view1 H c = .sl (D (gcdF 0 ((vals l).take i))).length ((D (gcdF 0 ((vals l).take i))).map U)))
    (fun t => match t.sl 9 with | .val (.int _ k) => l.length - k.toNat | _ => 0) ?_ ?_
  · simp -implicitDefEqProofs (disch := omega) only [go_sem, ht]
    refine ⟨0, Nat.zero_le _, rfl, .val (.slice none 0 0), rfl, rfl, rfl, rfl, fun H => ?_⟩
    rw [List.take_zero, gcdF_nil, D_zero]; rfl
  · rintro t ⟨h0, h3, h7, h8, hnx, i, hi, h9, cc, hH, hf, ho, ha, hv⟩
    by_cases hil : i = l.length
    · subst hil
      have e1 : (vals l).take l.length = vals l := List.take_of_length_le (by rw [vals_len]; omega)
      rw [e1] at hv
      have hea := heach cc hf ho ha hv
      refine ⟨_, Gh.frzW 3 1 (q := .rp [.val (.bool false), cc]) (by simp -implicitDefEqProofs (disch := omega) only [go_sem, ht, h3, hH, hf]), ?_⟩
      simp -implicitDefEqProofs (disch := omega) only [go_sem, ht, h0, h3, h7, h8, h9]
      (refine pCall_vw (by refine ⟨⟨?_, ?_⟩, ?_, ?_⟩; rotate_left 2; (first | (right; rintro r rfl; rfl) | left); all_goals ((try simp -implicitDefEqProofs (disch := omega) only [hf, go_sem, ht]) <;> rfl)) (hea) ?_; rintro _ nx - rfl hnx; simp -implicitDefEqProofs (disch := omega) only [hf, go_sem, ht])
      (refine end_treeM 2 ?_; simp -implicitDefEqProofs (disch := omega) only [go_sem, ht])
    · have hlt : i < l.length := by omega
      have hat := SWc_at hlt
      have hw := h.wn hlt
      have hg := gcdW (Wn.C (hgz i) h.hk) hw
      have hst := gcdF_take (zs := vals l) (i := i) (by rw [vals_len]; exact hlt)
      rw [show decide (((gcdF 0 ((vals l).take i) : Nat) : Int) < 0) = false by simp, show Int.natAbs ((gcdF 0 ((vals l).take i) : Nat) : Int) = gcdF 0 ((vals l).take i) from rfl, gcd_natAbs, vc_lt (by rw [vals_len]; exact hlt), ← hst] at hg
      have hsg : decide (((gcdF 0 ((vals l).take (i + 1)) : Nat) : Int) < 0) = false := by simp
      obtain ⟨g2, e2⟩ : ∃ g2, gcdF 0 ((vals l).take (i + 1)) = g2 := ⟨_, rfl⟩
      rw [e2] at hg hsg
      clear hst
      generalize gcdF 0 ((vals l).take i) = g1 at *
      have eg : WC (g2 : Int) = .agg [.val (.bool false), .sl (D g2).length ((D g2).map U)] := by
        rw [WC_def, hsg]; rfl
      rw [eg] at hg
      refine ⟨t, Gh.refl t, ?_⟩
      simp -implicitDefEqProofs (disch := omega) only [go_sem, ht, h0, h3, h7, h8, h9, hat, hH, ho, ha]
      (refine pCall_vw (by refine ⟨⟨?_, ?_⟩, ?_, ?_⟩; rotate_left 2; (first | (right; rintro r rfl; rfl) | left); all_goals ((try simp -implicitDefEqProofs (disch := omega) only [h0, h3, h7, h8, h9, hat, hH, hf, ho, ha, hv, go_sem, ht]) <;> rfl)) (hg) ?_; rintro _ nx - rfl hnx; simp -implicitDefEqProofs (disch := omega) only [h0, h3, h7, h8, h9, hat, hH, hf, ho, ha, hv, go_sem, ht])
      refine ⟨⟨by omega, i + 1, by omega, rfl, .sl (D g2).length ((D g2).map U), rfl, flatL_U _, rfl, rfl, fun H => ?_⟩, by omega⟩
      rw [e2]; rfl

theorem Z.gcd {k : Nat} {x y : Int} (hx : Z k x) (hy : Z k y) : Z k (Int.gcd x y : Nat) := by
  by_cases h0 : x = 0
  · subst h0
    rw [Int.gcd_zero_left]
    exact Z.le hy (by simp)
  · refine Z.le hx ?_
    rw [Int.natAbs_natCast]
    exact Nat.le_of_dvd (by omega) (Nat.gcd_dvd_left _ _)
theorem combZ_take {a b : Int} {z p : List Int} {i : Nat} (hi : i < z.length) (hp : i < p.length) : (combZ a b z p).take (i + 1) = (combZ a b z p).take i ++ [a * z[i] - b * p[i]] := by
  rw [List.take_succ_eq_append_getElem (by simp [combZ]; omega)]
  simp [combZ]
theorem spl_W {l : List (Bool × List Nat)} {rest : List PV} {i : Nat} {x y : PV} (hi : i * 2 = (SWc l).length) : spl (SWc l ++ rest) (i * 2) [x, y] = SWc l ++ [x, y] ++ rest.drop 2 := by
  unfold spl
  rw [hi, List.take_left, List.drop_append]
  simp

theorem clear_calls {l p : List (Bool × List Nat)} {k c : Nat} (h : Rn l k) (hp : Rn p k) (hlp : l.length = p.length) (hc0 : c < l.length) (hlen : l.length ≤ 1000000) (hk : 2 * k + 1 ≤ 1000000) :
    PT Try.prog 91 [SW l, SW p, .val (.int .i64 c)] (isV (SW (if vc (vals l) c = 0 then l else CZ (clearZ (vals l) (vals p) c)))) := by
  have hat := SWc_at hc0
  have hat' := SWc_at (show c < p.length by omega)
  have w1 := h.wn hc0
  have w2 := hp.wn (show c < p.length by omega)
  have sg := signW w1
  by_cases h0 : vc (vals l) c = 0
  · rw [if_pos h0]
    rw [h0, cZ_eq rfl] at sg
    refine PCalls.enter (n := 79) (rs := [.tmp 6]) (tb := [(3, [(0, []), (1, []), (2, []), (3, []), (4, []), (5, []), (6, []), (7, []), (8, []), (9, [0, 1, 2, 3, 4, 5, 6, 7]), (10, [])]), (4, [(0, []), (1, []), (2, []), (3, []), (4, []), (5, []), (6, []), (7, []), (8, []), (9, []), (10, [0, 1, 2, 3, 4, 6, 7, 8, 9]), (11, [0, 1, 2, 3, 4, 6, 7, 8, 9]), (12, [8, 9]), (13, [9]), (14, [])]), (1000004, [(0, []), (0, []), (3, []), (7, []), (0, []), (31, []), (63, []), (127, []), (127, []), (127, []), (0, []), (0, []), (3327, []), (7679, []), (16383, [])]), (5, [(0, []), (1, []), (2, []), (3, []), (4, []), (5, []), (6, []), (7, []), (8, []), (9, []), (10, [0, 1, 2, 3, 4, 6, 7, 8, 9]), (11, [0, 1, 2, 3, 4, 6, 7, 8, 9]), (12, [8, 9]), (13, [9]), (14, [])]), (1000005, [(0, []), (0, []), (3, []), (7, []), (0, []), (31, []), (63, []), (127, []), (127, []), (127, []), (0, []), (0, []), (3327, []), (7679, []), (16383, [])]), (10, [(0, []), (1, []), (2, []), (3, []), (4, []), (5, []), (6, []), (8, []), (9, []), (10, []), (11, []), (12, []), (7, [0, 1, 8, 9, 10, 11, 12]), (13, [0, 1]), (14, [0, 1]), (15, []), (16, [])]), (1000010, [(0, []), (0, []), (0, []), (0, []), (0, []), (24, []), (56, []), (124, []), (0, []), (0, []), (0, []), (1536, []), (3584, []), (8188, []), (16380, []), (32767, []), (65535, [])])]) Try.func91 rfl rfl rfl (by kernel_rfl) (by kernel_rfl) (by simp) fun c hc ht => ?_
    simp -implicitDefEqProofs (disch := omega) only [go_sem, ht, hat]
    (refine pCall_vw (by refine ⟨⟨?_, ?_⟩, ?_, ?_⟩; rotate_left 2; (first | (right; rintro r rfl; rfl) | left); all_goals ((try simp -implicitDefEqProofs (disch := omega) only [hat, go_sem, ht]) <;> rfl)) (sg) ?_; rintro _ nx - rfl hnx; simp -implicitDefEqProofs (disch := omega) only [hat, go_sem, ht])
    (refine end_treeM 2 ?_; simp -implicitDefEqProofs (disch := omega) only [go_sem, ht])
  rw [if_neg h0]
  have hs0 : cZ (vc (vals l) c) 0 ≠ 0 := by unfold cZ; split <;> (try split) <;> omega
  have hcl : clearZ (vals l) (vals p) c = primZ (combZ (vc (vals p) c / (Int.gcd (vc (vals l) c) (vc (vals p) c) : Nat)) (vc (vals l) c / (Int.gcd (vc (vals l) c) (vc (vals p) c) : Nat)) (vals l) (vals p)) := by rw [clearZ, if_neg h0]
  rw [hcl]
  have gc := gcdW w1 w2
  have zg := w1.z.gcd w2.z
  have hg0 : ((Int.gcd (vc (vals l) c) (vc (vals p) c) : Nat) : Int) ≠ 0 := by
    have := Int.gcd_pos_of_ne_zero_left (vc (vals p) c) h0
    omega
  have wg := Wn.C zg h.hk
  have d1 := divW w2 wg hg0
  have d2 := divW w1 wg hg0
  have za : Z k (vc (vals p) c / (Int.gcd (vc (vals l) c) (vc (vals p) c) : Nat)) := w2.z.div
  have zb : Z k (vc (vals l) c / (Int.gcd (vc (vals l) c) (vc (vals p) c) : Nat)) := w1.z.div
  clear hcl hg0 wg zg w1 w2
  generalize vc (vals p) c / ((Int.gcd (vc (vals l) c) (vc (vals p) c) : Nat) : Int) = a at *
  generalize vc (vals l) c / ((Int.gcd (vc (vals l) c) (vc (vals p) c) : Nat) : Int) = b at *
  generalize vc (vals p) c % ((Int.gcd (vc (vals l) c) (vc (vals p) c) : Nat) : Int) = ra at *
  generalize vc (vals l) c % ((Int.gcd (vc (vals l) c) (vc (vals p) c) : Nat) : Int) = rb at *
  generalize ((Int.gcd (vc (vals l) c) (vc (vals p) c) : Nat) : Int) = g at *
  generalize cZ (vc (vals l) c) 0 = sc at *
  have zc : ∀ z ∈ combZ a b (vals l) (vals p), Z (2 * k + 1) z := fun z hz => by
    obtain ⟨i, hi, rfl⟩ := List.mem_iff_getElem.1 hz
    have hi' : i < l.length := by simp [combZ, vals_len] at hi; omega
    have z1 := h.z _ (List.getElem_mem (show i < (vals l).length by rw [vals_len]; exact hi'))
    have z2 := hp.z _ (List.getElem_mem (show i < (vals p).length by rw [vals_len]; omega))
    simp only [combZ, List.getElem_zipWith]
    have := (za.mul z1).sub (zb.mul z2)
    exact this.mono (by omega)
  have prm := primitive_calls (l := CZ (combZ a b (vals l) (vals p))) (k := 2 * k + 1) (.C zc hk) (by rw [CZ_len, combZ_len (by rw [vals_len, vals_len]; exact hlp), vals_len]; exact hlen)
  rw [vals_CZ] at prm
  have hrp := replW l.length
  have hrl := repl_len l.length [Value.bool false, Value.slice none 0 0]
  have hcl : (combZ a b (vals l) (vals p)).length = l.length := by rw [combZ_len (by rw [vals_len, vals_len]; exact hlp), vals_len]
  refine PCalls.enter (n := 79) (rs := [.tmp 6]) (tb := [(3, [(0, []), (1, []), (2, []), (3, []), (4, []), (5, []), (6, []), (7, []), (8, []), (9, [0, 1, 2, 3, 4, 5, 6, 7]), (10, [])]), (4, [(0, []), (1, []), (2, []), (3, []), (4, []), (5, []), (6, []), (7, []), (8, []), (9, []), (10, [0, 1, 2, 3, 4, 6, 7, 8, 9]), (11, [0, 1, 2, 3, 4, 6, 7, 8, 9]), (12, [8, 9]), (13, [9]), (14, [])]), (1000004, [(0, []), (0, []), (3, []), (7, []), (0, []), (31, []), (63, []), (127, []), (127, []), (127, []), (0, []), (0, []), (3327, []), (7679, []), (16383, [])]), (5, [(0, []), (1, []), (2, []), (3, []), (4, []), (5, []), (6, []), (7, []), (8, []), (9, []), (10, [0, 1, 2, 3, 4, 6, 7, 8, 9]), (11, [0, 1, 2, 3, 4, 6, 7, 8, 9]), (12, [8, 9]), (13, [9]), (14, [])]), (1000005, [(0, []), (0, []), (3, []), (7, []), (0, []), (31, []), (63, []), (127, []), (127, []), (127, []), (0, []), (0, []), (3327, []), (7679, []), (16383, [])]), (10, [(0, []), (1, []), (2, []), (3, []), (4, []), (5, []), (6, []), (8, []), (9, []), (10, []), (11, []), (12, []), (7, [0, 1, 8, 9, 10, 11, 12]), (13, [0, 1]), (14, [0, 1]), (15, []), (16, [])]), (1000010, [(0, []), (0, []), (0, []), (0, []), (0, []), (24, []), (56, []), (124, []), (0, []), (0, []), (0, []), (1536, []), (3584, []), (8188, []), (16380, []), (32767, []), (65535, [])])]) Try.func91 rfl rfl rfl (by kernel_rfl) (by kernel_rfl) (by simp) fun c hc ht => ?_
  simp -implicitDefEqProofs (disch := omega) only [go_sem, ht, hat]
  ((refine pCall_vw (by refine ⟨⟨?_, ?_⟩, ?_, ?_⟩; rotate_left 2; (first | (right; rintro r rfl; rfl) | left); all_goals ((try simp -implicitDefEqProofs (disch := omega) only [hat, hat', go_sem, ht]) <;> rfl)) (sg) ?_; rintro _ nx_1 - rfl hnx_1; simp -implicitDefEqProofs (disch := omega) only [hat, hat', go_sem, ht]); (refine pCall_vw (by refine ⟨⟨?_, ?_⟩, ?_, ?_⟩; rotate_left 2; (first | (right; rintro r rfl; rfl) | left); all_goals ((try simp -implicitDefEqProofs (disch := omega) only [hat, hat', go_sem, ht]) <;> rfl)) (gc) ?_; rintro _ nx_2 - rfl hnx_2; simp -implicitDefEqProofs (disch := omega) only [hat, hat', go_sem, ht]); (refine pCall_vw (by refine ⟨⟨?_, ?_⟩, ?_, ?_⟩; rotate_left 2; (first | (right; rintro r rfl; rfl) | left); all_goals ((try simp -implicitDefEqProofs (disch := omega) only [hat, hat', go_sem, ht]) <;> rfl)) (d1) ?_; rintro _ nx_3 - rfl hnx_3; simp -implicitDefEqProofs (disch := omega) only [hat, hat', go_sem, ht]); (refine pCall_vw (by refine ⟨⟨?_, ?_⟩, ?_, ?_⟩; rotate_left 2; (first | (right; rintro r rfl; rfl) | left); all_goals ((try simp -implicitDefEqProofs (disch := omega) only [hat, hat', go_sem, ht]) <;> rfl)) (d2) ?_; rintro _ nx_4 - rfl hnx_4; simp -implicitDefEqProofs (disch := omega) only [hat, hat', go_sem, ht]))
  generalize nx_4 = n4 at *
  refine LW.loopW hc ht (by kernel_rfl) (fun t => t.sl 0 = .sl l.length (SWc l) ∧ t.sl 1 = .sl p.length (SWc p) ∧ t.sl 8 = .ptr nx_3 0 ∧ t.sl 11 = .ptr n4 0 ∧ t.sl 14 = .ref (n4 + 1 + 1) 0 l.length l.length 2 ∧ t.sl 56 = .val (.int .i64 l.length) ∧ n4 + 1 + 1 < t.nx ∧
      t.H nx_3 = some [.val (.bool (decide (a < 0))), .sl (D a.natAbs).length ((D a.natAbs).map U)] ∧ t.H n4 = some [.val (.bool (decide (b < 0))), .sl (D b.natAbs).length ((D b.natAbs).map U)] ∧ ∃ i : Nat, i ≤ l.length ∧ t.sl 57 = .val (.int .i64 i) ∧ ∃ rest : List Value, t.H (n4 + 1 + 1) = some (SWc (CZ ((combZ a b (vals l) (vals p)).take i)) ++ rest.map .val) ∧ i * 2 + rest.length = l.length * 2)
    (fun t => match t.sl 57 with | .val (.int _ k) => l.length - k.toNat | _ => 0) ?_ ?_
  · simp -implicitDefEqProofs (disch := omega) only [go_sem, ht]
    exact ⟨by omega, 0, Nat.zero_le _, rfl, repl l.length [Value.bool false, Value.slice none 0 0], by rw [hrp]; rfl, by rw [hrl]; simp⟩
  · rintro t ⟨h0', h1, h8, h11, h14, h56, hnx, hHa, hHb, i, hi, h57, rest, hH, hr⟩
    by_cases hil : i = l.length
    · subst hil
      have e1 : (combZ a b (vals l) (vals p)).take l.length = combZ a b (vals l) (vals p) := List.take_of_length_le (by rw [hcl]; omega)
      have er : rest = [] := List.eq_nil_of_length_eq_zero (by omega)
      subst er
      rw [e1, List.map_nil, List.append_nil] at hH
      have hl2 := SWc_len (CZ (combZ a b (vals l) (vals p)))
      have hl3 : (CZ (combZ a b (vals l) (vals p))).length = l.length := by rw [CZ_len, hcl]
      rw [SW_def, hl3] at prm
      have htk : List.take (l.length * 2) (SWc (CZ (combZ a b (vals l) (vals p)))) = SWc (CZ (combZ a b (vals l) (vals p))) := List.take_of_length_le (by omega)
      generalize CZ (combZ a b (vals l) (vals p)) = cz at *
      simp -implicitDefEqProofs (disch := omega) only [go_sem, ht, h0', h1, h8, h11, h14, h56, h57]
      have hle : l.length * 2 ≤ 2 * cz.length := by omega
      (refine pCall_frz (fun _ => true) 1 (by simp -implicitDefEqProofs (disch := omega) only [hH, htk, hle, go_sem, ht] <;> rfl) (by simp -implicitDefEqProofs (disch := omega) only [hH, htk, hle, go_sem, ht]) (by simp -implicitDefEqProofs (disch := omega) only [hH, htk, hle, go_sem, ht] <;> rfl) (by simp -implicitDefEqProofs (disch := omega) only [hH, htk, hle, go_sem, ht]) (prm) ?_; rintro _ nx - rfl hnx; (try simp only [put_nx, withH_nx, begP_nx] at hnx); simp -implicitDefEqProofs (disch := omega) only [hH, htk, hle, go_sem, ht])
      (refine end_treeM 2 ?_; simp -implicitDefEqProofs (disch := omega) only [go_sem, ht])
    · have hlt : i < l.length := by omega
      have hlt' : i < p.length := by omega
      have ha1 := SWc_at hlt
      have ha2 := SWc_at hlt'
      have m1 := mulW (Wn.C za h.hk) (h.wn hlt)
      have m2 := mulW (Wn.C zb h.hk) (hp.wn hlt')
      have zm1 := za.mul (h.wn hlt).z
      have zm2 := zb.mul (hp.wn hlt').z
      have s1 := subW (Wn.C zm1 (by omega)) (Wn.C zm2 (by omega))
      have hst := combZ_take (a := a) (b := b) (z := vals l) (p := vals p) (i := i) (by rw [vals_len]; exact hlt) (by rw [vals_len]; exact hlt')
      rw [← vc_lt (z := vals l), ← vc_lt (z := vals p)] at hst
      have hln : i * 2 = (SWc (CZ ((combZ a b (vals l) (vals p)).take i))).length := by rw [SWc_len, CZ_len, List.length_take]; omega
      clear zm1 zm2
      generalize a * vc (vals l) i = x1 at *
      generalize b * vc (vals p) i = x2 at *
      obtain ⟨x3, e3⟩ : ∃ x3, x1 - x2 = x3 := ⟨_, rfl⟩
      rw [e3] at s1 hst
      have hspl := spl_W (rest := rest.map .val) (x := .val (.bool (decide (x3 < 0)))) (y := .sl (D x3.natAbs).length ((D x3.natAbs).map U)) hln
      have hstW : SWc (CZ ((combZ a b (vals l) (vals p)).take (i + 1))) = SWc (CZ ((combZ a b (vals l) (vals p)).take i)) ++ [.val (.bool (decide (x3 < 0))), .sl (D x3.natAbs).length ((D x3.natAbs).map U)] := by
        rw [hst, CZ_app, SWc_app]; rfl
      simp -implicitDefEqProofs (disch := omega) only [go_sem, ht, h0', h1, h8, h11, h14, h56, h57, hHa, hHb, ha1, ha2]
      ((refine pCall_vw (by refine ⟨⟨?_, ?_⟩, ?_, ?_⟩; rotate_left 2; (first | (right; rintro r rfl; rfl) | left); all_goals ((try simp -implicitDefEqProofs (disch := omega) only [h0', h1, h8, h11, h14, h56, h57, hHa, hHb, ha1, ha2, hH, hspl, go_sem, ht]) <;> rfl)) (m1) ?_; rintro _ nx_5 - rfl hnx_5; simp -implicitDefEqProofs (disch := omega) only [h0', h1, h8, h11, h14, h56, h57, hHa, hHb, ha1, ha2, hH, hspl, go_sem, ht]); (refine pCall_vw (by refine ⟨⟨?_, ?_⟩, ?_, ?_⟩; rotate_left 2; (first | (right; rintro r rfl; rfl) | left); all_goals ((try simp -implicitDefEqProofs (disch := omega) only [h0', h1, h8, h11, h14, h56, h57, hHa, hHb, ha1, ha2, hH, hspl, go_sem, ht]) <;> rfl)) (m2) ?_; rintro _ nx_6 - rfl hnx_6; simp -implicitDefEqProofs (disch := omega) only [h0', h1, h8, h11, h14, h56, h57, hHa, hHb, ha1, ha2, hH, hspl, go_sem, ht]); (refine pCall_vw (by refine ⟨⟨?_, ?_⟩, ?_, ?_⟩; rotate_left 2; (first | (right; rintro r rfl; rfl) | left); all_goals ((try simp -implicitDefEqProofs (disch := omega) only [h0', h1, h8, h11, h14, h56, h57, hHa, hHb, ha1, ha2, hH, hspl, go_sem, ht]) <;> rfl)) (s1) ?_; rintro _ nx_7 - rfl hnx_7; simp -implicitDefEqProofs (disch := omega) only [h0', h1, h8, h11, h14, h56, h57, hHa, hHb, ha1, ha2, hH, hspl, go_sem, ht]))
      have hln2 : (CZ ((combZ a b (vals l) (vals p)).take i)).length = i := by rw [CZ_len, List.length_take]; omega
      refine ⟨by omega, ⟨by omega, i + 1, by omega, rfl, rest.drop 2, ?_, by rw [List.length_drop]; omega⟩, by omega⟩
      rw [hstW, ← List.map_drop]
def zeroB (zs : List Int) : Bool := decide (∀ z ∈ zs, z = 0)
def sgF (t : Int) (zs : List Int) : Int := zs.foldl (fun t x => if t = 0 then cZ x 0 else t) t
theorem sgF_take {t : Int} {zs : List Int} {i : Nat} (h : i < zs.length) : sgF t (zs.take (i + 1)) = if sgF t (zs.take i) = 0 then cZ zs[i] 0 else sgF t (zs.take i) := by
  rw [List.take_succ_eq_append_getElem h, sgF, List.foldl_append]; rfl
def upZ (zs : List Int) : List Int := if sgF 0 zs < 0 then zs.map (- ·) else zs
theorem upZ_len (zs : List Int) : (upZ zs).length = zs.length := by unfold upZ; split <;> simp
theorem up_calls {l : List (Bool × List Nat)} {k : Nat} (h : Rn l k) (hlen : l.length ≤ 1000000) : PT Try.prog 92 [SW l] (isV (SW (CZ (upZ (vals l))))) := by
  have e1 : PT Try.prog 68 [SW l, .fn 35 []] (isV (SW (CZ ((vals l).map (- ·))))) := by
    refine each_w rfl (fun H => rfl) hlen (by simp [vals_len]) fun i hi hi' => ?_
    have := negW (h.wn hi)
    rw [vc_lt (by rw [vals_len]; exact hi)] at this
    simpa using this
  have e2 : PT Try.prog 68 [SW l, .fn 34 []] (isV (SW (CZ (vals l)))) := by
    refine each_w rfl (fun H => rfl) hlen (by simp [vals_len]) fun i hi hi' => ?_
    have := trimW (h.wn hi)
    rwa [vc_lt (by rw [vals_len]; exact hi)] at this
  refine PCalls.enter (n := 23) (rs := [.tmp 2]) (tb := []) Try.func92 rfl rfl rfl (by kernel_rfl) (by kernel_rfl) (by simp) fun c hc ht => ?_
  simp -implicitDefEqProofs (disch := omega) only [go_sem, ht]
  refine LW.loopW hc ht (by kernel_rfl) (fun t => t.sl 0 = .sl l.length (SWc l) ∧ t.sl 6 = .sl l.length (SWc l) ∧ t.sl 7 = .val (.int .i64 l.length) ∧ ∃ i : Nat, i ≤ l.length ∧ t.sl 8 = .val (.int .i64 i) ∧ t.sl 3 = .val (.int .i64 (sgF 0 ((vals l).take i))))
    (fun t => match t.sl 8 with | .val (.int _ k) => l.length - k.toNat | _ => 0) ?_ ?_
  · simp -implicitDefEqProofs (disch := omega) only [go_sem, ht]
    exact ⟨0, Nat.zero_le _, rfl, rfl⟩
  · rintro t ⟨h0, h6, h7, i, hi, h8, h3⟩
    by_cases hil : i = l.length
    · subst hil
      rw [List.take_of_length_le (by rw [vals_len]; omega)] at h3
      unfold upZ
      by_cases hs : sgF 0 (vals l) < 0
      · rw [if_pos hs]
        generalize sgF 0 (vals l) = s at *
        simp -implicitDefEqProofs (disch := omega) only [go_sem, ht, h0, h6, h7, h8, h3]
        (refine pCall_vw (by refine ⟨⟨?_, ?_⟩, ?_, ?_⟩; rotate_left 2; (first | (right; rintro r rfl; rfl) | left); all_goals ((try simp -implicitDefEqProofs (disch := omega) only [h0, go_sem, ht]) <;> rfl)) (e1) ?_; rintro _ nx - rfl hnx; simp -implicitDefEqProofs (disch := omega) only [h0, go_sem, ht])
        (refine end_treeM 2 ?_; simp -implicitDefEqProofs (disch := omega) only [go_sem, ht])
      · rw [if_neg hs]
        generalize sgF 0 (vals l) = s at *
        simp -implicitDefEqProofs (disch := omega) only [go_sem, ht, h0, h6, h7, h8, h3]
        (refine pCall_vw (by refine ⟨⟨?_, ?_⟩, ?_, ?_⟩; rotate_left 2; (first | (right; rintro r rfl; rfl) | left); all_goals ((try simp -implicitDefEqProofs (disch := omega) only [h0, go_sem, ht]) <;> rfl)) (e2) ?_; rintro _ nx - rfl hnx; simp -implicitDefEqProofs (disch := omega) only [h0, go_sem, ht])
        (refine end_treeM 2 ?_; simp -implicitDefEqProofs (disch := omega) only [go_sem, ht])
    · have hlt : i < l.length := by omega
      have hat := SWc_at hlt
      have hs := signW (h.wn hlt)
      have hst := sgF_take (t := 0) (zs := vals l) (i := i) (by rw [vals_len]; exact hlt)
      rw [← vc_lt (z := vals l)] at hst
      obtain ⟨s2, es2⟩ : ∃ s2, sgF 0 ((vals l).take (i + 1)) = s2 := ⟨_, rfl⟩
      rw [es2] at hst
      generalize sgF 0 ((vals l).take i) = s1 at *
      generalize cZ (vc (vals l) i) 0 = sx at *
      by_cases h10 : s1 = 0
      · rw [if_pos h10] at hst
        simp -implicitDefEqProofs (disch := omega) only [go_sem, ht, h0, h6, h7, h8, h3, hat]
        (refine pCall_vw (by refine ⟨⟨?_, ?_⟩, ?_, ?_⟩; rotate_left 2; (first | (right; rintro r rfl; rfl) | left); all_goals ((try simp -implicitDefEqProofs (disch := omega) only [h0, h6, h7, h8, h3, hat, go_sem, ht]) <;> rfl)) (hs) ?_; rintro _ nx - rfl hnx; simp -implicitDefEqProofs (disch := omega) only [h0, h6, h7, h8, h3, hat, go_sem, ht])
        exact ⟨⟨i + 1, by omega, rfl, by rw [es2, hst]⟩, by omega⟩
      · rw [if_neg h10] at hst
        simp -implicitDefEqProofs (disch := omega) only [go_sem, ht, h0, h6, h7, h8, h3, hat]
        exact ⟨⟨i + 1, by omega, rfl, by rw [es2, hst]⟩, by omega⟩
end Go.Proofs.Ytfjdfnlkobeehaa
end

section
set_option maxRecDepth 100000
set_option linter.unusedVariables false
set_option linter.unusedSimpArgs false
namespace Go.Proofs.Ytfjdfnlkobeehaa

theorem frz_fn (D : Nat → Bool) (H : Nat → Option (List PV)) (d : Nat) (f : FuncId) (cs : List PV) : Ytfjdfnlkobeehaa.frz D H (d + 1) (.fn f cs) = if flatL cs = true then some (.fn f cs) else none := rfl
attribute [go_sem] frz_fn
theorem SM_flat (m : List (List (Bool × List Nat))) : flatL (m.map SW) = true := by
  induction m with
  | nil => rfl
  | cons l m ih => simp only [List.map_cons, flatL, SW_def, flat, SWc_flat, ih, Bool.and_self]
theorem get_SM {m : List (List (Bool × List Nat))} {i : Nat} (r : List PV) (h : i < m.length) : (m.map SW ++ r)[i]? = some (SW (m.getD i [])) := by
  rw [List.getElem?_append_left (by simpa using h)]
  simp [h]
theorem get_SM' {m : List (List (Bool × List Nat))} {i : Nat} (h : i < m.length) : (m.map SW)[i]? = some (SW (m.getD i [])) := by simp [h]
theorem drop_SM {m : List (List (Bool × List Nat))} {i : Nat} (h : i < m.length) : (m.map SW).drop (i * 1) = SW (m.getD i []) :: (m.drop (i + 1)).map SW := by
  rw [Nat.mul_one, ← List.map_drop, List.drop_eq_getElem_cons h, List.map_cons]
  simp [h]
theorem set_SM {m : List (List (Bool × List Nat))} {i : Nat} {l : List (Bool × List Nat)} {n : Nat} (r : List PV) (h : i < m.length) (hn : n = l.length) : spl (m.map SW ++ r) i [.sl n (SWc l)] = (m.set i l).map SW ++ r := by
  subst hn
  unfold spl
  simp only [List.length_singleton]
  rw [List.take_append_of_le_length (by simpa using Nat.le_of_lt h), List.drop_append_of_le_length (by simp; omega), List.set_eq_take_append_cons_drop, if_pos h]
  simp [SW_def]
attribute [go_sem] SM_def SM_flat get_SM
theorem repl_nil (n : Nat) : repl n [PV.val (.slice none 0 0)] = ((repl n [Value.slice none 0 0]).map .val) := by
  unfold repl
  induction n with
  | zero => rfl
  | succ n ih => simp only [List.replicate_succ, List.flatten_cons, List.map_append, ih]; rfl
theorem getD_take {α : Type} {l : List α} {i : Nat} {d : α} (h : i < l.length) : l.take (i + 1) = l.take i ++ [l.getD i d] := by
  rw [List.take_succ_eq_append_getElem h]; simp [h]


theorem each_r {m m' : List (List (Bool × List Nat))} {f : FuncId} (hlen : m.length ≤ 1000000) (hz : m'.length = m.length) (h : ∀ i, i < m.length → PT Try.prog f [SW (m.getD i [])] (isV (SW (m'.getD i [])))) :
    PO1 Try.prog 66 [SM m, .fn f []] (fun p => p) (m'.map SW) := by
  have hrp := repl_nil m.length
  have hrl := repl_len m.length [Value.slice none 0 0]
  refine PCalls.enter (n := 25) (rs := [.tmp 4]) (tb := []) Try.func66 rfl rfl rfl (by kernel_rfl) (by kernel_rfl) (by simp) fun c hc ht => ?_
  simp -implicitDefEqProofs (disch := omega) only [go_sem, ht]
  refine LW.loopW hc ht (by kernel_rfl) (fun t => t.sl 1 = .fn f [] ∧ t.sl 11 = .sl m.length (m.map SW) ∧ t.sl 12 = .val (.int .i64 m.length) ∧ ∃ i : Nat, i ≤ m.length ∧ t.sl 13 = .val (.int .i64 i) ∧ ∃ (id cap : Nat) (rest : List Value), t.sl 5 = .ref id 0 i cap 1 ∧ t.H id = some ((m'.take i).map SW ++ rest.map .val) ∧ i + rest.length = cap ∧ id < t.nx)
    (fun t => match t.sl 13 with | .val (.int _ k) => m.length - k.toNat | _ => 0) ?_ ?_
  · simp -implicitDefEqProofs (disch := omega) only [go_sem, ht]
    refine ⟨0, Nat.zero_le _, rfl, 0, m.length, repl m.length [Value.slice none 0 0], rfl, ?_, by rw [hrl]; simp, by omega⟩
    rw [upd_self, hrp]; rfl
  · rintro t ⟨h1, h11, h12, i, hi, h13, id, cap, rest, h5, hH, hcap, hid⟩
    by_cases hil : i = m.length
    · subst hil
      have htk : m'.take m.length = m' := List.take_of_length_le (by omega)
      rw [htk] at hH
      simp -implicitDefEqProofs (disch := omega) only [go_sem, ht, h1, h5, h11, h12, h13]
      exact end_own1 (mk := fun p => p) (by simp -implicitDefEqProofs (disch := omega) only [go_sem, ht, hz] <;> rfl) (by simp -implicitDefEqProofs (disch := omega) only [go_sem, ht, hH] <;> rfl) (by simp; omega) (by simp; omega)
    · have hlt : i < m.length := by omega
      have hlt' : i < m'.length := by omega
      have hd := drop_SM hlt
      have hel := h i hlt
      have hst : (m'.take i).map SW ++ [.sl (m'.getD i []).length (SWc (m'.getD i []))] = (m'.take (i + 1)).map SW := by
        rw [getD_take (d := []) hlt', List.map_append]; rfl
      have hgi := get_SM' hlt
      generalize m.getD i [] = l0 at *
      generalize m'.getD i [] = l1 at *
      simp -implicitDefEqProofs (disch := omega) only [go_sem, ht, h1, h5, h11, h12, h13, hgi]
      refine ⟨f, [], rfl, ?_⟩
      (refine pCall_vw (by refine ⟨⟨?_, ?_⟩, ?_, ?_⟩; rotate_left 2; (first | (right; rintro r rfl; rfl) | left); all_goals ((try simp -implicitDefEqProofs (disch := omega) only [h1, h5, h11, h12, h13, List.append_nil, go_sem, ht]) <;> rfl)) (hel) ?_; rintro _ nx - rfl hnx; simp -implicitDefEqProofs (disch := omega) only [h1, h5, h11, h12, h13, List.append_nil, go_sem, ht])
      have hne : id ≠ nx := by omega
      have hln : ((m'.take i).map SW).length = i := by simp; omega
      (refine append_ownX (by refine ⟨?_, ?_, ?_, ?_, ?_, ?_, ?_, ?_⟩ <;> (simp -implicitDefEqProofs (disch := omega) only [srcP_ref, srcP_sl, srcP_nil, Option.isSome_some, hH, go_sem, ht] <;> rfl)) (by simp <;> omega) (by first | assumption | (simp <;> omega)) (by first | rfl | simp) (by first | omega | (simp <;> omega)) ?_; intro id1 cap1 rest1 H1 nx1 hH1 hcap1 hid1 hnx1 hfr1 hfs1; simp only [put_nx, withH_nx, put_H, withH_H] at hid1 hnx1 hfr1 hfs1; (try simp only [app_U, ← List.map_append] at hH1))
      rw [hst] at hH1
      simp -implicitDefEqProofs (disch := omega) only [go_sem, ht, h1, h11, h12, h13]
      exact ⟨⟨i + 1, by omega, rfl, id1, cap1, rest1, rfl, hH1, by omega, by omega⟩, by omega⟩

theorem getD_CZ {W : List (List Int)} {i : Nat} (h : i < W.length) : (W.map CZ).getD i [] = CZ (W.getD i []) := by simp [h]
theorem CZ_at {z : List Int} {c : Nat} (h : c < z.length) : (SWc (CZ z)).drop (c * 2) = .val (.bool (decide (vc z c < 0))) :: SU (D (vc z c).natAbs) :: SWc (CZ (z.drop (c + 1))) := by
  rw [SWc_at (by rw [CZ_len]; exact h), vc_lt h]
  simp only [CZ, List.getElem_map, toC, List.map_drop]

def part (V W : List (List Int)) (k : Nat) : List (List Int) := V.take k ++ W.drop k
theorem part_len {V W : List (List Int)} {k : Nat} (h : V.length = W.length) (hk : k ≤ W.length) : (part V W k).length = W.length := by simp [part]; omega
theorem part_get {V W : List (List Int)} {k i : Nat} (h : V.length = W.length) (hk : k ≤ W.length) : (part V W k).getD i [] = if i < k then V.getD i [] else W.getD i [] := by
  unfold part
  simp only [List.getD_eq_getElem?_getD]
  split
  · rw [List.getElem?_append_left (by simp; omega), List.getElem?_take, if_pos (by assumption)]
  · rw [List.getElem?_append_right (by simp; omega), List.getElem?_drop]
    congr 2
    simp; omega
theorem part_set {V W : List (List Int)} {k : Nat} (h : V.length = W.length) (hk : k < W.length) : (part V W k).set k (V.getD k []) = part V W (k + 1) := by
  unfold part
  rw [List.set_append_right _ _ (by rw [List.length_take]; omega), List.length_take, show k - min k V.length = 0 by omega, List.drop_eq_getElem_cons hk, List.set_cons_zero, getD_take (l := V) (d := []) (by omega), List.append_assoc]
  rfl
theorem part_same {V W : List (List Int)} {k : Nat} (h : V.length = W.length) (hk : k < W.length) (e : V.getD k [] = W.getD k []) : part V W k = part V W (k + 1) := by
  rw [← part_set h hk, e]
  have : (part V W k).getD k [] = W.getD k [] := by rw [part_get h (by omega), if_neg (by omega)]
  rw [← this]
  have hl := part_len h (show k ≤ W.length by omega)
  rw [List.getD_eq_getElem?_getD, List.getElem?_eq_getElem (by omega)]
  simp
theorem findP_eq {W : List (List Int)} {c i : Nat} (h : i < W.length) : findP W c i = if vc (W.getD i []) c ≠ 0 then i else findP W c (i + 1) := by
  conv => lhs; rw [findP]
  rw [dif_pos h]
theorem findP_end {W : List (List Int)} {c i : Nat} (h : W.length ≤ i) : findP W c i = W.length := by
  rw [findP, dif_neg (by omega)]

section
variable {m : List (List (Bool × List Nat))} {cols K B : Nat}

def echT (rz : List (List Int)) (cols : Nat) : List (List Int) := ((echW rz cols).1.take (echW rz cols).2.length).map upZ
set_option maxHeartbeats 4000000 in
theorem echelon_calls (hm : ∀ l ∈ m, Rn l K ∧ l.length = cols) (hcols : cols ≤ 1000) (hlen : m.length ≤ 10000) (hEZ : ∀ c, EZ 4294967296 B m.length cols (echW (m.map vals) c)) (hsh : ∀ c k, k < m.length → ∀ x ∈ (echW (m.map vals) c).1.getD k [], Z (B + 1) x) (hB : 2 * (B + 1) + 1 ≤ 1000000) :
    PT Try.prog 53 [SM m, .val (.int .i64 cols)] (isV (.tup [SM ((echT (m.map vals) cols).map CZ), .sl (echW (m.map vals) cols).2.length ((echW (m.map vals) cols).2.map Ref.I)])) := by
  have heach : PO1 Try.prog 66 [SM m, .fn 90 []] (fun p => p) ((((m.map vals).map primZ).map CZ).map SW) := by
    refine each_r (by omega) (by simp) fun i hi => ?_
    have hl := hm (m.getD i []) (by simp [hi])
    have := primitive_calls hl.1 (by omega)
    have e : ((((m.map vals).map primZ).map CZ)).getD i [] = CZ (primZ (vals (m.getD i []))) := by simp [hi]
    rw [e]; exact this
  refine PCalls.enter (n := 83) (rs := [.tmp 4, .tmp 5]) (tb := [(11, [(0, []), (1, []), (2, []), (3, []), (4, []), (5, []), (6, []), (7, []), (8, []), (9, []), (10, []), (11, []), (12, []), (13, [2, 3]), (14, []), (15, [])]), (1000011, [(0, []), (0, []), (0, []), (0, []), (0, []), (0, []), (48, []), (112, []), (0, []), (0, []), (768, []), (1792, []), (4083, []), (8179, []), (16383, []), (32767, [])]), (16, [(0, []), (1, []), (2, []), (3, []), (4, []), (5, []), (6, []), (7, []), (8, []), (9, []), (10, []), (11, [0, 1]), (12, []), (13, [])]), (1000016, [(0, []), (0, []), (0, []), (0, []), (12, []), (28, []), (0, []), (0, []), (192, []), (448, []), (0, []), (2044, []), (4095, []), (8191, [])])]) Try.func53 rfl rfl rfl (by kernel_rfl) (by kernel_rfl) (by simp) fun c hc ht => ?_
  simp -implicitDefEqProofs (disch := omega) only [go_sem, ht]
  (refine pCall_ownF (mk := fun p => p) (mk_id) (by simp -implicitDefEqProofs (disch := omega) only [go_sem, ht] <;> rfl) (by simp -implicitDefEqProofs (disch := omega) only [go_sem, ht]) (by simp -implicitDefEqProofs (disch := omega) only [go_sem, ht]) (SM_flat _) (heach) ?_; intro id1 cap1 rest1 nx1 hid1 hnx1 hcap1; simp only [put_nx, withH_nx, begP_nx, List.length_map] at hid1 hcap1; simp -implicitDefEqProofs (disch := omega) only [go_sem, ht])
  refine LW.ghost (Gh.nilW 7 1 (by simp -implicitDefEqProofs (disch := omega) only [go_sem, ht])) ?_
  refine LW.loopW hc ht (by kernel_rfl) (fun t => t.sl 14 = .val (.int .i64 cols) ∧ t.sl 6 = .ref id1 0 m.length cap1 1 ∧ id1 < t.nx ∧ ∃ c : Nat, c ≤ cols ∧ t.sl 15 = .val (.int .i64 c) ∧ t.H id1 = some ((((echW (m.map vals) c).1.map CZ).map SW) ++ rest1.map .val) ∧
      ∃ (ip cp : Nat) (rp : List Value), t.sl 7 = .ref ip 0 (echW (m.map vals) c).2.length cp 1 ∧ t.H ip = some ((echW (m.map vals) c).2.map Ref.I ++ rp.map .val) ∧ (echW (m.map vals) c).2.length + rp.length = cp ∧ ip < t.nx ∧ ip ≠ id1)
    (fun t => match t.sl 15 with | .val (.int _ k) => cols - k.toNat | _ => 0) ?_ ?_
  · simp -implicitDefEqProofs (disch := omega) only [go_sem, ht]
    refine ⟨0, Nat.zero_le _, rfl, rfl, nx1, 0, [], rfl, upd_self _ _ _, rfl, by omega, by omega⟩
  · rintro t ⟨h14, h6, hid, c, hcc, h15, hH, ip, cp, rp, h7, hHp, hcp, hip, hne⟩
    by_cases hcl : c = cols
    · subst hcl
      have E := hEZ c
      have hrow := E.row
      have hlW := E.len
      have hshc := hsh c
      have htle : (echW (m.map vals) c).2.length ≤ m.length := by
        obtain ⟨O, κ, hE, _⟩ := E.st
        exact hE.tle
      unfold echT
      generalize (echW (m.map vals) c).1 = W at *
      generalize (echW (m.map vals) c).2 = Pv at *
      have hup : PO1 Try.prog 66 [SM ((W.take Pv.length).map CZ), .fn 92 []] (fun p => p) ((((W.take Pv.length).map upZ).map CZ).map SW) := by
        refine each_r (by simp; omega) (by simp) fun i hi => ?_
        have hi1 : i < (W.take Pv.length).length := by simpa using hi
        have hi2 : i < W.length := by simp at hi1; omega
        have e1 : ((W.take Pv.length).map CZ).getD i [] = CZ (W.getD i []) := by
          rw [getD_CZ hi1]; congr 1
          simp only [List.getD_eq_getElem?_getD, List.getElem?_take]
          rw [if_pos (by simp at hi1; omega)]
        have e2 : (((W.take Pv.length).map upZ).map CZ).getD i [] = CZ (upZ (W.getD i [])) := by
          rw [getD_CZ (by simpa using hi)]; congr 1
          simp only [List.getD_eq_getElem?_getD, List.getElem?_map, List.getElem?_take]
          rw [if_pos (by simp at hi1; omega), List.getElem?_eq_getElem hi2]; rfl
        rw [e1, e2]
        have := up_calls (l := CZ (W.getD i [])) (k := B + 1) (.C (hshc i (by omega)) (by omega)) (by rw [CZ_len, (hrow i (by omega)).1]; omega)
        rwa [vals_CZ] at this
      have hupt := PO1.tree mk_id (SM_flat _) hup
      have htk : List.take Pv.length ((W.map CZ).map SW ++ rest1.map .val) = ((W.take Pv.length).map CZ).map SW := by
        rw [List.take_append_of_le_length (by simp; omega), ← List.map_take, ← List.map_take]
      have hml : ((W.take Pv.length).map CZ).length = Pv.length := by simp; omega
      rw [SM_def, hml] at hupt
      have hWl : ((W.map CZ).map SW).length = m.length := by simp; exact hlW
      have hfl := SM_flat ((W.take Pv.length).map CZ)
      have hfl2 := frzL_flat (fun _ => true) t.H 0 hfl
      have hout : ((((W.take Pv.length).map upZ).map CZ).map SW).length = (((W.take Pv.length).map upZ).map CZ).length := by simp
      rw [hout] at hupt
      have hm2 : (((W.take Pv.length).map upZ).map CZ).length = (W.take Pv.length).length := by simp
      generalize ((W.take Pv.length).map CZ).map SW = c1 at *
      generalize ((W.take Pv.length).map upZ).map CZ = m2 at *
      have hif : (if cap1 = 0 then 0 else 0) = 0 := by simp
      have hle : Pv.length ≤ W.length + rest1.length := by omega
      have hPl : (Pv.map Ref.I).length = Pv.length := by simp
      simp -implicitDefEqProofs (disch := omega) only [go_sem, ht, h14, h6, h15, h7, hif]
      (refine pCall_frzAll (by simp -implicitDefEqProofs (disch := omega) only [h14, h6, h15, h7, hH, hHp, htk, hif, hfl2, hfl, hle, go_sem, ht] <;> rfl) (by simp -implicitDefEqProofs (disch := omega) only [h14, h6, h15, h7, hH, hHp, htk, hif, hfl2, hfl, hle, go_sem, ht]) (by simp -implicitDefEqProofs (disch := omega) only [h14, h6, h15, h7, hH, hHp, htk, hif, hfl2, hfl, hle, go_sem, ht] <;> rfl) (by simp -implicitDefEqProofs (disch := omega) only [h14, h6, h15, h7, hH, hHp, htk, hif, hfl2, hfl, hle, go_sem, ht]) (hupt) ?_; rintro _ nx - rfl hnx; (try simp only [put_nx, withH_nx, begP_nx] at hnx); simp -implicitDefEqProofs (disch := omega) only [h14, h6, h15, h7, hH, hHp, htk, hif, hfl2, hfl, hle, go_sem, ht])
      (refine end_treeM 2 ?_; simp -implicitDefEqProofs (disch := omega) only [go_sem, ht, Nat.le_add_right, if_pos, Option.getD_some, hm2, Ref.flatL_I])
    · have E := hEZ c
      have hshc := hsh c
      have hlW := E.len
      have hrow := E.row
      have htle : (echW (m.map vals) c).2.length ≤ m.length := by
        obtain ⟨O, κ, hE, _⟩ := E.st
        exact hE.tle
      have hst : echW (m.map vals) (c + 1) = stepE c (echW (m.map vals) c) := rfl
      obtain ⟨W, eW⟩ : ∃ W, (echW (m.map vals) c).1 = W := ⟨_, rfl⟩
      obtain ⟨Pv, eP⟩ : ∃ Pv, (echW (m.map vals) c).2 = Pv := ⟨_, rfl⟩
      rw [eW] at hH hlW hrow hshc
      rw [eP] at h7 hHp hcp htle
      have hst2 : echW (m.map vals) (c + 1) = if findP W c Pv.length < W.length then (clearAll (swapL W Pv.length (findP W c Pv.length)) Pv.length c, Pv ++ [c]) else (W, Pv) := by
        rw [hst, stepE, eW, eP]
        split
        · rfl
        · rw [← eW, ← eP]
      clear hst E
      simp -implicitDefEqProofs (disch := omega) only [go_sem, ht, h14, h6, h15, h7]
      refine LW.loopW hc ht (by kernel_rfl) (fun s => s.sl 14 = .val (.int .i64 cols) ∧ s.sl 6 = .ref id1 0 m.length cap1 1 ∧ id1 < s.nx ∧ s.sl 15 = .val (.int .i64 c) ∧ s.sl 8 = .val (.int .i64 c) ∧ s.sl 9 = .val (.int .i64 Pv.length) ∧ s.H id1 = some (((W.map CZ).map SW) ++ rest1.map .val) ∧
          s.sl 7 = .ref ip 0 Pv.length cp 1 ∧ s.H ip = some (Pv.map Ref.I ++ rp.map .val) ∧ ip < s.nx ∧ ∃ i : Nat, i ≤ m.length ∧ Pv.length ≤ i ∧ s.sl 10 = .val (.int .i64 i) ∧ findP W c i = findP W c Pv.length)
        (fun s => match s.sl 10 with | .val (.int _ k) => m.length - k.toNat | _ => 0) ?_ ?_
      · simp -implicitDefEqProofs (disch := omega) only [go_sem, ht, h14, h6, h15, h7]
        exact ⟨hid, hH, hHp, hip, Pv.length, htle, Nat.le_refl _, rfl, rfl⟩
      · clear h14 h6 h15 h7 hid hH hHp hip
        rintro s ⟨h14, h6, hid, h15, h8, h9, hH, h7, hHp, hip, i, hi, hri, h10, hfi⟩
        by_cases hil : i = m.length
        · subst hil
          have hend : findP W c Pv.length = W.length := by rw [← hfi]; exact findP_end (by omega)
          rw [if_neg (by omega)] at hst2
          simp -implicitDefEqProofs (disch := omega) only [go_sem, ht, h14, h6, h15, h7, h8, h9, h10]
          exact ⟨⟨hid, c + 1, by omega, rfl, by rw [hst2]; exact hH, ip, cp, rp, by rw [hst2], by rw [hst2]; exact hHp, by rw [hst2]; exact hcp, hip, hne⟩, by omega⟩
        · have hlt : i < m.length := by omega
          obtain ⟨hzl, hzp⟩ := hrow i hlt
          have hgi := get_SM (m := W.map CZ) (i := i) (rest1.map .val) (by simp; omega)
          rw [getD_CZ (by omega)] at hgi
          have hat := CZ_at (z := W.getD i []) (c := c) (by omega)
          have hzs := hshc i hlt
          have hzx : Z (B + 1) (vc (W.getD i []) c) := by
            rw [vc_lt (by omega)]; exact hzs _ (List.getElem_mem _)
          have hsg := signW (Wn.C hzx (by omega))
          have hfe := findP_eq (W := W) (c := c) (i := i) (by omega)
          have hczl : (CZ (W.getD i [])).length = cols := by rw [CZ_len]; exact hzl
          by_cases hz0 : vc (W.getD i []) c = 0
          · rw [if_neg (by simpa using hz0)] at hfe
            rw [hz0, cZ_eq rfl] at hsg
            rw [hz0] at hat
            have hfi2 : findP W c (i + 1) = findP W c Pv.length := by rw [← hfe]; exact hfi
            simp -implicitDefEqProofs (disch := omega) only [go_sem, ht, h14, h6, h15, h7, h8, h9, h10, hH, hgi, hczl, hat]
            (refine pCall_vw (by refine ⟨⟨?_, ?_⟩, ?_, ?_⟩; rotate_left 2; (first | (right; rintro r rfl; rfl) | left); all_goals ((try simp -implicitDefEqProofs (disch := omega) only [h14, h6, h15, h7, h8, h9, h10, hH, hgi, hczl, hat, go_sem, ht]) <;> rfl)) (hsg) ?_; rintro _ nx - rfl hnx; simp -implicitDefEqProofs (disch := omega) only [h14, h6, h15, h7, h8, h9, h10, hH, hgi, hczl, hat, go_sem, ht])
            exact ⟨⟨by omega, hHp, by omega, i + 1, by omega, by omega, rfl, hfi2⟩, by omega⟩
          · rw [if_pos (by simpa using hz0)] at hfe
            have hfi3 : findP W c Pv.length = i := by rw [← hfi]; exact hfe
            rw [hfi3, if_pos (by omega)] at hst2
            have hs0 : cZ (vc (W.getD i []) c) 0 ≠ 0 := by unfold cZ; split <;> (try split) <;> omega
            have hrlt : Pv.length < m.length := by omega
            have hgr := get_SM (m := W.map CZ) (i := Pv.length) (rest1.map .val) (by simp; omega)
            rw [getD_CZ (by omega)] at hgr
            have hczr : (CZ (W.getD Pv.length [])).length = cols := by rw [CZ_len]; exact (hrow _ hrlt).1
            have hset1 := set_SM (m := W.map CZ) (i := Pv.length) (l := CZ (W.getD i [])) (n := cols) (rest1.map .val) (by simp; omega) hczl.symm
            have hset2 := set_SM (m := (W.map CZ).set Pv.length (CZ (W.getD i []))) (i := i) (l := CZ (W.getD Pv.length [])) (n := cols) (rest1.map .val) (by simp; omega) hczr.symm
            have hsw : ((W.map CZ).set Pv.length (CZ (W.getD i []))).set i (CZ (W.getD Pv.length [])) = (swapL W Pv.length i).map CZ := by
              unfold swapL
              rw [List.map_set, List.map_set]
            rw [hsw] at hset2
            generalize cZ (vc (W.getD i []) c) 0 = sx at *
            simp -implicitDefEqProofs (disch := omega) only [go_sem, ht, h14, h6, h15, h7, h8, h9, h10, hH, hgi, hczl, hat]
            (refine pCall_vw (by refine ⟨⟨?_, ?_⟩, ?_, ?_⟩; rotate_left 2; (first | (right; rintro r rfl; rfl) | left); all_goals ((try simp -implicitDefEqProofs (disch := omega) only [h14, h6, h15, h7, h8, h9, h10, hH, hgi, hczl, hat, hgr, hczr, hset1, hset2, go_sem, ht]) <;> rfl)) (hsg) ?_; rintro _ nx - rfl hnx; simp -implicitDefEqProofs (disch := omega) only [h14, h6, h15, h7, h8, h9, h10, hH, hgi, hczl, hat, hgr, hczr, hset1, hset2, go_sem, ht])
            refine ⟨by simp; omega, ?_⟩
            clear hgi hgr hat hset1 hset2 hsg hczl hczr
            have hW1l : (swapL W Pv.length i).length = m.length := by rw [swapL_len]; exact hlW
            have hVl : (clearAll (swapL W Pv.length i) Pv.length c).length = m.length := by rw [clearAll_len]; exact hW1l
            have hVr : (clearAll (swapL W Pv.length i) Pv.length c).getD Pv.length [] = (swapL W Pv.length i).getD Pv.length [] := by rw [clearAll_get (by omega), if_pos rfl]
            have hVk : ∀ k, k < m.length → k ≠ Pv.length → (clearAll (swapL W Pv.length i) Pv.length c).getD k [] = clearZ ((swapL W Pv.length i).getD k []) ((swapL W Pv.length i).getD Pv.length []) c := fun k hk hkr => by rw [clearAll_get (by omega), if_neg hkr]
            have hW1 : ∀ k, k < m.length → ((swapL W Pv.length i).getD k []).length = cols ∧ ∀ x ∈ (swapL W Pv.length i).getD k [], Z (B + 1) x := fun k hk => by
              rw [swapL_get (by omega) (by omega) (by omega)]
              have hb := swp_bd (i := i) (t := Pv.length) hlt hrlt hk
              exact ⟨(hrow _ hb).1, hshc _ hb⟩
            have hst3 : echW (m.map vals) (c + 1) = (clearAll (swapL W Pv.length i) Pv.length c, Pv ++ [c]) := hst2
            generalize clearAll (swapL W Pv.length i) Pv.length c = V at *
            generalize swapL W Pv.length i = W1 at *
            refine LW.loopW hc ht (by kernel_rfl) (fun u => u.sl 14 = .val (.int .i64 cols) ∧ u.sl 6 = .ref id1 0 m.length cap1 1 ∧ id1 < u.nx ∧ u.sl 15 = .val (.int .i64 c) ∧ u.sl 8 = .val (.int .i64 c) ∧ u.sl 9 = .val (.int .i64 Pv.length) ∧
                u.sl 7 = .ref ip 0 Pv.length cp 1 ∧ u.H ip = some (Pv.map Ref.I ++ rp.map .val) ∧ ip < u.nx ∧ u.sl 51 = .val (.int .i64 m.length) ∧ ∃ k : Nat, k ≤ m.length ∧ u.sl 52 = .val (.int .i64 k) ∧ u.H id1 = some ((((part V W1 k).map CZ).map SW) ++ rest1.map .val))
              (fun u => match u.sl 52 with | .val (.int _ k) => m.length - k.toNat | _ => 0) ?_ ?_
            · simp -implicitDefEqProofs (disch := omega) only [go_sem, ht, h14, h6, h15, h7, h8, h9, h10, hHp, hne]
              exact ⟨by omega, by omega, 0, Nat.zero_le _, rfl, by simp [part]⟩
            · clear h14 h6 h15 h7 h8 h9 h10 hid hH hHp hip
              rintro u ⟨h14, h6, hid, h15, h8, h9, h7, hHp, hip, h51, k, hk, h52, hH⟩
              by_cases hkl : k = m.length
              · have hpt : part V W1 k = V := by
                  unfold part
                  rw [List.take_of_length_le (by omega), List.drop_of_length_le (by omega), List.append_nil]
                rw [hpt] at hH
                subst hkl
                simp -implicitDefEqProofs (disch := omega) only [go_sem, ht, h14, h6, h15, h7, h8, h9, h51, h52]
                have hpl : (Pv.map Ref.I).length = Pv.length := by simp
                (refine append_ownX (by refine ⟨?_, ?_, ?_, ?_, ?_, ?_, ?_, ?_⟩ <;> (simp -implicitDefEqProofs (disch := omega) only [srcP_ref, srcP_sl, srcP_nil, Option.isSome_some, hHp, go_sem, ht] <;> rfl)) (by simp <;> omega) (by first | assumption | (simp <;> omega)) (by first | rfl | simp) (by first | omega | (simp <;> omega)) ?_; intro id2 cap2 rest2 H2 nx2 hH2 hcap2 hid2 hnx2 hfr2 hfs2; simp only [put_nx, withH_nx, put_H, withH_H] at hid2 hnx2 hfr2 hfs2; (try simp only [app_U, ← List.map_append] at hH2))
                have hH2' : H2 id2 = some ((Pv ++ [c]).map Ref.I ++ rest2.map .val) := by rw [← Ref.app_I]; exact hH2
                have hHw : H2 id1 = some ((V.map CZ).map SW ++ rest1.map .val) := by rw [hfr2 _ (by omega) (by omega)]; simp -implicitDefEqProofs (disch := omega) only [go_sem, ht, hH]
                simp -implicitDefEqProofs (disch := omega) only [go_sem, ht, h14, h6, h15, h7, h8, h9, h51, h52]
                exact ⟨⟨by omega, c + 1, by omega, rfl, by rw [hst3]; exact hHw, id2, cap2, rest2, by rw [hst3]; simp, by rw [hst3]; exact hH2', by rw [hst3]; simp; omega, by omega, by omega⟩, by omega⟩
              · have hklt : k < m.length := by omega
                have hXl := part_len (V := V) (W := W1) (k := k) (by omega) (by omega)
                by_cases hkr : k = Pv.length
                · have hps := part_same (V := V) (W := W1) (k := k) (by omega) (by omega) (by rw [hkr]; exact hVr)
                  rw [hps] at hH
                  subst hkr
                  simp -implicitDefEqProofs (disch := omega) only [go_sem, ht, h14, h6, h15, h7, h8, h9, h51, h52]
                  exact ⟨⟨hid, hHp, hip, Pv.length + 1, by omega, rfl, hH⟩, by omega⟩
                · obtain ⟨hl1, hz1⟩ := hW1 k hklt
                  obtain ⟨hl2, hz2⟩ := hW1 Pv.length hrlt
                  have hXk : (part V W1 k).getD k [] = W1.getD k [] := by rw [part_get (by omega) (by omega), if_neg (by omega)]
                  have hXr : (part V W1 k).getD Pv.length [] = W1.getD Pv.length [] := by
                    rw [part_get (by omega) (by omega)]
                    split
                    · exact hVr
                    · rfl
                  have hgk := get_SM (m := (part V W1 k).map CZ) (i := k) (rest1.map .val) (by simp; omega)
                  have hgr := get_SM (m := (part V W1 k).map CZ) (i := Pv.length) (rest1.map .val) (by simp; omega)
                  rw [getD_CZ (by omega), hXk] at hgk
                  rw [getD_CZ (by omega), hXr] at hgr
                  have hclr := clear_calls (c := c) (Rn.C hz1 (by omega)) (Rn.C hz2 (by omega)) (by rw [CZ_len, CZ_len, hl1, hl2]) (by rw [CZ_len, hl1]; omega) (by rw [CZ_len, hl1]; omega) hB
                  rw [vals_CZ, vals_CZ] at hclr
                  have hif : (if vc (W1.getD k []) c = 0 then CZ (W1.getD k []) else CZ (clearZ (W1.getD k []) (W1.getD Pv.length []) c)) = CZ (V.getD k []) := by
                    rw [hVk k hklt hkr]
                    split
                    · rename_i h0
                      rw [clearZ, if_pos h0]
                    · rfl
                  rw [hif] at hclr
                  have hps := part_set (V := V) (W := W1) (k := k) (by omega) (by omega)
                  have hset := set_SM (m := (part V W1 k).map CZ) (i := k) (l := CZ (V.getD k [])) (n := (CZ (V.getD k [])).length) (rest1.map .val) (by simp; omega) rfl
                  rw [← List.map_set, hps] at hset
                  generalize CZ (V.getD k []) = vk at *
                  generalize CZ (W1.getD k []) = wk at *
                  generalize CZ (W1.getD Pv.length []) = wr at *
                  simp -implicitDefEqProofs (disch := omega) only [go_sem, ht, h14, h6, h15, h7, h8, h9, h51, h52, hH, hgk, hgr]
                  (refine pCall_vw (by refine ⟨⟨?_, ?_⟩, ?_, ?_⟩; rotate_left 2; (first | (right; rintro r rfl; rfl) | left); all_goals ((try simp -implicitDefEqProofs (disch := omega) only [h14, h6, h15, h7, h8, h9, h51, h52, hH, hgk, hgr, hset, go_sem, ht]) <;> rfl)) (hclr) ?_; rintro _ nx - rfl hnx; simp -implicitDefEqProofs (disch := omega) only [h14, h6, h15, h7, h8, h9, h51, h52, hH, hgk, hgr, hset, go_sem, ht])
                  exact ⟨⟨by omega, hHp, by omega, k + 1, by omega, rfl, rfl⟩, by omega⟩
end
end Go.Proofs.Ytfjdfnlkobeehaa
end

section
set_option maxRecDepth 100000
set_option linter.unusedVariables false
set_option linter.unusedSimpArgs false
namespace Go.Proofs.Ytfjdfnlkobeehaa

theorem lenM_take {m : List (List (Bool × List Nat))} {i : Nat} (h : i < m.length) : lenM (m.take (i + 1)) = lenM (m.take i) + (1 + lenW (m.getD i [])) := by
  unfold lenM
  rw [getD_take (d := []) h, List.map_append, List.sum_append]
  simp
theorem lenM_le {m : List (List (Bool × List Nat))} (i : Nat) : lenM (m.take i) ≤ lenM m := by
  unfold lenM
  conv => rhs; rw [← List.take_append_drop i m, List.map_append, List.sum_append]
  omega
theorem lenM_len (m : List (List (Bool × List Nat))) : m.length ≤ lenM m := by
  unfold lenM
  induction m with
  | nil => simp
  | cons l m ih => simp only [List.length_cons, List.map_cons, List.sum_cons]; omega
theorem lenM_mem {m : List (List (Bool × List Nat))} {l : List (Bool × List Nat)} (h : l ∈ m) : lenW l < lenM m := by
  unfold lenM
  induction m with
  | nil => simp at h
  | cons k m ih =>
    rcases List.mem_cons.1 h with rfl | h
    · simp only [List.map_cons, List.sum_cons]; omega
    · have := ih h; simp only [List.map_cons, List.sum_cons]; omega
theorem getD_mem {α : Type} {m : List α} {i : Nat} {d : α} (h : i < m.length) : m.getD i d ∈ m := by
  rw [List.getD_eq_getElem?_getD, List.getElem?_eq_getElem h]; exact List.getElem_mem h
theorem len_rows {m : List (List (Bool × List Nat))} (hl : lenM m ≤ 1099511627776) : PT Try.prog 12 [SM m] (isV (.val (.int .i64 (lenM m : Nat)))) := by
  have hll := lenM_len m
  refine PCalls.enter (n := 20) (rs := [.tmp 2]) (tb := []) Try.func12 rfl rfl rfl (by kernel_rfl) (by kernel_rfl) (by simp) fun c hc ht => ?_
  simp -implicitDefEqProofs (disch := omega) only [go_sem, ht]
  refine LW.loopW hc ht (by kernel_rfl) (fun t => t.sl 0 = .sl m.length (m.map SW) ∧ ∃ i : Nat, i ≤ m.length ∧ t.sl 4 = .val (.int .i64 i) ∧ t.sl 3 = .val (.int .i64 (lenM (m.take i) : Nat)))
    (fun t => match t.sl 4 with | .val (.int _ k) => m.length - k.toNat | _ => 0) ?_ ?_
  · simp -implicitDefEqProofs (disch := omega) only [go_sem, ht]
    exact ⟨0, Nat.zero_le _, rfl, rfl⟩
  · rintro t ⟨h0, i, hi, h4, h3⟩
    by_cases hil : i = m.length
    · subst hil
      rw [List.take_length] at h3
      simp -implicitDefEqProofs (disch := omega) only [go_sem, ht, h0, h3, h4]
      (refine end_treeW 0 ?_; simp -implicitDefEqProofs (disch := omega) only [go_sem, ht])
    · have hlt : i < m.length := by omega
      have hgi := get_SM' hlt
      have htk := lenM_take hlt
      have hle := lenM_le (m := m) (i + 1)
      have hlw := len_wholes (l := m.getD i []) (by omega)
      generalize m.getD i [] = l0 at *
      simp -implicitDefEqProofs (disch := omega) only [go_sem, ht, h0, h3, h4, hgi]
      (refine pCall_vw (by refine ⟨⟨?_, ?_⟩, ?_, ?_⟩; rotate_left 2; (first | (right; rintro r rfl; rfl) | left); all_goals ((try simp -implicitDefEqProofs (disch := omega) only [h0, h3, h4, hgi, go_sem, ht]) <;> rfl)) (hlw) ?_; rintro _ nx - rfl hnx; simp -implicitDefEqProofs (disch := omega) only [h0, h3, h4, hgi, go_sem, ht])
      exact ⟨⟨i + 1, by omega, rfl, by rw [htk, Nat.add_assoc]⟩, by omega⟩
theorem copy_rows {m : List (List (Bool × List Nat))} (hm : ∀ l ∈ m, (∀ p ∈ l, Ok p.2) ∧ l.length ≤ 1000000) (hll : m.length ≤ 1000000) : PT Try.prog 21 [SM m] (isV (SM m)) := by
  refine PCalls.enter (n := 20) (rs := [.tmp 2]) (tb := []) Try.func21 rfl rfl rfl (by kernel_rfl) (by kernel_rfl) (by simp) fun c hc ht => ?_
  simp -implicitDefEqProofs (disch := omega) only [go_sem, ht]
  refine LW.ghost (Gh.nilW 3 1 (by simp -implicitDefEqProofs (disch := omega) only [go_sem, ht])) ?_
  refine LW.loopW hc ht (by kernel_rfl) (fun t => t.sl 0 = .sl m.length (m.map SW) ∧ ∃ i : Nat, i ≤ m.length ∧ t.sl 4 = .val (.int .i64 i) ∧ ∃ (id cap : Nat) (rest : List Value), t.sl 3 = .ref id 0 i cap 1 ∧ t.H id = some ((m.take i).map SW ++ rest.map .val) ∧ i + rest.length = cap ∧ id < t.nx)
    (fun t => match t.sl 4 with | .val (.int _ k) => m.length - k.toNat | _ => 0) ?_ ?_
  · simp -implicitDefEqProofs (disch := omega) only [go_sem, ht]
    exact ⟨0, Nat.zero_le _, rfl, _, 0, [], rfl, upd_self _ _ _, rfl, by omega⟩
  · rintro t ⟨h0, i, hi, h4, id, cap, rest, h3, hH, hcap, hid⟩
    by_cases hil : i = m.length
    · subst hil
      rw [List.take_length] at hH
      have htk : List.take m.length (m.map SW ++ rest.map .val) = m.map SW := by
        rw [List.take_append_of_le_length (by simp), List.take_of_length_le (by simp)]
      have hle : m.length ≤ (m.map SW).length + rest.length := by simp
      have hfl := frzL_flat (fun _ => true) t.H 1 (SM_flat m)
      have hml : (m.map SW).length = m.length := by simp
      simp -implicitDefEqProofs (disch := omega) only [go_sem, ht, h0, h3, h4]
      (refine end_treeW 2 ?_; simp -implicitDefEqProofs (disch := omega) only [go_sem, ht, hH, htk, hfl])
      omega
    · have hlt : i < m.length := by omega
      have hgi := get_SM' hlt
      obtain ⟨hok, hlw⟩ := hm _ (getD_mem (d := []) hlt)
      have hct := copy_wholes hok hlw
      have hst : (m.take i).map SW ++ [.sl (m.getD i []).length (SWc (m.getD i []))] = (m.take (i + 1)).map SW := by
        rw [getD_take (d := []) hlt, List.map_append]; rfl
      have hln : ((m.take i).map SW).length = i := by simp; omega
      generalize m.getD i [] = l0 at *
      simp -implicitDefEqProofs (disch := omega) only [go_sem, ht, h0, h3, h4, hgi]
      (refine pCall_vw (by refine ⟨⟨?_, ?_⟩, ?_, ?_⟩; rotate_left 2; (first | (right; rintro r rfl; rfl) | left); all_goals ((try simp -implicitDefEqProofs (disch := omega) only [h0, h3, h4, hgi, go_sem, ht]) <;> rfl)) (hct) ?_; rintro _ nx - rfl hnx; simp -implicitDefEqProofs (disch := omega) only [h0, h3, h4, hgi, go_sem, ht])
      have hne : id ≠ nx := by omega
      (refine append_ownX (by refine ⟨?_, ?_, ?_, ?_, ?_, ?_, ?_, ?_⟩ <;> (simp -implicitDefEqProofs (disch := omega) only [srcP_ref, srcP_sl, srcP_nil, Option.isSome_some, hH, go_sem, ht] <;> rfl)) (by simp <;> omega) (by first | assumption | (simp <;> omega)) (by first | rfl | simp) (by first | omega | (simp <;> omega)) ?_; intro id1 cap1 rest1 H1 nx1 hH1 hcap1 hid1 hnx1 hfr1 hfs1; simp only [put_nx, withH_nx, put_H, withH_H] at hid1 hnx1 hfr1 hfs1; (try simp only [app_U, ← List.map_append] at hH1))
      rw [hst] at hH1
      simp -implicitDefEqProofs (disch := omega) only [go_sem, ht, h0, h3, h4]
      exact ⟨⟨i + 1, by omega, rfl, id1, cap1, rest1, rfl, hH1, by omega, by omega⟩, by omega⟩
theorem same_rows {m m' : List (List (Bool × List Nat))} (hm : ∀ l ∈ m, (∀ p ∈ l, Ok p.2) ∧ l.length ≤ 1000000) (hm' : ∀ l ∈ m', (∀ p ∈ l, Ok p.2)) (hll : m.length ≤ 1000000) : PT Try.prog 18 [SM m, SM m'] (isV (.val (.bool (decide (m = m'))))) := by
  by_cases hlm : m.length = m'.length
  · refine PCalls.enter (n := 27) (rs := [.tmp 4]) (tb := [(6, [(0, []), (1, []), (2, []), (3, []), (4, []), (5, []), (6, []), (7, []), (8, []), (9, [])])]) Try.func18 rfl rfl rfl (by kernel_rfl) (by kernel_rfl) (by simp) fun c hc ht => ?_
    simp -implicitDefEqProofs (disch := omega) only [go_sem, ht, hlm]
    refine LW.loopW hc ht (by kernel_rfl) (fun t => t.sl 0 = .sl m.length (m.map SW) ∧ t.sl 1 = .sl m'.length (m'.map SW) ∧ ∃ i : Nat, i ≤ m.length ∧ t.sl 5 = .val (.int .i64 i) ∧ m.take i = m'.take i)
      (fun t => match t.sl 5 with | .val (.int _ k) => m.length - k.toNat | _ => 0) ?_ ?_
    · simp -implicitDefEqProofs (disch := omega) only [go_sem, ht, hlm]
      exact ⟨0, Nat.zero_le _, rfl, by simp⟩
    · rintro t ⟨h0, h1, i, hi, h5, htk⟩
      by_cases hil : i = m.length
      · subst hil
        have e : m = m' := by rwa [List.take_length, hlm, List.take_length] at htk
        rw [decide_eq_true e]
        simp -implicitDefEqProofs (disch := omega) only [go_sem, ht, h0, h1, h5]
        (refine end_treeW 0 ?_; simp -implicitDefEqProofs (disch := omega) only [go_sem, ht])
      · have hlt : i < m.length := by omega
        have hlt' : i < m'.length := by omega
        have hgi := get_SM' hlt
        have hgi' := get_SM' hlt'
        obtain ⟨hok, hlw⟩ := hm _ (getD_mem (d := []) hlt)
        have hsr := same_wholes hok (hm' _ (getD_mem (d := []) hlt')) hlw
        have hs1 := getD_take (d := []) hlt
        have hs2 := getD_take (d := []) hlt'
        by_cases he : m.getD i [] = m'.getD i []
        · rw [decide_eq_true he] at hsr
          generalize m.getD i [] = l0 at *
          generalize m'.getD i [] = l1 at *
          simp -implicitDefEqProofs (disch := omega) only [go_sem, ht, h0, h1, h5, hgi, hgi']
          (refine pCall_vw (by refine ⟨⟨?_, ?_⟩, ?_, ?_⟩; rotate_left 2; (first | (right; rintro r rfl; rfl) | left); all_goals ((try simp -implicitDefEqProofs (disch := omega) only [h0, h1, h5, hgi, hgi', go_sem, ht]) <;> rfl)) (hsr) ?_; rintro _ nx - rfl hnx; simp -implicitDefEqProofs (disch := omega) only [h0, h1, h5, hgi, hgi', go_sem, ht])
          exact ⟨⟨i + 1, by omega, rfl, by rw [hs1, hs2, htk, he]⟩, by omega⟩
        · rw [decide_eq_false he] at hsr
          have hne : m ≠ m' := fun e => he (by subst e; rfl)
          rw [decide_eq_false hne]
          generalize m.getD i [] = l0 at *
          generalize m'.getD i [] = l1 at *
          simp -implicitDefEqProofs (disch := omega) only [go_sem, ht, h0, h1, h5, hgi, hgi']
          (refine pCall_vw (by refine ⟨⟨?_, ?_⟩, ?_, ?_⟩; rotate_left 2; (first | (right; rintro r rfl; rfl) | left); all_goals ((try simp -implicitDefEqProofs (disch := omega) only [h0, h1, h5, hgi, hgi', go_sem, ht]) <;> rfl)) (hsr) ?_; rintro _ nx - rfl hnx; simp -implicitDefEqProofs (disch := omega) only [h0, h1, h5, hgi, hgi', go_sem, ht])
          (refine end_treeW 0 ?_; simp -implicitDefEqProofs (disch := omega) only [go_sem, ht])
  · have hne : m ≠ m' := fun e => hlm (by rw [e])
    rw [decide_eq_false hne]
    refine PCalls.enter (n := 27) (rs := [.tmp 4]) (tb := [(6, [(0, []), (1, []), (2, []), (3, []), (4, []), (5, []), (6, []), (7, []), (8, []), (9, [])])]) Try.func18 rfl rfl rfl (by kernel_rfl) (by kernel_rfl) (by simp) fun c hc ht => ?_
    simp -implicitDefEqProofs (disch := omega) only [go_sem, ht, hlm]
    (refine end_treeW 0 ?_; simp -implicitDefEqProofs (disch := omega) only [go_sem, ht])

def vi (z : Int) : PV := .val (.int .i64 z)
theorem vi_def (z : Int) : vi z = .val (.int .i64 z) := rfl
theorem get_vi {zs : List Int} {i : Nat} (h : i < zs.length) : (zs.map vi)[i]? = some (.val (.int .i64 zs[i])) := by simp [h, vi]
theorem row_calls {zs : List Int} (hz : ∀ z ∈ zs, -9223372036854775808 ≤ z ∧ z ≤ 9223372036854775807) (hl : zs.length ≤ 1000000) : PT Try.prog 46 [.sl zs.length (zs.map vi)] (isV (SW (CZ zs))) := by
  refine PCalls.enter (n := 20) (rs := [.tmp 2]) (tb := []) Try.func46 rfl rfl rfl (by kernel_rfl) (by kernel_rfl) (by simp) fun c hc ht => ?_
  simp -implicitDefEqProofs (disch := omega) only [go_sem, ht]
  refine LW.ghost (Gh.nilW 3 2 (by simp -implicitDefEqProofs (disch := omega) only [go_sem, ht])) ?_
  refine LW.loopW hc ht (by kernel_rfl) (fun t => t.sl 0 = .sl zs.length (zs.map vi) ∧ ∃ i : Nat, i ≤ zs.length ∧ t.sl 4 = .val (.int .i64 i) ∧ ∃ (id cap : Nat) (rest : List Value), t.sl 3 = .ref id 0 i cap 2 ∧ t.H id = some (SWc (CZ (zs.take i)) ++ rest.map .val) ∧ i * 2 + rest.length = cap * 2 ∧ id < t.nx)
    (fun t => match t.sl 4 with | .val (.int _ k) => zs.length - k.toNat | _ => 0) ?_ ?_
  · simp -implicitDefEqProofs (disch := omega) only [go_sem, ht]
    exact ⟨0, Nat.zero_le _, rfl, _, 0, [], rfl, upd_self _ _ _, rfl, by omega⟩
  · rintro t ⟨h0, i, hi, h4, id, cap, rest, h3, hH, hcap, hid⟩
    by_cases hil : i = zs.length
    · subst hil
      rw [List.take_length] at hH
      have htk := take_SWc (CZ zs) (rest.map .val) (n := zs.length) (by rw [CZ_len])
      have hcl := CZ_len zs
      simp -implicitDefEqProofs (disch := omega) only [go_sem, ht, h0, h3, h4]
      (refine end_treeW 2 ?_; simp -implicitDefEqProofs (disch := omega) only [go_sem, ht, hH, htk, hcl])
      omega
    · have hlt : i < zs.length := by omega
      have hgi := get_vi hlt
      obtain ⟨b1, b2⟩ := hz _ (List.getElem_mem hlt)
      have hsm := small_whole b1 b2
      have hst : SWc (CZ (zs.take i)) ++ [.val (.bool (decide (zs[i] < 0))), .sl (D zs[i].natAbs).length ((D zs[i].natAbs).map U)] = SWc (CZ (zs.take (i + 1))) := by
        rw [List.take_succ_eq_append_getElem hlt, CZ_app, SWc_app]; rfl
      have hln : (SWc (CZ (zs.take i))).length = 2 * i := by rw [SWc_len, CZ_len, List.length_take]; omega
      generalize zs[i] = z at *
      simp -implicitDefEqProofs (disch := omega) only [go_sem, ht, h0, h3, h4, hgi]
      (refine pCall_vw (by refine ⟨⟨?_, ?_⟩, ?_, ?_⟩; rotate_left 2; (first | (right; rintro r rfl; rfl) | left); all_goals ((try simp -implicitDefEqProofs (disch := omega) only [h0, h3, h4, hgi, go_sem, ht]) <;> rfl)) (hsm) ?_; rintro _ nx - rfl hnx; simp -implicitDefEqProofs (disch := omega) only [h0, h3, h4, hgi, go_sem, ht])
      have hne : id ≠ nx := by omega
      (refine append_ownSX (by refine ⟨?_, ?_, ?_, ?_, ?_, ?_, ?_, ?_⟩ <;> (simp -implicitDefEqProofs (disch := omega) only [srcP_ref, srcP_sl, srcP_nil, Option.isSome_some, hH, go_sem, ht] <;> rfl)) (by rfl) (by first | omega | (simp <;> omega)) (by first | assumption | (simp <;> omega)) (by first | rfl | simp) (by first | omega | (simp <;> omega)) ?_; intro id1 cap1 rest1 H1 nx1 hH1 hcap1 hid1 hnx1 hfr1 hfs1; simp only [put_nx, withH_nx, put_H, withH_H] at hid1 hnx1 hfr1 hfs1)
      rw [hst] at hH1
      simp -implicitDefEqProofs (disch := omega) only [go_sem, ht, h0, h3, h4]
      exact ⟨⟨i + 1, by omega, rfl, id1, cap1, rest1, rfl, hH1, by omega, by omega⟩, by omega⟩
end Go.Proofs.Ytfjdfnlkobeehaa
end
