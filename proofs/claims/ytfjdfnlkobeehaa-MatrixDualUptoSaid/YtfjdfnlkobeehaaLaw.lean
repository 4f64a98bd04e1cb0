/- From a contract to the row: what a law's arguments are for the abstract machine. Program independent. -/
import Derived.Test.YtfjdfnlkobeehaaOwn
import Derived.Test.YtfjdfnlkobeehaaData
import Derived.Carry
import Derived.ProofKit
import Derived.OpenShut
import Derived.ShutString
import Derived.ChangeOld
import Derived.SizedLaws
set_option linter.unusedVariables false
set_option linter.unusedSimpArgs false
namespace Go.Proofs.Ytfjdfnlkobeehaa
open Go.ChangeShapes Go.WideShapes Go.ChangeAt Go.RowKit

variable {P : Program}

/-- The environment at a law's beginning. -/
abbrev E0 (w : World) : En := enOf (fun _ => False) w (fun _ => 0) (fun _ => none) (fun _ => none) 0

theorem law_run {f : FuncId} {args : List PV} {Q : PV → Prop} (h : PT P f args Q) {w : World} {vs : List Value} (hr : RepL (E0 w) args vs) :
    Calls P f vs.toArray w fun e w' => (∃ v r, e = .returned v ∧ Q r ∧ ∀ x, r = .val x → v = x) ∧ Below w.heap.size w w' := by
  have hno : ∀ b, ¬ OwnB (fun _ => 0) (fun _ => none) (fun _ => none) b := by
    rintro b ⟨i, ⟨cs, hcs, _⟩ | hi, _⟩
    · simp at hcs
    · simp at hi
  have hown : OwnOK (fun _ => False) (fun _ => False) w (fun _ => 0) (fun _ => none) (fun _ => none) 0 :=
    ⟨fun i hi => by simp at hi, fun i cs hi => by simp at hi, fun i j hi => by rcases hi with ⟨cs, hcs, _⟩ | hi <;> simp at *,
      fun i cs hi => by simp at hi, fun i s p hi => by simp at hi, fun i hi => by rcases hi with ⟨cs, hcs, _⟩ | hi <;> simp at *⟩
  refine (h.2 w vs (fun _ => 0) (fun _ => False) (fun _ h => h.elim) hown hr).mono ?_
  rintro e w' ⟨v, r, H', nx', ρ', rfl, ⟨_, hq⟩, _, _, _, hrep, hframe, hsize, hsw⟩
  refine ⟨⟨v, r, rfl, hq, fun x hx => ?_⟩, hsw.1, hsw.2.1, hsw.2.2, hsize, fun k hk => hframe k hk (hno k)⟩
  subst hx
  simpa [Rep] using hrep

section
variable {H : Type} {enc : TypeId × Value → H} {w : World} {base : Nat}

/-- A list of limbs, as an argument. -/
theorem arg_limbs {t e : TypeId} {b0 : Nat} {v : Value} {d : DataW H} {p : List MemPlace} (ht : P.underlying t = some (.slice e)) (he : P.underlying e = some (.int .u32)) (hc : P.cellsOf e = 1) (hb : P.bytesOf e = 4)
    (hv : Value.okWide P w .any b0 t v) (hd : DataW.Trod enc P w 0 (fun _ => true) true t v d p) (hsz : (d.weights P t).all (· ≤ reachBytes) = true) :
    ∃ xs : List Nat, Lm xs ∧ xs.length ≤ 35184372087808 ∧ Rep (E0 w) (SU xs) v := by
  obtain ⟨a, len, cap, rfl⟩ := okWide_slice ht hv
  have hspot : ∀ x, a = some x → x.spot = none := by
    rintro x rfl
    simp only [Value.okWide, ht, Cell.okWide, Cell.ok] at hv
    exact hv.2.2.2.1
  obtain ⟨fuel, hf⟩ := hd
  rcases open_ints ht he hc hf with ⟨hcs, hx⟩ | ⟨x, l, c, zs, hcs, _, hl, hm, hz, hx, hcell, hwz⟩
  · simp [Value.cells] at hcs
    obtain ⟨rfl, rfl, rfl⟩ := hcs
    exact ⟨[], Lm_nil, by simp, by simp [SU_def, Rep]⟩
  · simp [Value.cells] at hcs
    obtain ⟨rfl, rfl, rfl⟩ := hcs
    simp at hz
    simp only [Prod.mk.injEq] at hx
    obtain ⟨rfl, _⟩ := hx
    have hlen : len ≤ 35184372087808 := by
      simp only [DataW.weights, ht, List.all_cons, Bool.and_eq_true, decide_eq_true_eq, hb, reachBytes] at hsz
      have h1 := hsz.1
      simp [lits, hz] at h1
      omega
    have hrange : ∀ z ∈ zs, 0 ≤ z ∧ z < 4294967296 := fun z hz => by
      have h1 := hwz z hz
      have h1 : (decide (IntKind.u32.min ≤ z) && decide (z ≤ IntKind.u32.max)) = true := h1
      have h2 : IntKind.u32.min ≤ z ∧ z ≤ IntKind.u32.max := by simpa using h1
      have h3 : IntKind.u32.min = 0 := rfl
      have h4 : IntKind.u32.max = 4294967295 := rfl
      omega
    have hx0 := hspot x rfl
    obtain ⟨b, o, sp⟩ := x
    simp only at hx0; subst hx0
    refine ⟨(zs.take len).map Int.toNat, fun y hy => ?_, by simp; omega, ?_⟩
    · obtain ⟨z, hz1, rfl⟩ := List.mem_map.1 hy
      have := hrange z (List.mem_of_mem_take hz1)
      omega
    · have hln : ((zs.take len).map Int.toNat).length = len := by simp [hz, hl]
      rw [SU_def, hln]
      simp only [Rep]
      refine .inr ⟨b, o, cap, rfl, hl, .inr ⟨fun h => ?_, ?_⟩⟩
      · rcases h with h | ⟨i, ⟨cs, hcs, _⟩ | hi, _⟩
        · exact h
        · simp at hcs
        · simp at hi
      · have key : ∀ (ys : List Int) (k : Nat), (∀ i, i < ys.length → w.cell? ⟨b, o + k + i, none⟩ = some (.int .u32 (ys.getD i 0))) → (∀ z ∈ ys, 0 ≤ z) → Row (E0 w) b (o + k) ((ys.map Int.toNat).map U) := by
          intro ys
          induction ys with
          | nil => intro k _ _; simp [Row]
          | cons y ys ih =>
            intro k hc hp
            simp only [List.map_cons, Row]
            refine ⟨⟨.int .u32 y, ?_, ?_⟩, ?_⟩
            · have := hc 0 (by simp); simpa using this
            · simp only [U, Rep]
              have := hp y (by simp)
              congr 1; omega
            · have := ih (k + 1) (fun i hi => by
                have := hc (i + 1) (by simp; omega)
                rw [show o + (k + 1) + i = o + k + (i + 1) by omega, this]; simp) (fun z hz => hp z (by simp [hz]))
              simpa [Nat.add_assoc] using this
        refine key (zs.take len) 0 (fun i hi => ?_) fun z hz => (hrange z (List.mem_of_mem_take hz)).1
        simp at hi
        have := hcell i (by omega)
        simp only [Addr.add] at this
        have e0 : (if i = 0 then ({ block := b, off := o } : Addr) else { block := b, off := o + i }) = { block := b, off := o + i } := by split; · subst i; rfl
                                                                                                                                           · rfl
        rw [e0] at this
        rw [Nat.add_zero, this]
        congr 2
        simp [List.getD_eq_getElem?_getD, List.getElem?_take, show i < len by omega]

/-- A whole number, as an argument. -/
theorem arg_int {t : TypeId} {k : IntKind} {b0 : Nat} {v : Value} {d : DataW H} {p : List MemPlace} (ht : P.underlying t = some (.int k)) (hv : Value.okWide P w .any b0 t v) (hd : DataW.Trod enc P w 0 (fun _ => true) true t v d p) :
    ∃ z, k.min ≤ z ∧ z ≤ k.max ∧ Rep (E0 w) (.val (.int k z)) v := by
  obtain ⟨z, rfl, _, _, hw⟩ := open_int ht hv hd
  have hw : (decide (k.min ≤ z) && decide (z ≤ k.max)) = true := hw
  have h2 : k.min ≤ z ∧ z ≤ k.max := by simpa using hw
  exact ⟨z, h2.1, h2.2, by simp [Rep]⟩

/-- A text, as an argument. -/
theorem arg_str {t : TypeId} {b0 : Nat} {v : Value} {d : DataW H} {p : List MemPlace} (ht : P.underlying t = some .string) (hv : Value.okWide P w .any b0 t v) (hd : DataW.Trod enc P w 0 (fun _ => true) true t v d p)
    (hsz : (d.weights P t).all (· ≤ reachBytes) = true) : ∃ s : ByteArray, s.size ≤ 140737488351232 ∧ Rep (E0 w) (.val (.string s)) v := by
  obtain ⟨s, rfl, rfl, _, _⟩ := Go.ChangeMaps.open_string ht hv hd
  simp only [DataW.weights, List.all_cons, List.all_nil, Bool.and_true, decide_eq_true_eq, reachBytes] at hsz
  exact ⟨s, by simpa using of_decide_eq_true hsz, by simp [Rep]⟩

/-- A list of limbs that lies in a cell. -/
theorem cell_limbs {t e : TypeId} {b0 fuel : Nat} {v : Value} {x : DataW H × List MemPlace} (ht : P.underlying t = some (.slice e)) (he : P.underlying e = some (.int .u32)) (hc : P.cellsOf e = 1) (hb : P.bytesOf e = 4)
    (hv : Cell.okWide P w .any b0 t v) (hf : DataW.trod enc P w 0 (fun _ => true) true fuel t [v] = some x) (hsz : (x.1.weights P t).all (· ≤ reachBytes) = true) :
    ∃ xs : List Nat, Lm xs ∧ xs.length ≤ 35184372087808 ∧ Rep (E0 w) (SU xs) v := by
  have hv' : Value.okWide P w .any b0 t v := by simpa only [Value.okWide, ht] using hv
  obtain ⟨a, len, cap, rfl⟩ := okWide_slice ht hv'
  exact arg_limbs ht he hc hb hv' (d := x.1) (p := x.2) ⟨fuel, hf⟩ hsz

/-- A number with its sign, as two cells. -/
theorem cells_whole {t e : TypeId} {f0 f1 : Field} {b0 fuel : Nat} {c0 c1 : Value} {x : DataW H × List MemPlace} (ht : P.underlying t = some (.struct #[f0, f1])) (hn : P.cellsOf t = 2)
    (o0 : f0.offset = 0) (o1 : f1.offset = 1) (n0 : P.cellsOf f0.type = 1) (n1 : P.cellsOf f1.type = 1) (hb : P.underlying f0.type = some .bool)
    (hs : P.underlying f1.type = some (.slice e)) (he : P.underlying e = some (.int .u32)) (hc : P.cellsOf e = 1) (hbe : P.bytesOf e = 4)
    (hv : Cell.okWide P w .any b0 f1.type c1) (hf : DataW.trod enc P w 0 (fun _ => true) true fuel t [c0, c1] = some x) (hsz : (x.1.weights P t).all (· ≤ reachBytes) = true) :
    ∃ (neg : Bool) (xs : List Nat), Lm xs ∧ xs.length ≤ 35184372087808 ∧ Rep (E0 w) (.val (.bool neg)) c0 ∧ Rep (E0 w) (SU xs) c1 := by
  obtain ⟨ys, n, _, rfl, _, hyl, hfs⟩ := DataW.trod_struct ht hf
  have g0 := hfs 0 f0 rfl
  have g1 := hfs 1 f1 rfl
  rw [o0, n0] at g0
  rw [o1, n1] at g1
  obtain ⟨y0, y1, rfl⟩ : ∃ y0 y1, ys = [y0, y1] := by
    match ys, hyl with
    | [y0, y1], _ => exact ⟨y0, y1, rfl⟩
  have g0 : DataW.trod enc P w 0 (fun _ => true) true n f0.type [c0] = some y0 := g0
  have g1 : DataW.trod enc P w 0 (fun _ => true) true n f1.type [c1] = some y1 := g1
  simp only [DataW.weights, ht, List.map_cons, List.map_nil, DataW.weightsEach, List.append_nil, List.all_append, Bool.and_eq_true] at hsz
  obtain ⟨neg, h0, _⟩ := DataW.trod_bool hb g0
  obtain ⟨xs, h1, h2, h3⟩ := cell_limbs hs he hc hbe hv g1 hsz.2
  simp only [List.cons.injEq, and_true] at h0
  exact ⟨neg, xs, h1, h2, by simp [Rep, h0], h3⟩

/-- A number with its sign, as an argument. -/
theorem arg_whole {t e : TypeId} {f0 f1 : Field} {b0 : Nat} {v : Value} {d : DataW H} {p : List MemPlace} (ht : P.underlying t = some (.struct #[f0, f1])) (hn : P.cellsOf t = 2)
    (o0 : f0.offset = 0) (o1 : f1.offset = 1) (n0 : P.cellsOf f0.type = 1) (n1 : P.cellsOf f1.type = 1) (hb : P.underlying f0.type = some .bool)
    (hs : P.underlying f1.type = some (.slice e)) (he : P.underlying e = some (.int .u32)) (hc : P.cellsOf e = 1) (hbe : P.bytesOf e = 4) (hts : P.cellTypes P.depth t = some [f0.type, f1.type])
    (hv : Value.okWide P w .any b0 t v) (hd : DataW.Trod enc P w 0 (fun _ => true) true t v d p) (hsz : (d.weights P t).all (· ≤ reachBytes) = true) :
    ∃ (neg : Bool) (xs : List Nat), Lm xs ∧ xs.length ≤ 35184372087808 ∧ Rep (E0 w) (.agg [.val (.bool neg), SU xs]) v := by
  simp only [Value.okWide, ht] at hv
  obtain ⟨cs, rfl, hcs, ts, hts', _, hrow⟩ := hv
  rw [hts] at hts'
  obtain rfl := Option.some.inj hts'
  rw [hn] at hcs
  obtain ⟨l⟩ := cs
  obtain ⟨c0, c1, rfl⟩ : ∃ c0 c1, l = [c0, c1] := by
    match l, hcs with
    | [c0, c1], _ => exact ⟨c0, c1, rfl⟩
  obtain ⟨u, hu, hok⟩ := hrow 1 c1 rfl
  obtain rfl : f1.type = u := by simpa using hu
  obtain ⟨fuel, hf⟩ := hd
  obtain ⟨neg, xs, h1, h2, h3, h4⟩ := cells_whole ht hn o0 o1 n0 n1 hb hs he hc hbe hok (x := (d, p)) hf hsz
  exact ⟨neg, xs, h1, h2, by simp only [Rep]; exact ⟨[c0, c1], rfl, by simp only [RepL]; exact ⟨h3, h4, trivial⟩⟩⟩
/-- A fraction, as an argument. -/
theorem arg_ratio {t e : TypeId} {g0 g1 f0 f1 : Field} {b0 : Nat} {v : Value} {d : DataW H} {p : List MemPlace} (ht : P.underlying t = some (.struct #[g0, g1])) (hn : P.cellsOf t = 3)
    (o0 : g0.offset = 0) (o1 : g1.offset = 2) (n0 : P.cellsOf g0.type = 2) (n1 : P.cellsOf g1.type = 1) (hw : P.underlying g0.type = some (.struct #[f0, f1])) (hwn : P.cellsOf g0.type = 2)
    (p0 : f0.offset = 0) (p1 : f1.offset = 1) (m0 : P.cellsOf f0.type = 1) (m1 : P.cellsOf f1.type = 1) (hb : P.underlying f0.type = some .bool)
    (hs : P.underlying f1.type = some (.slice e)) (hs' : P.underlying g1.type = some (.slice e)) (he : P.underlying e = some (.int .u32)) (hc : P.cellsOf e = 1) (hbe : P.bytesOf e = 4) (hts : P.cellTypes P.depth t = some [f0.type, f1.type, g1.type])
    (hv : Value.okWide P w .any b0 t v) (hd : DataW.Trod enc P w 0 (fun _ => true) true t v d p) (hsz : (d.weights P t).all (· ≤ reachBytes) = true) :
    ∃ (neg : Bool) (xs ds : List Nat), Lm xs ∧ xs.length ≤ 35184372087808 ∧ Lm ds ∧ ds.length ≤ 35184372087808 ∧ Rep (E0 w) (.agg [.val (.bool neg), SU xs, SU ds]) v := by
  simp only [Value.okWide, ht] at hv
  obtain ⟨cs, rfl, hcs, ts, hts', _, hrow⟩ := hv
  rw [hts] at hts'
  obtain rfl := Option.some.inj hts'
  rw [hn] at hcs
  obtain ⟨l⟩ := cs
  obtain ⟨c0, c1, c2, rfl⟩ : ∃ c0 c1 c2, l = [c0, c1, c2] := by
    match l, hcs with
    | [c0, c1, c2], _ => exact ⟨c0, c1, c2, rfl⟩
  obtain ⟨u, hu, hok⟩ := hrow 1 c1 rfl
  obtain rfl : f1.type = u := by simpa using hu
  obtain ⟨u, hu, hok2⟩ := hrow 2 c2 rfl
  obtain rfl : g1.type = u := by simpa using hu
  obtain ⟨fuel, hf⟩ := hd
  have hf : DataW.trod enc P w 0 (fun _ => true) true fuel t [c0, c1, c2] = some (d, p) := hf
  obtain ⟨ys, n, _, hx, _, hyl, hfs⟩ := DataW.trod_struct ht hf
  have h0 := hfs 0 g0 rfl
  have h1 := hfs 1 g1 rfl
  rw [o0, n0] at h0
  rw [o1, n1] at h1
  obtain ⟨y0, y1, rfl⟩ : ∃ y0 y1, ys = [y0, y1] := by
    match ys, hyl with
    | [y0, y1], _ => exact ⟨y0, y1, rfl⟩
  have h0 : DataW.trod enc P w 0 (fun _ => true) true n g0.type [c0, c1] = some y0 := h0
  have h1 : DataW.trod enc P w 0 (fun _ => true) true n g1.type [c2] = some y1 := h1
  obtain ⟨rfl, rfl⟩ := Prod.mk.inj hx
  simp only [DataW.weights, ht, List.map_cons, List.map_nil, DataW.weightsEach, List.append_nil, List.all_append, Bool.and_eq_true] at hsz
  obtain ⟨neg, xs, a1, a2, a3, a4⟩ := cells_whole hw hwn p0 p1 m0 m1 hb hs he hc hbe hok h0 hsz.1
  obtain ⟨ds, b1, b2, b3⟩ := cell_limbs hs' he hc hbe hok2 h1 hsz.2
  exact ⟨neg, xs, ds, a1, a2, b1, b2, by simp only [Rep]; exact ⟨[c0, c1, c2], rfl, by simp only [RepL]; exact ⟨a3, a4, b3, trivial⟩⟩⟩
end

end Go.Proofs.Ytfjdfnlkobeehaa
