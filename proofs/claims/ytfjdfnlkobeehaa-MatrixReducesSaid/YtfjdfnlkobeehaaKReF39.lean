/- Part 39 of the way to the statement: the walk and what it needs. -/
import Derived.Test.YtfjdfnlkobeehaaKReF37
import Derived.Test.YtfjdfnlkobeehaaKReF38
section
set_option maxRecDepth 100000
set_option linter.unusedVariables false
set_option linter.unusedSimpArgs false
namespace Go.Proofs.Ytfjdfnlkobeehaa

def MC (ids caps : Nat → Nat) (cols n : Nat) : List PV := (List.range n).map fun i => .ref (ids i) 0 cols (caps i) 2
theorem MC_len (ids caps : Nat → Nat) (cols n : Nat) : (MC ids caps cols n).length = n := by simp [MC]
theorem MC_succ (ids caps : Nat → Nat) (cols n : Nat) : MC ids caps cols (n + 1) = MC ids caps cols n ++ [.ref (ids n) 0 cols (caps n) 2] := by simp [MC, List.range_succ]
theorem MC_congr {ids ids' caps caps' : Nat → Nat} {cols n : Nat} (h : ∀ i, i < n → ids i = ids' i ∧ caps i = caps' i) : MC ids caps cols n = MC ids' caps' cols n := List.map_congr_left fun i hi => by
  obtain ⟨h1, h2⟩ := h i (List.mem_range.1 hi)
  rw [h1, h2]
theorem MC_get {ids caps : Nat → Nat} {cols n i : Nat} (r : List PV) (h : i < n) : (MC ids caps cols n ++ r)[i]? = some (.ref (ids i) 0 cols (caps i) 2) := by
  rw [List.getElem?_append_left (by rw [MC_len]; exact h)]
  simp [MC, h]
end Go.Proofs.Ytfjdfnlkobeehaa
end

section
set_option maxRecDepth 100000
set_option linter.unusedVariables false
set_option linter.unusedSimpArgs false
namespace Go.Proofs.Ytfjdfnlkobeehaa

def LC (z : Nat → Int) (ids caps : Nat → Nat) (n : Nat) : List PV := (List.range n).flatMap fun i => [.val (.bool (decide (z i < 0))), .ref (ids i) 0 (D (z i).natAbs).length (caps i) 1]
theorem LC_succ (z : Nat → Int) (ids caps : Nat → Nat) (n : Nat) : LC z ids caps (n + 1) = LC z ids caps n ++ [.val (.bool (decide (z n < 0))), .ref (ids n) 0 (D (z n).natAbs).length (caps n) 1] := by
  unfold LC
  rw [List.range_succ, List.flatMap_append]; rfl
theorem LC_len (z : Nat → Int) (ids caps : Nat → Nat) : ∀ n, (LC z ids caps n).length = n * 2
  | 0 => rfl
  | n + 1 => by rw [LC_succ, List.length_append, LC_len z ids caps n]; simp; omega
theorem LC_congr {z : Nat → Int} {ids ids' caps caps' : Nat → Nat} : ∀ {n : Nat}, (∀ i, i < n → ids i = ids' i ∧ caps i = caps' i) → LC z ids caps n = LC z ids' caps' n
  | 0, _ => rfl
  | n + 1, h => by rw [LC_succ, LC_succ, LC_congr fun i hi => h i (by omega), (h n (by omega)).1, (h n (by omega)).2]

structure OR (H : Nat → Option (List PV)) (lo b id n : Nat) (z : Nat → Int) (ids caps : Nat → Nat) : Prop where
  out : ∃ rest : List Value, H id = some (LC z ids caps n ++ rest.map .val)
  leaf : ∀ i, i < n → ∃ rest : List Value, H (ids i) = some ((D (z i).natAbs).map U ++ rest.map .val) ∧ (D (z i).natAbs).length + rest.length = caps i
  lt : ∀ i, i < n → lo ≤ ids i ∧ ids i < b ∧ ids i ≠ id
  inj : ∀ i j, i < n → j < n → ids i = ids j → i = j
  id : lo ≤ id ∧ id < b
theorem OR.mono {H H' : Nat → Option (List PV)} {lo b b' id n : Nat} {z : Nat → Int} {ids caps : Nat → Nat} (h : OR H lo b id n z ids caps) (hb : b ≤ b') (hH : ∀ j, lo ≤ j → j < b → H' j = H j) : OR H' lo b' id n z ids caps := by
  obtain ⟨rest, ho⟩ := h.out
  refine ⟨⟨rest, by rw [hH _ h.id.1 h.id.2]; exact ho⟩, fun i hi => ?_, fun i hi => ?_, h.inj, ⟨h.id.1, by have := h.id.2; omega⟩⟩
  · obtain ⟨r, hr, hc⟩ := h.leaf i hi
    have := h.lt i hi
    exact ⟨r, by rw [hH _ this.1 this.2.1]; exact hr, hc⟩
  · have := h.lt i hi
    exact ⟨this.1, by omega, this.2.2⟩
theorem OR.lower {H : Nat → Option (List PV)} {lo lo' b id n : Nat} {z : Nat → Int} {ids caps : Nat → Nat} (h : OR H lo b id n z ids caps) (hl : lo' ≤ lo) : OR H lo' b id n z ids caps :=
  ⟨h.out, h.leaf, fun i hi => ⟨Nat.le_trans hl (h.lt i hi).1, (h.lt i hi).2⟩, h.inj, ⟨Nat.le_trans hl h.id.1, h.id.2⟩⟩

def rowLQ (z : Nat → Int) (n : Nat) (H : Nat → Option (List PV)) (nx : Nat) (r : PV) (H' : Nat → Option (List PV)) (nx' : Nat) : Prop :=
  ∃ (id cap : Nat) (ids caps : Nat → Nat), r = .ref id 0 n cap 2 ∧ OR H' nx nx' id n z ids caps ∧ ∀ j, j < nx → H' j = H j
set_option maxHeartbeats 8000000 in
theorem each_wL {l : List (Bool × List Nat)} {z : Nat → Int} {f : FuncId} {cs : List PV} {H : Nat → Option (List PV)} {nx : Nat} (hf : flatL cs = true) (hcv : ∀ H, cs.map (view H) = cs) (hlen : l.length ≤ 1000000)
    (h : ∀ i (hi : i < l.length), PW f (WX l[i].1 l[i].2 :: cs) (z i)) : PCalls Try.prog 68 [SW l, .fn f cs] H nx (rowLQ z l.length H nx) := by
  have hrp := replW l.length
  have hrl := repl_len l.length [Value.bool false, Value.slice none 0 0]
  refine PCalls.enter (n := 25) (rs := [.tmp 4]) (tb := []) Try.func68 rfl rfl rfl (by kernel_rfl) (by kernel_rfl) (by simp) fun c hc ht => ?_
  simp -implicitDefEqProofs (disch := omega) only [go_sem, ht]
  refine LW.loopW hc ht (by kernel_rfl) (fun t => t.sl 1 = .fn f cs ∧ t.sl 11 = .sl l.length (SWc l) ∧ t.sl 12 = .val (.int .i64 l.length) ∧ ∃ i : Nat, i ≤ l.length ∧ t.sl 13 = .val (.int .i64 i) ∧ ∃ (id cap : Nat) (rest : List Value) (ids caps : Nat → Nat), t.sl 5 = .ref id 0 i cap 2 ∧ t.H id = some (LC z ids caps i ++ rest.map .val) ∧ i * 2 + rest.length = cap * 2 ∧ id < t.nx ∧ nx ≤ id ∧
      (∀ k, k < i → (∃ rest : List Value, t.H (ids k) = some ((D (z k).natAbs).map U ++ rest.map .val) ∧ (D (z k).natAbs).length + rest.length = caps k) ∧ nx ≤ ids k ∧ ids k < t.nx ∧ ids k ≠ id) ∧ (∀ a b, a < i → b < i → ids a = ids b → a = b) ∧ ∀ j, j < nx → t.H j = H j)
    (fun t => match t.sl 13 with | .val (.int _ k) => l.length - k.toNat | _ => 0) ?_ ?_
  · simp -implicitDefEqProofs (disch := omega) only [go_sem, ht]
    refine ⟨0, Nat.zero_le _, rfl, nx, l.length, repl l.length [Value.bool false, Value.slice none 0 0], fun _ => 0, fun _ => 0, rfl, ?_, by rw [hrl]; simp, by omega, by omega, fun k hk => by omega, fun a b ha => by omega, fun j hj => upd_ne _ _ (by omega)⟩
    rw [upd_self, hrp]; rfl
  · rintro t ⟨h1, h11, h12, i, hi, h13, id, cap, rest, ids, caps, h5, hH, hcap, hid, hnid, hrow, hinj, hfr⟩
    by_cases hil : i = l.length
    · subst hil
      simp -implicitDefEqProofs (disch := omega) only [go_sem, ht, h1, h5, h11, h12, h13]
      refine end_plain (by simp -implicitDefEqProofs (disch := omega) only [go_sem, ht] <;> rfl) ?_
      simp only [tupP_1]
      exact ⟨id, cap, ids, caps, rfl, ⟨⟨rest, hH⟩, fun k hk => (hrow k hk).1, fun k hk => (hrow k hk).2, hinj, ⟨hnid, hid⟩⟩, hfr⟩
    · have hlt : i < l.length := by omega
      have hat := SWc_at hlt
      have hel := h i hlt
      have hll := LC_len z ids caps i
      simp -implicitDefEqProofs (disch := omega) only [go_sem, ht, h1, h5, h11, h12, h13, hat]
      refine ⟨f, cs, rfl, ?_⟩
      (refine pCall_own1 (mk := mkW (z i)) (mk_W (z i)) (by simp -implicitDefEqProofs (disch := omega) only [h1, h5, h11, h12, h13, hcv, hf, List.map_append, go_sem, ht] <;> rfl) (by simp -implicitDefEqProofs (disch := omega) only [h1, h5, h11, h12, h13, hcv, hf, List.map_append, go_sem, ht]) (closedL_U _) (flatL_U _) (hel) ?_; intro id9 cap9 rest9 nx9 hid9 hnx9 hcap9; simp only [put_nx, withH_nx, begP_nx, List.length_map] at hid9 hcap9; simp -implicitDefEqProofs (disch := omega) only [h1, h5, h11, h12, h13, hcv, hf, List.map_append, go_sem, ht])
      have hn1 : id ≠ nx9 := by omega
      have hn2 : id ≠ id9 := by omega
      have hn3 : id ≠ t.nx := by omega
      (refine append_ownSX (by refine ⟨?_, ?_, ?_, ?_, ?_, ?_, ?_, ?_⟩ <;> (simp -implicitDefEqProofs (disch := omega) only [srcP_ref, srcP_sl, srcP_nil, Option.isSome_some, upd_self, hH, hn1, hn2, hn3, go_sem, ht] <;> rfl)) (by rfl) (by first | omega | (simp <;> omega)) (by first | assumption | (simp <;> omega)) (by first | rfl | simp) (by first | omega | (simp <;> omega)) ?_; intro id1 cap1 rest1 H1 nx1 hH1 hcap1 hid1 hnx1 hfr1 hfs1; simp only [put_nx, withH_nx, put_H, withH_H] at hid1 hnx1 hfr1 hfs1)
      obtain ⟨ids', ea, eb⟩ : ∃ g : Nat → Nat, g i = id9 ∧ ∀ k, k ≠ i → g k = ids k := ⟨fun k => if k = i then id9 else ids k, if_pos rfl, fun k hk => if_neg hk⟩
      obtain ⟨caps', ec, ed⟩ : ∃ g : Nat → Nat, g i = cap9 ∧ ∀ k, k ≠ i → g k = caps k := ⟨fun k => if k = i then cap9 else caps k, if_pos rfl, fun k hk => if_neg hk⟩
      have hC : LC z ids' caps' (i + 1) = LC z ids caps i ++ [.val (.bool (decide (z i < 0))), .ref id9 0 (D (z i).natAbs).length cap9 1] := by
        rw [LC_succ, ea, ec]
        congr 1
        exact LC_congr fun k hk => ⟨eb k (by omega), ed k (by omega)⟩
      have hkeep : ∀ j, j < t.nx → j ≠ id → H1 j = t.H j := fun j hj hji => by
        rw [hfr1 j hji (by omega), upd_ne _ _ (by omega), upd_ne _ _ (by omega), upd_ne _ _ (by omega)]
      simp -implicitDefEqProofs (disch := omega) only [go_sem, ht, h1, h11, h12, h13]
      refine ⟨⟨i + 1, by omega, rfl, id1, cap1, rest1, ids', caps', rfl, by rw [hC]; exact hH1, by omega, by omega, by omega, fun k hk => ?_, fun a b ha hb hab => ?_, fun j hj => by rw [hkeep j (by omega) (by omega)]; exact hfr j hj⟩, by omega⟩
      · by_cases hki : k = i
        · subst hki
          rw [ea, ec]
          refine ⟨⟨rest9, ?_, by omega⟩, by omega, by omega, by omega⟩
          rw [hfr1 id9 (by omega) (by omega), upd_ne _ _ (by omega), upd_self]
        · rw [eb k hki, ed k hki]
          obtain ⟨⟨rk, hrk, hck⟩, g1, g2, g3⟩ := hrow k (by omega)
          exact ⟨⟨rk, by rw [hkeep _ g2 g3]; exact hrk, hck⟩, g1, by omega, by omega⟩
      · by_cases hai : a = i <;> by_cases hbi : b = i
        · omega
        · rw [hai, ea, eb b hbi] at hab
          have := (hrow b (by omega)).2; omega
        · rw [hbi, ea, eb a hai] at hab
          have := (hrow a (by omega)).2; omega
        · rw [eb a hai, eb b hbi] at hab
          exact hinj a b (by omega) (by omega) hab
theorem upZ_vc (z : List Int) (i : Nat) (h : i < z.length) : vc (upZ z) i = if sgF 0 z < 0 then -vc z i else vc z i := by
  unfold upZ
  split
  · rw [vc_lt (by simpa using h), vc_lt h]; simp
  · rfl
set_option maxHeartbeats 4000000 in
theorem up_L {l : List (Bool × List Nat)} {k : Nat} {H : Nat → Option (List PV)} {nx : Nat} (h : Rn l k) (hlen : l.length ≤ 1000000) : PCalls Try.prog 92 [SW l] H nx (rowLQ (fun i => if sgF 0 (vals l) < 0 then -vc (vals l) i else vc (vals l) i) l.length H nx) := by
  have e1 := fun H nx => each_wL (l := l) (z := fun i => -vc (vals l) i) (f := 35) (cs := []) (H := H) (nx := nx) rfl (fun H => rfl) hlen fun i hi => by
    have hw := h.wn hi
    have := wneg_calls (b := l[i].1) hw.ok
    rwa [hw.val] at this
  have e2 := fun H nx => each_wL (l := l) (z := fun i => vc (vals l) i) (f := 34) (cs := []) (H := H) (nx := nx) rfl (fun H => rfl) hlen fun i hi => by
    have hw := h.wn hi
    have := wtrim_calls (b := l[i].1) hw.ok
    rwa [hw.val] at this
  refine PCalls.enter (n := 23) (rs := [.tmp 2]) (tb := []) Try.func92 rfl rfl rfl (by kernel_rfl) (by kernel_rfl) (by simp) fun c hc ht => ?_
  simp -implicitDefEqProofs (disch := omega) only [go_sem, ht]
  refine LW.loopW hc ht (by kernel_rfl) (fun t => t.sl 0 = .sl l.length (SWc l) ∧ t.sl 6 = .sl l.length (SWc l) ∧ t.sl 7 = .val (.int .i64 l.length) ∧ nx ≤ t.nx ∧ (∀ j, j < nx → t.H j = H j) ∧ ∃ i : Nat, i ≤ l.length ∧ t.sl 8 = .val (.int .i64 i) ∧ t.sl 3 = .val (.int .i64 (sgF 0 ((vals l).take i))))
    (fun t => match t.sl 8 with | .val (.int _ k) => l.length - k.toNat | _ => 0) ?_ ?_
  · simp -implicitDefEqProofs (disch := omega) only [go_sem, ht]
    exact ⟨Nat.le_refl _, fun _ _ => trivial, 0, Nat.zero_le _, rfl, rfl⟩
  · rintro t ⟨h0, h6, h7, hnx, hfr, i, hi, h8, h3⟩
    by_cases hil : i = l.length
    · subst hil
      rw [List.take_of_length_le (by rw [vals_len]; omega)] at h3
      by_cases hs : sgF 0 (vals l) < 0
      · simp only [if_pos hs]
        generalize sgF 0 (vals l) = s at *
        simp -implicitDefEqProofs (disch := omega) only [go_sem, ht, h0, h6, h7, h8, h3]
        apply pCall_mem
        exact e1 _ _
        rintro r H1 nx1 ⟨id, cap, ids, caps, rfl, hO, hfr1⟩ hn1
        simp only [put_nx, put_H, withH_nx, withH_H] at hO hfr1 hn1
        simp -implicitDefEqProofs (disch := omega) only [go_sem, ht]
        refine end_plain (by simp -implicitDefEqProofs (disch := omega) only [go_sem, ht] <;> rfl) ?_
        simp only [tupP_1]
        exact ⟨id, cap, ids, caps, rfl, hO.lower hnx, fun j hj => (hfr1 j (by omega)).trans (hfr j hj)⟩
      · simp only [if_neg hs]
        generalize sgF 0 (vals l) = s at *
        simp -implicitDefEqProofs (disch := omega) only [go_sem, ht, h0, h6, h7, h8, h3]
        apply pCall_mem
        exact e2 _ _
        rintro r H1 nx1 ⟨id, cap, ids, caps, rfl, hO, hfr1⟩ hn1
        simp only [put_nx, put_H, withH_nx, withH_H] at hO hfr1 hn1
        simp -implicitDefEqProofs (disch := omega) only [go_sem, ht]
        refine end_plain (by simp -implicitDefEqProofs (disch := omega) only [go_sem, ht] <;> rfl) ?_
        simp only [tupP_1]
        exact ⟨id, cap, ids, caps, rfl, hO.lower hnx, fun j hj => (hfr1 j (by omega)).trans (hfr j hj)⟩
    · have hlt : i < l.length := by omega
      have hat := SWc_at hlt
      have hs := signW (h.wn hlt)
      have hst := sgF_take (t := 0) (zs := vals l) (i := i) (by rw [vals_len]; exact hlt)
      rw [← vc_lt (z := vals l)] at hst
      obtain ⟨s2, es2⟩ : ∃ s2, sgF 0 ((vals l).take (i + 1)) = s2 := ⟨_, rfl⟩
      rw [es2] at hst
      generalize sgF 0 ((vals l).take i) = s1 at *
      generalize cZ (vc (vals l) i) 0 = sx at *
      by_cases h10 : s1 = 0
      · rw [if_pos h10] at hst
        simp -implicitDefEqProofs (disch := omega) only [go_sem, ht, h0, h6, h7, h8, h3, hat]
        (refine pCall_vw (by refine ⟨⟨?_, ?_⟩, ?_, ?_⟩; rotate_left 2; (first | (right; rintro r rfl; rfl) | left); all_goals ((try simp -implicitDefEqProofs (disch := omega) only [h0, h6, h7, h8, h3, hat, go_sem, ht]) <;> rfl)) (hs) ?_; rintro _ nx - rfl hnx; simp -implicitDefEqProofs (disch := omega) only [h0, h6, h7, h8, h3, hat, go_sem, ht])
        exact ⟨⟨by omega, fun j hj => by rw [upd_ne _ _ (by omega)]; exact hfr j hj, i + 1, by omega, rfl, by rw [es2, hst]⟩, by omega⟩
      · rw [if_neg h10] at hst
        simp -implicitDefEqProofs (disch := omega) only [go_sem, ht, h0, h6, h7, h8, h3, hat]
        exact ⟨⟨by omega, fun j hj => by rw [upd_ne _ _ (by omega)]; exact hfr j hj, i + 1, by omega, rfl, by rw [es2, hst]⟩, by omega⟩
end Go.Proofs.Ytfjdfnlkobeehaa
end

section
set_option maxRecDepth 100000
set_option linter.unusedVariables false
set_option linter.unusedSimpArgs false
namespace Go.Proofs.Ytfjdfnlkobeehaa

structure OT (H : Nat → Option (List PV)) (lo0 b idM n cols : Nat) (z : Nat → Nat → Int) (rid rcap lo hi : Nat → Nat) (ids caps : Nat → Nat → Nat) : Prop where
  out : ∃ rest : List Value, H idM = some (MC rid rcap cols n ++ rest.map .val)
  row : ∀ k, k < n → OR H (lo k) (hi k) (rid k) cols (z k) (ids k) (caps k)
  bd : ∀ k, k < n → lo0 ≤ lo k ∧ hi k ≤ b ∧ (idM < lo k ∨ hi k ≤ idM)
  ord : ∀ j k, j < k → k < n → hi j ≤ lo k
  idM : lo0 ≤ idM ∧ idM < b

def rowsLQ (z : Nat → Nat → Int) (n cols : Nat) (H : Nat → Option (List PV)) (nx : Nat) (r : PV) (H' : Nat → Option (List PV)) (nx' : Nat) : Prop :=
  ∃ (idM capM : Nat) (rid rcap lo hi : Nat → Nat) (ids caps : Nat → Nat → Nat), r = .ref idM 0 n capM 1 ∧ OT H' nx nx' idM n cols z rid rcap lo hi ids caps ∧ ∀ j, j < nx → H' j = H j
set_option maxHeartbeats 8000000 in
theorem each_rL {m : List (List (Bool × List Nat))} {z : Nat → Nat → Int} {cols : Nat} {f : FuncId} {H : Nat → Option (List PV)} {nx : Nat} (hlen : m.length ≤ 1000000)
    (h : ∀ i, i < m.length → ∀ H nx, PCalls Try.prog f [SW (m.getD i [])] H nx (rowLQ (z i) cols H nx)) :
    PCalls Try.prog 66 [SM m, .fn f []] H nx (rowsLQ z m.length cols H nx) := by
  have hrp := repl_nil m.length
  have hrl := repl_len m.length [Value.slice none 0 0]
  refine PCalls.enter (n := 25) (rs := [.tmp 4]) (tb := []) Try.func66 rfl rfl rfl (by kernel_rfl) (by kernel_rfl) (by simp) fun c hc ht => ?_
  simp -implicitDefEqProofs (disch := omega) only [go_sem, ht]
  refine LW.loopW hc ht (by kernel_rfl) (fun t => t.sl 1 = .fn f [] ∧ t.sl 11 = .sl m.length (m.map SW) ∧ t.sl 12 = .val (.int .i64 m.length) ∧ ∃ i : Nat, i ≤ m.length ∧ t.sl 13 = .val (.int .i64 i) ∧ ∃ (id cap : Nat) (rest : List Value) (rid rcap lo hi : Nat → Nat) (ids caps : Nat → Nat → Nat), t.sl 5 = .ref id 0 i cap 1 ∧ t.H id = some (MC rid rcap cols i ++ rest.map .val) ∧ i + rest.length = cap ∧ nx ≤ id ∧ id < t.nx ∧
      (∀ k, k < i → OR t.H (lo k) (hi k) (rid k) cols (z k) (ids k) (caps k) ∧ nx ≤ lo k ∧ hi k ≤ t.nx ∧ (id < lo k ∨ hi k ≤ id)) ∧ (∀ j k, j < k → k < i → hi j ≤ lo k) ∧ ∀ j, j < nx → t.H j = H j)
    (fun t => match t.sl 13 with | .val (.int _ k) => m.length - k.toNat | _ => 0) ?_ ?_
  · simp -implicitDefEqProofs (disch := omega) only [go_sem, ht]
    refine ⟨0, Nat.zero_le _, rfl, nx, m.length, repl m.length [Value.slice none 0 0], fun _ => 0, fun _ => 0, fun _ => 0, fun _ => 0, fun _ _ => 0, fun _ _ => 0, rfl, ?_, by rw [hrl]; simp, by omega, by omega, fun k hk => by omega, fun a b ha hb => by omega, fun j hj => upd_ne _ _ (by omega)⟩
    rw [upd_self, hrp]; rfl
  · rintro t ⟨h1, h11, h12, i, hi', h13, id, cap, rest, rid, rcap, lo, hi, ids, caps, h5, hH, hcap, hnid, hid, hrow, hord, hfr⟩
    by_cases hil : i = m.length
    · subst hil
      simp -implicitDefEqProofs (disch := omega) only [go_sem, ht, h1, h5, h11, h12, h13]
      refine end_plain (by simp -implicitDefEqProofs (disch := omega) only [go_sem, ht] <;> rfl) ?_
      simp only [tupP_1]
      exact ⟨id, cap, rid, rcap, lo, hi, ids, caps, rfl, ⟨⟨rest, hH⟩, fun k hk => (hrow k hk).1, fun k hk => (hrow k hk).2, hord, ⟨hnid, hid⟩⟩, hfr⟩
    · have hlt : i < m.length := by omega
      have hgi := get_SM' hlt
      have hel := h i hlt
      have hml := MC_len rid rcap cols i
      generalize m.getD i [] = l0 at *
      simp -implicitDefEqProofs (disch := omega) only [go_sem, ht, h1, h5, h11, h12, h13, hgi]
      refine ⟨f, [], rfl, ?_⟩
      apply pCall_mem
      exact hel _ _
      rintro r H2 nx2 ⟨ir, capr, idr, capsr, rfl, hO, hfr2⟩ hn2
      (try simp only [put_nx, withH_nx, put_H, withH_H] at hO hfr2 hn2)
      have hH2 : H2 id = some (MC rid rcap cols i ++ rest.map .val) := by rw [hfr2 id hid]; exact hH
      have hOid := hO.id
      simp -implicitDefEqProofs (disch := omega) only [go_sem, ht, h1, h5, h11, h12, h13]
      have hne : id ≠ nx2 := by omega
      (refine append_ownX (by refine ⟨?_, ?_, ?_, ?_, ?_, ?_, ?_, ?_⟩ <;> (simp -implicitDefEqProofs (disch := omega) only [srcP_ref, srcP_sl, srcP_nil, Option.isSome_some, hH2, hne, go_sem, ht] <;> rfl)) (by first | omega | (simp <;> omega)) (by first | assumption | (simp <;> omega)) (by first | rfl | simp) (by first | omega | (simp <;> omega)) ?_; intro id1 cap1 rest1 H1 nx1 hH1 hcap1 hid1 hnx1 hfr1 hfs1; (try simp only [put_nx, withH_nx, put_H, withH_H] at hid1 hnx1 hfr1 hfs1); (try simp only [app_U, ← List.map_append] at hH1))
      have hmk : ∀ {α : Type} (g : Nat → α) (x : α), ∃ g' : Nat → α, g' i = x ∧ ∀ k, k ≠ i → g' k = g k := fun g x => ⟨fun k => if k = i then x else g k, if_pos rfl, fun k hk => if_neg hk⟩
      obtain ⟨rid', ea, eb⟩ := hmk rid ir
      obtain ⟨rcap', ec, ed⟩ := hmk rcap capr
      obtain ⟨lo', ee, ef⟩ := hmk lo t.nx
      obtain ⟨hi2, eg, eh⟩ := hmk hi nx2
      obtain ⟨ids', ei, ej⟩ := hmk ids idr
      obtain ⟨caps', ek, el⟩ := hmk caps capsr
      have hC : MC rid' rcap' cols (i + 1) = MC rid rcap cols i ++ [.ref ir 0 cols capr 2] := by
        rw [MC_succ, ea, ec]
        congr 1
        exact MC_congr fun k hk => ⟨eb k (by omega), ed k (by omega)⟩
      have hkeep : ∀ j, j < t.nx → j ≠ id → H1 j = t.H j := fun j hj hji => by
        rw [hfr1 j hji (by omega)]
        simp -implicitDefEqProofs (disch := omega) only [go_sem, ht]
        exact hfr2 j hj
      simp -implicitDefEqProofs (disch := omega) only [go_sem, ht, h1, h11, h12, h13]
      refine ⟨⟨i + 1, by omega, rfl, id1, cap1, rest1, rid', rcap', lo', hi2, ids', caps', rfl, by rw [hC]; exact hH1, by omega, by omega, by omega, fun k hk => ?_, fun a b hab hb => ?_, fun j hj => by rw [hkeep j (by omega) (by omega)]; exact hfr j hj⟩, by omega⟩
      · by_cases hki : k = i
        · subst hki
          rw [ea, ee, eg, ei, ek]
          refine ⟨hO.mono (Nat.le_refl _) fun j h1 h2 => ?_, by omega, by omega, by omega⟩
          rw [hfr1 j (by omega) (by omega)]
          simp -implicitDefEqProofs (disch := omega) only [go_sem, ht]
        · rw [eb k hki, ef k hki, eh k hki, ej k hki, el k hki]
          obtain ⟨g0, g1, g2, g3⟩ := hrow k (by omega)
          refine ⟨g0.mono (Nat.le_refl _) fun j h1 h2 => hkeep j (by omega) (by omega), g1, by omega, by omega⟩
      · by_cases hbi : b = i
        · subst hbi
          rw [eh a (by omega), ee]
          exact (hrow a (by omega)).2.2.1
        · rw [eh a (by omega), ef b hbi]
          exact hord a b hab (by omega)
end Go.Proofs.Ytfjdfnlkobeehaa
end
