/- Part 16 of the way to the statement: the walk and what it needs. -/
import Derived.Test.YtfjdfnlkobeehaaKDeF15
section
set_option linter.unusedVariables false
set_option linter.unusedSimpArgs false
namespace Go.Proofs.Ytfjdfnlkobeehaa

variable {P : Program}


section
variable {ops : Array Oper} {K : PS → Prop} {o : Oper} {r : List Oper} {st : PS}
theorem gstep_undef (w : Bool) : gstep P ops K o r st w (.val undef) = pOps P ops K r (st.put o.dst (.val undef)) := rfl
theorem gstep_tt : gstep P ops K o r st true (.val (.bool true)) = pOps P ops K (o :: r) st := by simp [gstep]
theorem gstep_tf : gstep P ops K o r st false (.val (.bool true)) = pOps P ops K r (st.put o.dst (.val undef)) := by simp [gstep]
theorem gstep_ft : gstep P ops K o r st true (.val (.bool false)) = pOps P ops K r (st.put o.dst (.val undef)) := by simp [gstep]
theorem gstep_ff : gstep P ops K o r st false (.val (.bool false)) = pOps P ops K (o :: r) st := by simp [gstep]
theorem gstep_dec_tt {p : Prop} [Decidable p] (h : p) : gstep P ops K o r st true (.val (.bool (decide p))) = pOps P ops K (o :: r) st := by simp [gstep, h]
theorem gstep_dec_tf {p : Prop} [Decidable p] (h : p) : gstep P ops K o r st false (.val (.bool (decide p))) = pOps P ops K r (st.put o.dst (.val undef)) := by simp [gstep, h]
theorem gstep_dec_ft {p : Prop} [Decidable p] (h : ¬ p) : gstep P ops K o r st true (.val (.bool (decide p))) = pOps P ops K r (st.put o.dst (.val undef)) := by simp [gstep, h]
theorem gstep_dec_ff {p : Prop} [Decidable p] (h : ¬ p) : gstep P ops K o r st false (.val (.bool (decide p))) = pOps P ops K (o :: r) st := by simp [gstep, h]

end
theorem condC_true (x y : Prop) : condC (.val (.bool true)) x y = x := by simp [condC]
theorem condC_false (x y : Prop) : condC (.val (.bool false)) x y = y := by simp [condC]
theorem condC_dec {p : Prop} [Decidable p] (x y : Prop) : condC (.val (.bool (decide p))) x y = ((p → x) ∧ (¬ p → y)) := by
  by_cases h : p <;> simp [condC, h]
theorem condC_dec_t {p : Prop} [Decidable p] (h : p) (x y : Prop) : condC (.val (.bool (decide p))) x y = x := by simp [condC, h]
theorem condC_dec_f {p : Prop} [Decidable p] (h : ¬ p) (x y : Prop) : condC (.val (.bool (decide p))) x y = y := by simp [condC, h]
theorem pickP_true (a b : PV) : pickP (.val (.bool true)) a b = some a := rfl
theorem pickP_false (a b : PV) : pickP (.val (.bool false)) a b = some b := rfl
theorem pickP_dec_t {p : Prop} [Decidable p] (h : p) (a b : PV) : pickP (.val (.bool (decide p))) a b = some a := by simp [pickP, h]
theorem pickP_dec_f {p : Prop} [Decidable p] (h : ¬ p) (a b : PV) : pickP (.val (.bool (decide p))) a b = some b := by simp [pickP, h]
attribute [go_sem] gstep_undef gstep_tt gstep_tf gstep_ft gstep_ff gstep_dec_tt gstep_dec_tf gstep_dec_ft gstep_dec_ff condC_true condC_false condC_dec_t condC_dec_f pickP_true pickP_false pickP_dec_t pickP_dec_f
attribute [go_sem low] condC_dec


theorem wrap_u64 (z : Int) : IntKind.u64.wrap z = z % 18446744073709551616 := rfl
theorem wrap_u32 (z : Int) : IntKind.u32.wrap z = z % 4294967296 := rfl
theorem wrap_u8 (z : Int) : IntKind.u8.wrap z = z % 256 := rfl
theorem arith_i64 {z : Int} (h : -9223372036854775808 ≤ z ∧ z ≤ 9223372036854775807) : arithV .i64 z = some (.int .i64 z) := by
  have h1 : IntKind.i64.min = -9223372036854775808 := rfl
  have h2 : IntKind.i64.max = 9223372036854775807 := rfl
  unfold arithV
  rw [wrap_of_range rfl (by rw [h1, h2]; exact h)]
theorem arith_i64' (z : Int) : arithV .i64 z = some (.int .i64 (IntKind.i64.wrap z)) := rfl
theorem wrap_bd (z : Int) : -9223372036854775808 ≤ IntKind.i64.wrap z ∧ IntKind.i64.wrap z ≤ 9223372036854775807 := by
  simp [IntKind.wrap, IntKind.bits, IntKind.signed]
  omega
theorem arith_i32 {z : Int} (h : -2147483648 ≤ z ∧ z ≤ 2147483647) : arithV .i32 z = some (.int .i32 z) := by
  have h1 : IntKind.i32.min = -2147483648 := rfl
  have h2 : IntKind.i32.max = 2147483647 := rfl
  unfold arithV
  rw [wrap_of_range rfl (by rw [h1, h2]; exact h)]
theorem arith_u64 {z : Int} (h : 0 ≤ z ∧ z ≤ 18446744073709551615) : arithV .u64 z = some (.int .u64 z) := by
  have : z % 18446744073709551616 = z := by omega
  simp [arithV, wrap_u64, this]
theorem arith_u64' (z : Int) : arithV .u64 z = some (.int .u64 (z % 18446744073709551616)) := rfl
theorem arith_u32 {z : Int} (h : 0 ≤ z ∧ z ≤ 4294967295) : arithV .u32 z = some (.int .u32 z) := by
  have : z % 4294967296 = z := by omega
  simp [arithV, wrap_u32, this]
theorem arith_u32' (z : Int) : arithV .u32 z = some (.int .u32 (z % 4294967296)) := rfl
theorem arith_u8 {z : Int} (h : 0 ≤ z ∧ z ≤ 255) : arithV .u8 z = some (.int .u8 z) := by
  have : z % 256 = z := by omega
  simp [arithV, wrap_u8, this]
theorem arith_u8' (z : Int) : arithV .u8 z = some (.int .u8 (z % 256)) := rfl
attribute [go_sem] arith_i64 arith_i32 arith_u64 arith_u32 arith_u8
attribute [go_sem low] arith_i64' arith_u64' arith_u32' arith_u8'

section
variable (t : TypeId) (k k' : IntKind) (a b : Int)
theorem binP_add : binP P .add t (.val (.int k a)) (.val (.int k b)) = (arithV k (a + b)).map .val := by simp [binP, binV, binI]
theorem binP_sub : binP P .sub t (.val (.int k a)) (.val (.int k b)) = (arithV k (a - b)).map .val := by simp [binP, binV, binI]
theorem binP_mul : binP P .mul t (.val (.int k a)) (.val (.int k b)) = (arithV k (a * b)).map .val := by simp [binP, binV, binI]
theorem binP_lss : binP P .lss t (.val (.int k a)) (.val (.int k b)) = some (.val (.bool (decide (a < b)))) := by simp [binP, binV, binI]
theorem binP_leq : binP P .leq t (.val (.int k a)) (.val (.int k b)) = some (.val (.bool (decide (a ≤ b)))) := by simp [binP, binV, binI]
theorem binP_gtr : binP P .gtr t (.val (.int k a)) (.val (.int k b)) = some (.val (.bool (decide (b < a)))) := by simp [binP, binV, binI]
theorem binP_geq : binP P .geq t (.val (.int k a)) (.val (.int k b)) = some (.val (.bool (decide (b ≤ a)))) := by simp [binP, binV, binI]
theorem binP_eql : binP P .eql t (.val (.int k a)) (.val (.int k b)) = some (.val (.bool (decide (a = b)))) := by simp [binP, binV, binI]
theorem binP_neq : binP P .neq t (.val (.int k a)) (.val (.int k b)) = some (.val (.bool (decide (¬ a = b)))) := by simp [binP, binV, binI]
theorem binP_quo {a b : Int} (h : 0 ≤ a ∧ 0 < b) : binP P .quo t (.val (.int k a)) (.val (.int k b)) = (arithV k (a / b)).map .val := by
  have : ¬ b = 0 := by omega
  simp [binP, binV, binI, this, Int.tdiv_eq_ediv_of_nonneg h.1]
theorem binP_rem {a b : Int} (h : 0 ≤ a ∧ 0 < b) : binP P .rem t (.val (.int k a)) (.val (.int k b)) = some (.val (.int k (a % b))) := by
  have : ¬ b = 0 := by omega
  simp [binP, binV, binI, this, Int.tmod_eq_emod_of_nonneg h.1]
theorem binP_shr : binP P .shr t (.val (.int k a)) (.val (.int k' b)) = (shiftV .shr k a b).map .val := by simp [binP, binV]
theorem binP_shl : binP P .shl t (.val (.int k a)) (.val (.int k' b)) = (shiftV .shl k a b).map .val := by simp [binP, binV]
theorem binP_and : binP P .and t (.val (.int k a)) (.val (.int k b)) = (bitsV .and k a b).map .val := by simp [binP, binV, binI]
theorem binP_or : binP P .or t (.val (.int k a)) (.val (.int k b)) = (bitsV .or k a b).map .val := by simp [binP, binV, binI]
theorem binP_eql_bool (x y : Bool) : binP P .eql t (.val (.bool x)) (.val (.bool y)) = if boolT P t = true then some (.val (.bool (x == y))) else none := by simp [binP, binV]
theorem binP_neq_bool (x y : Bool) : binP P .neq t (.val (.bool x)) (.val (.bool y)) = if boolT P t = true then some (.val (.bool (x != y))) else none := by simp [binP, binV]
theorem binP_add_str (x y : ByteArray) : binP P .add t (.val (.string x)) (.val (.string y)) = if x.size + y.size ≤ 9223372036854775807 then some (.val (.string (x ++ y))) else none := by
  simp only [binP, binV, strV]; split <;> rfl
theorem binP_eql_str (x y : ByteArray) : binP P .eql t (.val (.string x)) (.val (.string y)) = some (.val (.bool (x.toList == y.toList))) := by simp [binP, binV, strV]
theorem binP_neq_str (x y : ByteArray) : binP P .neq t (.val (.string x)) (.val (.string y)) = some (.val (.bool (!(x.toList == y.toList)))) := by simp [binP, binV, strV]
theorem shr_u64_32 : shiftV .shr .u64 a 32 = some (.int .u64 (a / 4294967296)) := by
  simp [shiftV, IntKind.bits, Int.fdiv_eq_ediv_of_nonneg]
theorem shr_u64_63 : shiftV .shr .u64 a 63 = some (.int .u64 (a / 9223372036854775808)) := by
  simp [shiftV, IntKind.bits, Int.fdiv_eq_ediv_of_nonneg]
theorem shl_u64_32 : shiftV .shl .u64 a 32 = arithV .u64 (a * 4294967296) := by simp [shiftV, IntKind.bits]
theorem shiftV_shr {b : Int} (h : 0 ≤ b) : shiftV .shr k a b = some (.int k (a / 2 ^ (min b.toNat k.bits))) := by
  have h1 : ¬ b < 0 := by omega
  have h2 : (0 : Int) ≤ 2 ^ (min b.toNat k.bits) := Int.le_of_lt (Int.pow_pos (by omega))
  simp [shiftV, h1, Int.fdiv_eq_ediv_of_nonneg _ h2]
theorem shiftV_shl {b : Int} (h : 0 ≤ b) : shiftV .shl k a b = arithV k (a * 2 ^ (min b.toNat k.bits)) := by
  have h1 : ¬ b < 0 := by omega
  simp [shiftV, h1]
theorem unP_not (x : Bool) : unP .not (.val (.bool x)) = some (.val (.bool (!x))) := rfl
theorem unP_not_dec {p : Prop} [Decidable p] : unP .not (.val (.bool (decide p))) = some (.val (.bool (decide (¬ p)))) := by simp [unP, unV]
theorem unP_neg : unP .neg (.val (.int k a)) = (arithV k (0 - a)).map .val := rfl
def convK (s d : Option IntKind) (n : Int) : Option PV := match s, d with
  | some sk, some k => (convI sk k n).map .val
  | _, _ => none
theorem convP_int (H : Nat → Option (List PV)) (s d : TypeId) : convP P H s d (.val (.int k a)) = convK (kindT P s) (kindT P d) a := rfl
theorem convK_u (sk : IntKind) {d : IntKind} (h : d.signed = false) : convK (some sk) (some d) a = (arithV d a).map .val := by
  simp [convK, convI, arithV, h]
theorem convK_u64 (sk : IntKind) : convK (some sk) (some .u64) a = (arithV .u64 a).map .val := convK_u _ _ rfl
theorem convK_u32 (sk : IntKind) : convK (some sk) (some .u32) a = (arithV .u32 a).map .val := convK_u _ _ rfl
theorem convK_u8 (sk : IntKind) : convK (some sk) (some .u8) a = (arithV .u8 a).map .val := convK_u _ _ rfl
theorem convK_i64 {sk : IntKind} (h : ¬ sk = .u64) : convK (some sk) (some .i64) a = (arithV .i64 a).map .val := by
  simp [convK, convI, IntKind.signed, h]
theorem convK_i64_i64 : convK (some .i64) (some .i64) a = (arithV .i64 a).map .val := convK_i64 _ (by simp)
theorem convK_i32_i64 : convK (some .i32) (some .i64) a = (arithV .i64 a).map .val := convK_i64 _ (by simp)
theorem convK_u32_i64 : convK (some .u32) (some .i64) a = (arithV .i64 a).map .val := convK_i64 _ (by simp)
theorem convK_u8_i64 : convK (some .u8) (some .i64) a = (arithV .i64 a).map .val := convK_i64 _ (by simp)
theorem convK_u64_i64 {a : Int} (h : 0 ≤ a ∧ a ≤ 9223372036854775807) : convK (some .u64) (some .i64) a = some (.val (.int .i64 a)) := by
  have : IntKind.i64.wrap a = a := wrap_of_range rfl ⟨by show (-9223372036854775808 : Int) ≤ a; omega, by show a ≤ (9223372036854775807 : Int); omega⟩
  simp [convK, convI, IntKind.signed, this]
theorem convK_u64_i64' : convK (some .u64) (some .i64) a = some (.val (.int .i64 (IntKind.i64.wrap a))) := by simp [convK, convI, IntKind.signed]
end
attribute [go_sem] binP_add binP_sub binP_mul binP_lss binP_leq binP_gtr binP_geq binP_eql binP_neq binP_quo binP_rem binP_shr binP_shl binP_and binP_or binP_eql_bool binP_neq_bool binP_add_str binP_eql_str binP_neq_str
  shr_u64_32 shr_u64_63 shl_u64_32 unP_not unP_not_dec unP_neg convP_int convK_u64 convK_u32 convK_u8 convK_i64_i64 convK_i32_i64 convK_u32_i64 convK_u8_i64 convK_u64_i64
attribute [go_sem low] shiftV_shr shiftV_shl convK_u64_i64'


def PS.withH (st : PS) (H : Nat → Option (List PV)) (nx : Nat) : PS := { st with H := H, nx := nx }
section
variable (st : PS) (H : Nat → Option (List PV)) (nx : Nat)
theorem withH_sl : (st.withH H nx).sl = st.sl := rfl
theorem withH_H : (st.withH H nx).H = H := rfl
theorem withH_nx : (st.withH H nx).nx = nx := rfl
theorem withH_it : (st.withH H nx).it = st.it := rfl
theorem new_eq (cs : List PV) : st.new cs = st.withH (upd st.H st.nx (some cs)) (st.nx + 1) := rfl
end
attribute [go_sem] withH_sl withH_H withH_nx withH_it new_eq
theorem upd_same {α : Type} (f : Nat → α) (i : Nat) (x : α) : upd f i x i = x := upd_self f i x
theorem upd_other {α : Type} {f : Nat → α} {i j : Nat} {x : α} (h : ¬ j = i) : upd f i x j = f j := upd_ne f x h
attribute [go_sem] upd_same upd_other

section
variable (t : TypeId)
theorem indexAddrP_eq (x i : PV) : indexAddrP P t x i = (elemT P t).bind fun e => (sizeT P e).bind fun sz => (match i with | .val (.int _ n) => idxP sz x n | _ => none) := by
  unfold indexAddrP
  cases elemT P t with
  | none => rfl
  | some e =>
    simp only [Option.bind_some]
    cases sizeT P e with
    | none => rfl
    | some sz => cases i <;> (try rfl); rename_i v; cases v <;> rfl
theorem idxP_sl {sz len : Nat} {cs : List PV} {n : Int} (h : 0 ≤ n ∧ n < len) : idxP sz (.sl len cs) n = some (.rp (cs.drop (n.toNat * sz))) := by simp [idxP, h]
theorem idxP_sl' (sz len : Nat) (cs : List PV) (n : Int) : idxP sz (.sl len cs) n = if 0 ≤ n ∧ n < len then some (.rp (cs.drop (n.toNat * sz))) else none := rfl
theorem idxP_ref {sz id off len cap z : Nat} {n : Int} (h : 0 ≤ n ∧ n < len) : idxP sz (.ref id off len cap z) n = some (.ptr id (off + n.toNat * sz)) := by simp [idxP, h]
theorem idxP_ref' (sz id off len cap z : Nat) (n : Int) : idxP sz (.ref id off len cap z) n = if 0 ≤ n ∧ n < len then some (.ptr id (off + n.toNat * sz)) else none := rfl
theorem loadP_eq (H : Nat → Option (List PV)) (p : PV) : loadP P H t p = (sizeT P t).bind fun n => if aggT P t || oneT P t then ldP (aggT P t) n H p else none := by
  unfold loadP; cases sizeT P t <;> rfl
theorem ldP_rp (agg : Bool) (n : Nat) (H : Nat → Option (List PV)) (cs : List PV) : ldP agg n H (.rp cs) = ldC agg n cs := rfl
theorem ldP_ptr (agg : Bool) (n : Nat) (H : Nat → Option (List PV)) (id off : Nat) : ldP agg n H (.ptr id off) = (H id).bind fun cs => ldC agg n (cs.drop off) := by
  simp only [ldP]; cases H id <;> rfl
theorem ldC_one (n : Nat) (cs : List PV) : ldC false n cs = cs.head? := rfl
theorem ldC_agg (n : Nat) (cs : List PV) : ldC true n cs = if n ≤ cs.length ∧ 0 < n then some (.agg (cs.take n)) else none := rfl
theorem fieldAddrP_eq (p : PV) (f : Nat) : fieldAddrP P t p f = (fieldT P t f).bind fun q => (sizeT P q.2).bind fun n => if 0 < n then fldP q.1 p else none := by
  unfold fieldAddrP
  cases fieldT P t f with
  | none => rfl
  | some q =>
    simp only [Option.bind_some]
    cases sizeT P q.2 with
    | none => rfl
    | some n => cases n <;> rfl
theorem fldP_rp (off : Nat) (cs : List PV) : fldP off (.rp cs) = some (.rp (cs.drop off)) := rfl
theorem fldP_ptr (off id o : Nat) : fldP off (.ptr id o) = some (.ptr id (o + off)) := rfl
theorem fieldP_eq (x : PV) (f : Nat) : fieldP P t x f = (fieldT P t f).bind fun q => (aggP x).bind fun cs => (sizeT P q.2).bind fun n => if aggT P q.2 || oneT P q.2 then ldC (aggT P q.2) n (cs.drop q.1) else none := by
  unfold fieldP
  cases fieldT P t f with
  | none => rfl
  | some q =>
    simp only [Option.bind_some]
    cases aggP x with
    | none => rfl
    | some cs => simp only [Option.bind_some]; cases sizeT P q.2 <;> rfl
theorem aggP_agg (cs : List PV) : aggP (.agg cs) = some cs := rfl
theorem aggP_val (vs : Array Value) : aggP (.val (.agg vs)) = some (vs.toList.map .val) := rfl
theorem extractP_tup (cs : List PV) (i : Nat) : extractP (.tup cs) i = cs[i]? := rfl
theorem nilCheckP_ptr (id off : Nat) : nilCheckP (.ptr id off) = some (.ptr id off) := rfl
theorem nilCheckP_rp (cs : List PV) : nilCheckP (.rp cs) = some (.rp cs) := rfl
def lenS (x : PV) : Option PV := match x with
  | .val (.string _) => none
  | x => (lenP x).map fun n => .val (.int .i64 n)
theorem lenOfP_eq (x : PV) : lenOfP P t x = if strT P t = true then (match x with | .val (.string s) => some (.val (.int .i64 s.size)) | _ => none) else (elemT P t).bind fun _ => lenS x := by
  unfold lenOfP lenS
  split
  · rfl
  · cases elemT P t with
    | none => rfl
    | some e => cases x <;> (try rfl); rename_i v; cases v <;> rfl
theorem lenS_sl (n : Nat) (cs : List PV) : lenS (.sl n cs) = some (.val (.int .i64 n)) := rfl
theorem lenS_ref (id off n cap z : Nat) : lenS (.ref id off n cap z) = some (.val (.int .i64 n)) := rfl
theorem lenS_nil (b : Option Addr) (n cap : Nat) : lenS (.val (.slice b n cap)) = some (.val (.int .i64 n)) := rfl
theorem capOfP_ref (id off n cap z : Nat) : capOfP P t (.ref id off n cap z) = (elemT P t).bind fun _ => some (.val (.int .i64 cap)) := by
  unfold capOfP; cases elemT P t <;> rfl
theorem indexP_str (s : ByteArray) (k : IntKind) (n : Int) : indexP P t (.val (.string s)) (.val (.int k n)) = if strT P t = true ∧ 0 ≤ n then (s[n.toNat]?).map fun b => .val (.int .u8 b.toNat) else none := rfl
theorem bndV_none (d : Nat) : bndV d none = some d := rfl
theorem bndV_int {d : Nat} {k : IntKind} {n : Int} (h : 0 ≤ n) : bndV d (some (.val (.int k n))) = some n.toNat := by simp [bndV, h]
def sliceS (sz : Nat) (x : PV) (lo hi : Option PV) : Option PV := match x with
  | .val (.string _) => none
  | x => (lenP x).bind fun n => (bndV n hi).bind fun h => (bndV 0 lo).bind fun l => sliceP sz x l h
theorem sliceOfP_eq (x : PV) (lo hi : Option PV) : sliceOfP P t x lo hi = if strT P t = true then (match x with
    | .val (.string s) => (bndV s.size hi).bind fun h => (bndV 0 lo).bind fun l => sliceP 1 (.val (.string s)) l h
    | _ => none) else (elemT P t).bind fun e => (sizeT P e).bind fun sz => sliceS sz x lo hi := by
  unfold sliceOfP sliceS
  split
  · split
    · simp only []
      cases h1 : bndV _ hi <;> cases h2 : bndV 0 lo <;> simp
    · split <;> simp_all
  · cases elemT P t with
    | none => rfl
    | some e =>
      simp only [Option.bind_some]
      cases sizeT P e with
      | none => rfl
      | some sz =>
        simp only [Option.bind_some]
        cases x with
        | val v =>
          cases v with
          | string s => simp only [lenP]
          | slice b n cap => simp only [lenP]; cases h1 : bndV n hi <;> cases h2 : bndV 0 lo <;> simp [h1, h2]
          | _ => rfl
        | sl n cs => simp only [lenP]; cases h1 : bndV n hi <;> cases h2 : bndV 0 lo <;> simp [h1, h2]
        | ref id off n cap z => simp only [lenP]; cases h1 : bndV n hi <;> cases h2 : bndV 0 lo <;> simp [h1, h2]
        | _ => rfl
theorem sliceS_sl (sz n : Nat) (cs : List PV) (lo hi : Option PV) : sliceS sz (.sl n cs) lo hi = (bndV n hi).bind fun h => (bndV 0 lo).bind fun l => sliceP sz (.sl n cs) l h := rfl
theorem sliceS_ref (sz id off n cap z : Nat) (lo hi : Option PV) : sliceS sz (.ref id off n cap z) lo hi = (bndV n hi).bind fun h => (bndV 0 lo).bind fun l => sliceP sz (.ref id off n cap z) l h := rfl
theorem sliceP_sl {sz n lo hi : Nat} {cs : List PV} (h : lo ≤ hi ∧ hi ≤ n) : sliceP sz (.sl n cs) lo hi = some (.sl (hi - lo) ((cs.drop (lo * sz)).take ((hi - lo) * sz))) := by simp [sliceP, h]
theorem sliceP_str {sz lo hi : Nat} {s : ByteArray} (h : lo ≤ hi ∧ hi ≤ s.size) : sliceP sz (.val (.string s)) lo hi = some (.val (.string (s.extract lo hi))) := by simp [sliceP, h]
end
theorem maxP_int (k k' : IntKind) (a b : Int) : maxP (.val (.int k a)) (.val (.int k' b)) = some (.val (.int k (if b > a then b else a))) := rfl
attribute [go_sem] maxP_int
attribute [go_sem] indexAddrP_eq idxP_sl idxP_ref loadP_eq ldP_rp ldP_ptr ldC_one ldC_agg fieldAddrP_eq fldP_rp fldP_ptr fieldP_eq aggP_agg aggP_val extractP_tup nilCheckP_ptr nilCheckP_rp lenOfP_eq lenS_sl lenS_ref lenS_nil
  capOfP_ref indexP_str bndV_none bndV_int sliceOfP_eq sliceS_sl sliceS_ref sliceP_sl sliceP_str
attribute [go_sem low] idxP_sl' idxP_ref'



def needs (p q : Prop) : Prop := p ∧ q
theorem needs_of {p q : Prop} (h : p) : needs p q = q := propext ⟨fun h => h.2, fun hq => ⟨h, hq⟩⟩
theorem needs_and {p q : Prop} : needs p q = (p ∧ q) := rfl
attribute [go_sem] needs_of
attribute [go_sem low] needs_and
section
variable {st : PS} {t : TypeId} {K : PV → PS → Prop}
theorem pStore_ptr {K : PS → Prop} {id off : Nat} {x : PV} : pStore P st t (.ptr id off) x K =
    obind (sizeT P t) fun n => obind (st.H id) fun cs => needs (0 < n ∧ off + n ≤ cs.length ∧ (cellsP x).length = n ∧ (cellsP x).all oneP = true) (K (st.withH (upd st.H id (some (spl cs off (cellsP x)))) st.nx)) := by
  unfold pStore obind PS.withH needs
  apply propext
  constructor
  · rintro ⟨n, hs, hn, id', off', he, cs, hc, h1, h2, h3, hK⟩
    simp at he; obtain ⟨rfl, rfl⟩ := he
    exact ⟨n, hs, cs, hc, ⟨hn, h1, h2, h3⟩, hK⟩
  · rintro ⟨n, hs, cs, hc, ⟨hn, h1, h2, h3⟩, hK⟩
    exact ⟨n, hs, hn, id, off, rfl, cs, hc, h1, h2, h3, hK⟩
theorem pAlloc_eq {e : TypeId} : pAlloc P st e K = obind (zeroT P e) fun z => K (.ptr st.nx 0) (st.new (z.map .val)) := rfl
theorem pBox_eq {x : PV} : pBox st x K = (isAny x = false ∧ K (.ptr st.nx 0) (st.new (cellsP x))) := rfl
theorem pMake_int {k k' : IntKind} {n m : Int} : pMake P st t (.val (.int k n)) (.val (.int k' m)) K =
    obind (elemT P t) fun e => obind (sizeT P e) fun sz => obind (bytesT P e) fun b => obind (zeroT P e) fun z =>
      needs (z.length = sz ∧ 0 ≤ n ∧ n ≤ m ∧ (b : Int) * m ≤ 281474976710656 ∧ m ≤ 281474976710656) (K (.ref st.nx 0 n.toNat m.toNat sz) (st.new (repl m.toNat (z.map .val)))) := by
  unfold pMake obind needs
  apply propext
  constructor
  · rintro ⟨e, h1, sz, h2, b, h3, z, h4, h5, k, n', k', m', he, he', h6, h7, h8, h9, hK⟩
    simp at he he'
    obtain ⟨rfl, rfl⟩ := he
    obtain ⟨rfl, rfl⟩ := he'
    exact ⟨e, h1, sz, h2, b, h3, z, h4, ⟨h5, h6, h7, h8, h9⟩, hK⟩
  · rintro ⟨e, h1, sz, h2, b, h3, z, h4, ⟨h5, h6, h7, h8, h9⟩, hK⟩
    exact ⟨e, h1, sz, h2, b, h3, z, h4, h5, _, _, _, _, rfl, rfl, h6, h7, h8, h9, hK⟩
theorem pBuildSlice_eq {n : Nat} {parts : List (Nat × Operand)} : pBuildSlice P st t n parts K =
    obind (elemT P t) fun e => obind (sizeT P e) fun sz => obind (zeroT P e) fun z => needs (n * sz ≤ 16777216 ∧ z.length = sz)
      (obind (fillP st sz parts (repl n (z.map .val))) fun cs => K (.ref st.nx 0 n n sz) (st.new cs)) := by
  unfold pBuildSlice obind needs
  apply propext
  constructor
  · rintro ⟨e, h1, sz, h2, h3, z, h4, h5, cs, h6, hK⟩
    exact ⟨e, h1, sz, h2, z, h4, ⟨h3, h5⟩, cs, h6, hK⟩
  · rintro ⟨e, h1, sz, h2, z, h4, ⟨h3, h5⟩, cs, h6, hK⟩
    exact ⟨e, h1, sz, h2, h3, z, h4, h5, cs, h6, hK⟩
theorem pRange_str {s : ByteArray} : pRange P st t (.val (.string s)) K = (strT P t = true ∧ K (.ptr st.nx 0) { st with it := upd st.it st.nx (some (s, 0)), nx := st.nx + 1 }) := by
  unfold pRange
  apply propext
  constructor
  · rintro ⟨h, s', he, hK⟩; simp at he; subst he; exact ⟨h, hK⟩
  · rintro ⟨h, hK⟩; exact ⟨h, s, rfl, hK⟩
theorem fillP_nil (sz : Nat) (cs : List PV) : fillP st sz [] cs = some cs := rfl
theorem fillP_cons (sz i : Nat) (x : Operand) (ps : List (Nat × Operand)) (cs : List PV) : fillP st sz ((i, x) :: ps) cs =
    if (cellsP (st.ev x)).length = sz ∧ i * sz + sz ≤ cs.length ∧ isAny (st.ev x) = false then fillP st sz ps (spl cs (i * sz) (cellsP (st.ev x))) else none := rfl
theorem buildF_nil (cs : List PV) : buildF P st t [] cs = some cs := rfl
theorem buildF_cons (i : Nat) (x : Operand) (ps : List (Nat × Operand)) (cs : List PV) : buildF P st t ((i, x) :: ps) cs =
    (fieldT P t i).bind fun q => (sizeT P q.2).bind fun n => if (cellsP (st.ev x)).length = n ∧ q.1 + n ≤ cs.length ∧ isAny (st.ev x) = false then buildF P st t ps (spl cs q.1 (cellsP (st.ev x))) else none := by
  simp only [buildF]
  cases fieldT P t i with
  | none => rfl
  | some q => simp only [Option.bind_some]; cases sizeT P q.2 <;> rfl
end
attribute [go_sem] pStore_ptr pAlloc_eq pBox_eq pMake_int pBuildSlice_eq pRange_str fillP_nil fillP_cons buildF_nil buildF_cons

end Go.Proofs.Ytfjdfnlkobeehaa
end
