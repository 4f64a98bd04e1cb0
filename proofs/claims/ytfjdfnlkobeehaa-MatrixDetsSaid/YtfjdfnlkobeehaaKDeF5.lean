/- Part 5 of the way to the statement: the walk and what it needs. -/
import Derived.Test.YtfjdfnlkobeehaaKDeF4
import Derived.Deep.AppendSrc
import Derived.Deep.MidRow
import Derived.Laws.MakeOwn
import Derived.Laws.Entries
section
set_option linter.unusedVariables false
set_option linter.unusedSimpArgs false
namespace Go.Proofs.Ytfjdfnlkobeehaa

def elemT (P : Program) (t : TypeId) : Option TypeId := match P.underlying t with
  | some (.slice e) => some e
  | _ => none
def aggT (P : Program) (t : TypeId) : Bool := match P.underlying t with
  | some (.struct _) | some (.array _ _) => true
  | _ => false

def oneT (P : Program) (t : TypeId) : Bool := match P.underlying t with
  | some (.struct _) | some (.array _ _) | none => false
  | _ => true
def kindT (P : Program) (t : TypeId) : Option IntKind := match P.underlying t with
  | some (.int k) => some k
  | _ => none
def strT (P : Program) (t : TypeId) : Bool := match P.underlying t with
  | some .string => true
  | _ => false

def sizeT (P : Program) (t : TypeId) : Option Nat := (P.info? t).map (·.size)
def fieldT (P : Program) (s f : Nat) : Option (Nat × TypeId) := match P.underlying s with
  | some (.struct fs) => (fs[f]?).map fun x => (x.offset, x.type)
  | _ => none

theorem elemT_some {P : Program} {t e : TypeId} (h : elemT P t = some e) : P.underlying t = some (.slice e) := by
  unfold elemT at h; split at h <;> simp_all
theorem kindT_some {P : Program} {t : TypeId} {k : IntKind} (h : kindT P t = some k) : P.underlying t = some (.int k) := by
  unfold kindT at h; split at h <;> simp_all
theorem strT_true {P : Program} {t : TypeId} (h : strT P t = true) : P.underlying t = some .string := by
  unfold strT at h; split at h <;> simp_all
theorem sizeT_some {P : Program} {t : TypeId} {n : Nat} (h : sizeT P t = some n) (w : World) : (sizeOf t).run P w = .ok n w := by
  unfold sizeT at h
  cases hi : P.info? t with
  | none => simp [hi] at h
  | some i => simp [hi] at h; simp [sizeOf, typeInfo, hi, h]

def arithV (k : IntKind) (z : Int) : Option Value := some (.int k (k.wrap z))

theorem wrap_of_range {k : IntKind} {z : Int} (hs : k.signed = true) (h : k.min ≤ z ∧ z ≤ k.max) : k.wrap z = z := by
  cases k <;> simp [IntKind.signed] at hs <;> simp [IntKind.min, IntKind.max, IntKind.signed, IntKind.bits] at h <;> simp [IntKind.wrap, IntKind.bits, IntKind.signed] <;> omega

theorem arithV_some {k : IntKind} {z : Int} {v : Value} (h : arithV k z = some v) : v = .int k (k.wrap z) := by
  unfold arithV at h
  exact (Option.some.inj h).symm

def bitsV (op : BinOp) (k : IntKind) (x y : Int) : Option Value :=
  match op with
  | .and => some (.int k (k.wrap (BitVec.ofInt k.bits x &&& BitVec.ofInt k.bits y).toNat))
  | .or => some (.int k (k.wrap (BitVec.ofInt k.bits x ||| BitVec.ofInt k.bits y).toNat))
  | .xor => some (.int k (k.wrap (BitVec.ofInt k.bits x ^^^ BitVec.ofInt k.bits y).toNat))
  | _ => none

def binI (op : BinOp) (k : IntKind) (a b : Int) : Option Value :=
  match op with
  | .add => arithV k (a + b)
  | .sub => arithV k (a - b)
  | .mul => arithV k (a * b)
  | .quo => if b = 0 then none else arithV k (a.tdiv b)
  | .rem => if b = 0 then none else some (.int k (a.tmod b))
  | .eql => some (.bool (decide (a = b)))
  | .neq => some (.bool (decide (a ≠ b)))
  | .lss => some (.bool (decide (a < b)))
  | .leq => some (.bool (decide (a ≤ b)))
  | .gtr => some (.bool (decide (b < a)))
  | .geq => some (.bool (decide (b ≤ a)))
  | op => bitsV op k a b

def shiftV (op : BinOp) (k : IntKind) (a b : Int) : Option Value :=
  if b < 0 then none else
  match op with
  | .shl => arithV k (a * 2 ^ (min b.toNat k.bits))
  | .shr => some (.int k (a.fdiv (2 ^ (min b.toNat k.bits))))
  | _ => none

def strV (op : BinOp) (a b : ByteArray) : Option Value :=
  match op with
  | .add => if (a.size + b.size : Nat) ≤ 9223372036854775807 then some (.string (a ++ b)) else none
  | .eql => some (.bool (a.toList == b.toList))
  | .neq => some (.bool !(a.toList == b.toList))
  | _ => none

def binV (op : BinOp) : Value → Value → Option Value
  | .int k a, .int k' b => match op with
    | .shl => shiftV .shl k a b
    | .shr => shiftV .shr k a b
    | op => if k = k' then binI op k a b else none
  | .bool a, .bool b => match op with
    | .eql => some (.bool (a == b))
    | .neq => some (.bool (a != b))
    | _ => none
  | .string a, .string b => strV op a b
  | _, _ => none


def boolT (P : Program) (t : TypeId) : Bool := match P.underlying t with
  | some .bool => true
  | _ => false

def unV (op : UnOp) : Value → Option Value
  | .int k a => match op with
    | .neg => arithV k (0 - a)
    | .xor => bitsV .xor k (if k.signed then -1 else k.max) a
    | _ => none
  | .bool b => match op with
    | .not => some (.bool !b)
    | _ => none
  | _ => none

def convI (sk k : IntKind) (n : Int) : Option Value :=
  if k.signed then (if sk = .u64 then some (.int k (k.wrap n)) else arithV k n) else some (.int k (k.wrap n))

def idxP (sz : Nat) (x : PV) (n : Int) : Option PV :=
  match x with
  | .sl len cs => if 0 ≤ n ∧ n < len then some (.rp (cs.drop (n.toNat * sz))) else none
  | .ref id off len cap z => if 0 ≤ n ∧ n < len then some (.ptr id (off + n.toNat * sz)) else none
  | _ => none

def ldC (agg : Bool) (n : Nat) (cs : List PV) : Option PV :=
  if agg then (if n ≤ cs.length ∧ 0 < n then some (.agg (cs.take n)) else none) else cs.head?

def ldP (agg : Bool) (n : Nat) (H : Nat → Option (List PV)) (p : PV) : Option PV :=
  match p with
  | .rp cs => ldC agg n cs
  | .ptr id off => match H id with
    | some cs => ldC agg n (cs.drop off)
    | none => none
  | _ => none

def fldP (off : Nat) (p : PV) : Option PV :=
  match p with
  | .rp cs => some (.rp (cs.drop off))
  | .ptr id o => some (.ptr id (o + off))
  | _ => none

def bndP (st : PS) (d : Nat) : Option Operand → Option Nat
  | none => some d
  | some x => match st.ev x with
    | .val (.int _ n) => if 0 ≤ n then some n.toNat else none
    | _ => none

def sliceP (sz : Nat) (x : PV) (lo hi : Nat) : Option PV :=
  match x with
  | .sl n cs => if lo ≤ hi ∧ hi ≤ n then some (.sl (hi - lo) ((cs.drop (lo * sz)).take ((hi - lo) * sz))) else none
  | .ref id off n cap z => if lo ≤ hi ∧ hi ≤ cap then some (.ref id (if cap = lo then off else off + lo * sz) (hi - lo) (cap - lo) z) else none
  | .val (.string s) => if lo ≤ hi ∧ hi ≤ s.size then some (.val (.string (s.extract lo hi))) else none
  | .val (.slice none 0 0) => if lo = 0 ∧ hi = 0 then some (.val (.slice none 0 0)) else none
  | _ => none

def lenP (x : PV) : Option Nat :=
  match x with
  | .sl n _ => some n
  | .ref _ _ n _ _ => some n
  | .val (.slice _ n _) => some n
  | .val (.string s) => some s.size
  | _ => none

def capP (x : PV) : Option Nat :=
  match x with
  | .ref _ _ _ cap _ => some cap
  | .val (.slice _ _ cap) => some cap
  | _ => none


def bytesP : List PV → Option (List UInt8)
  | [] => some []
  | .val (.int .u8 n) :: cs => (bytesP cs).map (UInt8.ofNat n.toNat :: ·)
  | _ :: _ => none

def convP (P : Program) (H : Nat → Option (List PV)) (s d : TypeId) (x : PV) : Option PV :=
  match x with
  | .val (.int k' n) => match kindT P s, kindT P d with
    | some sk, some k => (convI sk k n).map .val
    | _, _ => none
  | .val (.string b) => if strT P d = true ∧ strT P s = true then some (.val (.string b)) else none
  | .sl n cs => if strT P d = true ∧ (elemT P s).bind (kindT P) = some .u8 then
      (if cs.length = n then (bytesP cs).map fun l => .val (.string ⟨l.toArray⟩) else none) else none
  | .ref id off n _ _ => if strT P d = true ∧ (elemT P s).bind (kindT P) = some .u8 then
      (match H id with
      | some cs => if off + n ≤ cs.length then (bytesP ((cs.drop off).take n)).map fun l => .val (.string ⟨l.toArray⟩) else none
      | none => none) else none
  | _ => none

def cellsP : PV → List PV
  | .agg cs => cs
  | .val (.agg vs) => vs.toList.map .val
  | p => [p]

def aggP : PV → Option (List PV)
  | .agg cs => some cs
  | .val (.agg vs) => some (vs.toList.map .val)
  | _ => none


def spl {α : Type} (cs : List α) (off : Nat) (new : List α) : List α := cs.take off ++ (new ++ cs.drop (off + new.length))

def zeroT (P : Program) (t : TypeId) : Option (List Value) := ((P.info? t).bind (·.zero)).map (·.cells.toList)

def isAny : PV → Bool
  | .any => true
  | _ => false

def buildF (P : Program) (st : PS) (t : TypeId) : List (Nat × Operand) → List PV → Option (List PV)
  | [], cs => some cs
  | (i, x) :: ps, cs => match fieldT P t i with
    | some (off, ft) => match sizeT P ft with
      | some n => if (cellsP (st.ev x)).length = n ∧ off + n ≤ cs.length ∧ isAny (st.ev x) = false then buildF P st t ps (spl cs off (cellsP (st.ev x))) else none
      | none => none
    | none => none


def sizedT (P : Program) (t : TypeId) : Bool := match P.underlying t with
  | some (.struct fs) => fs.toList.all fun f => (sizeT P f.type).isSome
  | _ => false

def oneP : PV → Bool
  | .val v => v.oneCell'
  | .sl .. | .ref .. | .ptr .. | .rp .. | .fn .. => true
  | .any | .agg _ | .tup _ => false

def maxP (x y : PV) : Option PV := match x, y with
  | .val (.int k a), .val (.int _ b) => some (.val (.int k (if b > a then b else a)))
  | _, _ => none

def qv (P : Program) (st : PS) : Op → Option PV
  | .move x => some (st.ev x)
  | .assign x => some (st.ev x)
  | .pick c a b => match st.ev c with
    | .val (.bool t) => some (if t then st.ev a else st.ev b)
    | _ => none
  | .binOp op t x y _ => match st.ev x, st.ev y with
    | .val (.bool a), .val (.bool b) => if boolT P t = true then (binV op (.bool a) (.bool b)).map .val else none
    | .val a, .val b => (binV op a b).map .val
    | _, _ => none
  | .unOp op _ x => match st.ev x with
    | .val a => (unV op a).map .val
    | _ => none
  | .convert s d x => convP P st.H s d (st.ev x)
  | .indexAddr t x i => match elemT P t with
    | some e => match sizeT P e, st.ev i with
      | some sz, .val (.int _ n) => idxP sz (st.ev x) n
      | _, _ => none
    | none => none
  | .index t x i => match st.ev x, st.ev i with
    | .val (.string s), .val (.int _ n) => if strT P t = true ∧ 0 ≤ n then (s[n.toNat]?).map fun b => .val (.int .u8 b.toNat) else none
    | _, _ => none
  | .load t p => match sizeT P t with
    | some n => if aggT P t || oneT P t then ldP (aggT P t) n st.H (st.ev p) else none
    | none => none
  | .fieldAddr s p f => match fieldT P s f with
    | some (off, t) => match sizeT P t with
      | some (n + 1) => fldP off (st.ev p)
      | _ => none
    | none => none
  | .build t parts => match zeroT P t with
    | some z => if sizedT P t then (buildF P st t parts.toList (z.map .val)).map .agg else none
    | none => none
  | .field s x f => match fieldT P s f, aggP (st.ev x) with
    | some (off, t), some cs => match sizeT P t with
      | some n => if aggT P t || oneT P t then ldC (aggT P t) n (cs.drop off) else none
      | none => none
    | _, _ => none
  | .extract x i => match st.ev x with
    | .tup cs => cs[i]?
    | _ => none
  | .nilCheck x => match st.ev x with
    | .ptr id off => some (.ptr id off)
    | .rp cs => some (.rp cs)
    | _ => none
  | .slice t x lo hi none =>
    if strT P t then (match st.ev x with
      | .val (.string s) => match bndP st s.size hi, bndP st 0 lo with
        | some h, some l => sliceP 1 (.val (.string s)) l h
        | _, _ => none
      | _ => none)
    else match elemT P t with
      | some e => match sizeT P e, lenP (st.ev x) with
        | some sz, some n => match bndP st n hi, bndP st 0 lo, st.ev x with
          | _, _, .val (.string _) => none
          | some h, some l, x => sliceP sz x l h
          | _, _, _ => none
        | _, _ => none
      | none => none
  | .makeFunc (.func f) first caps => if first.size = 0 then some (.fn f (caps.toList.map st.ev)) else none
  | .call c => match c.callee, c.args.toList, c.argTypes.toList with
    | .builtin .len, [x], [t] => if strT P t then (match st.ev x with
        | .val (.string s) => some (.val (.int .i64 s.size))
        | _ => none)
      else (match elemT P t, st.ev x with
        | some _, .val (.string _) => none
        | some _, x => (lenP x).map fun n => .val (.int .i64 n)
        | _, _ => none)
    | .builtin .cap, [x], [t] => (match elemT P t, st.ev x with
        | some _, x => (capP x).map fun n => .val (.int .i64 n)
        | _, _ => none)
    | .builtin .max, [x, y], [_, _] => maxP (st.ev x) (st.ev y)
    | _, _, _ => none
  | _ => none

end Go.Proofs.Ytfjdfnlkobeehaa
end
