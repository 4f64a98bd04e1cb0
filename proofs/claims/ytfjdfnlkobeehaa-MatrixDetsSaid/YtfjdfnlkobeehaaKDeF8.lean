/- Part 8 of the way to the statement: the walk and what it needs. -/
import Derived.Test.YtfjdfnlkobeehaaKDeF7
section
set_option linter.unusedVariables false
set_option linter.unusedSimpArgs false
namespace Go.Proofs.Ytfjdfnlkobeehaa

def bytesT (P : Program) (t : TypeId) : Option Nat := (P.info? t).map (·.bytes)

def repl {α : Type} (n : Nat) (l : List α) : List α := (List.replicate n l).flatten


def PS.new (st : PS) (cs : List PV) : PS := { st with H := upd st.H st.nx (some cs), nx := st.nx + 1 }

def pStore (P : Program) (st : PS) (t : TypeId) (p x : PV) (K : PS → Prop) : Prop :=
  ∃ n, sizeT P t = some n ∧ 0 < n ∧ ∃ id off, p = .ptr id off ∧ ∃ cs, st.H id = some cs ∧ off + n ≤ cs.length ∧ (cellsP x).length = n ∧ (cellsP x).all oneP = true ∧
    K { st with H := upd st.H id (some (spl cs off (cellsP x))) }

def pAlloc (P : Program) (st : PS) (e : TypeId) (K : PV → PS → Prop) : Prop :=
  ∃ z, zeroT P e = some z ∧ K (.ptr st.nx 0) (st.new (z.map .val))

def pBox (st : PS) (x : PV) (K : PV → PS → Prop) : Prop :=
  isAny x = false ∧ K (.ptr st.nx 0) (st.new (cellsP x))

def pMake (P : Program) (st : PS) (t : TypeId) (l c : PV) (K : PV → PS → Prop) : Prop :=
  ∃ e, elemT P t = some e ∧ ∃ sz, sizeT P e = some sz ∧ ∃ b, bytesT P e = some b ∧ ∃ z, zeroT P e = some z ∧ z.length = sz ∧
    ∃ k n k' m, l = .val (.int k n) ∧ c = .val (.int k' m) ∧ 0 ≤ n ∧ n ≤ m ∧ (b : Int) * m ≤ 281474976710656 ∧ m ≤ 281474976710656 ∧
    K (.ref st.nx 0 n.toNat m.toNat sz) (st.new (repl m.toNat (z.map .val)))

def fillP (st : PS) (sz : Nat) : List (Nat × Operand) → List PV → Option (List PV)
  | [], cs => some cs
  | (i, x) :: ps, cs => if (cellsP (st.ev x)).length = sz ∧ i * sz + sz ≤ cs.length ∧ isAny (st.ev x) = false then fillP st sz ps (spl cs (i * sz) (cellsP (st.ev x))) else none

def pBuildSlice (P : Program) (st : PS) (t : TypeId) (n : Nat) (parts : List (Nat × Operand)) (K : PV → PS → Prop) : Prop :=
  ∃ e, elemT P t = some e ∧ ∃ sz, sizeT P e = some sz ∧ n * sz ≤ 16777216 ∧ ∃ z, zeroT P e = some z ∧ z.length = sz ∧
    ∃ cs, fillP st sz parts (repl n (z.map .val)) = some cs ∧ K (.ref st.nx 0 n n sz) (st.new cs)


def srcP (H : Nat → Option (List PV)) (sz : Nat) (y : PV) : Option (Nat × List PV) :=
  match y with
  | .sl n cs => if cs.length = n * sz then some (n, cs) else none
  | .ref id off n _ _ => match H id with
    | some cs => if off + n * sz ≤ cs.length then some (n, (cs.drop off).take (n * sz)) else none
    | none => none
  | .val (.slice none 0 0) => some (0, [])
  | _ => none

def pGrow (st : PS) (sz need : Nat) (cs : List PV) (K : PV → PS → Prop) : Prop :=
  ∀ (cap : Nat) (rest : List Value), need ≤ cap → cap < 9223372036854775808 → rest.length = (cap - need) * sz → K (.ref st.nx 0 need cap sz) (st.new (cs ++ rest.map .val))

def pAppend (P : Program) (st : PS) (t t' : TypeId) (x y : PV) (K : PV → PS → Prop) : Prop :=
  ∃ e, elemT P t = some e ∧ (elemT P t').isSome = true ∧ ∃ sz, sizeT P e = some sz ∧ ∃ b, bytesT P e = some b ∧ ∃ z, zeroT P e = some z ∧ z.length = sz ∧
    ∃ m ys, srcP st.H sz y = some (m, ys) ∧ ys.all oneP = true ∧
    match x with
    | .ref id off n cap _ => ∃ cs, st.H id = some cs ∧ off + n * sz ≤ cs.length ∧ (n + m) * b ≤ 140737488355328 ∧ n + m ≤ 140737488355328 ∧
        ((n + m ≤ cap → off + (n + m) * sz ≤ cs.length ∧ K (.ref id off (n + m) cap sz) { st with H := upd st.H id (some (spl cs (off + n * sz) ys)) }) ∧
         (cap < n + m → pGrow st sz (n + m) ((cs.drop off).take (n * sz) ++ ys) K))
    | .val (.slice none 0 0) => m * b ≤ 140737488355328 ∧ m ≤ 140737488355328 ∧
        ((m = 0 → K (.val (.slice none 0 0)) st) ∧ (0 < m → pGrow st sz m ys K))
    | _ => False

def pCopy (P : Program) (st : PS) (t : TypeId) (x y : PV) (K : PV → PS → Prop) : Prop :=
  ∃ e, elemT P t = some e ∧ sizeT P e = some 1 ∧ ∃ m ys, srcP st.H 1 y = some (m, ys) ∧ ys.all oneP = true ∧
    match x with
    | .ref id off n _ _ => ∃ cs, st.H id = some cs ∧ off + n ≤ cs.length ∧ K (.val (.int .i64 (Nat.min m n : Nat))) { st with H := upd st.H id (some (spl cs off (ys.take (Nat.min m n)))) }
    | _ => False

def pRange (P : Program) (st : PS) (t : TypeId) (x : PV) (K : PV → PS → Prop) : Prop :=
  strT P t = true ∧ ∃ s, x = .val (.string s) ∧ K (.ptr st.nx 0) { st with it := upd st.it st.nx (some (s, 0)), nx := st.nx + 1 }

def pNext (st : PS) (x : PV) (K : PV → PS → Prop) : Prop :=
  ∃ id, x = .ptr id 0 ∧ ∃ s pos, st.it id = some (s, pos) ∧
    ((pos < s.size → K (.tup [.val (.bool true), .val (.int .i64 pos), .val (.int .i32 (Utf8.decode s pos).1)]) { st with it := upd st.it id (some (s, pos + (Utf8.decode s pos).2)) }) ∧
     (s.size ≤ pos → K (.tup [.val (.bool false)]) st))


def okFn (P : Program) (f : FuncId) : Bool := match P.funcs[f]? with
  | some fn => fn.body.isSome && !(fn.name == "runtime.NumGoroutine")
  | none => false


def PCalls (P : Program) (f : FuncId) (args : List PV) (H : Nat → Option (List PV)) (nx : Nat) (Q : PV → (Nat → Option (List PV)) → Nat → Prop) : Prop :=
  okFn P f = true ∧ ∀ (w : World) (vs : List Value) (ρ : Nat → Nat) (A0 : Nat → Prop), (∀ b, A0 b → b < w.heap.size) → OwnOK (fun _ => False) A0 w ρ H (fun _ => none) nx →
    RepL (enOf A0 w ρ H (fun _ => none) nx) args vs →
    Calls P f vs.toArray w (fun e w' => ∃ v r H' nx' ρ', e = .returned v ∧ Q r H' nx' ∧ nx ≤ nx' ∧ (∀ i, i < nx → ρ' i = ρ i) ∧
      OwnOK (fun b => b < w.heap.size ∧ ¬ OwnB ρ H (fun _ => none) b) A0 w' ρ' H' (fun _ => none) nx' ∧ Rep (enOf A0 w' ρ' H' (fun _ => none) nx') r v ∧
      (∀ b, b < w.heap.size → ¬ OwnB ρ H (fun _ => none) b → w'.heap[b]? = w.heap[b]?) ∧ w.heap.size ≤ w'.heap.size ∧ Sw w w')

theorem PCalls.mono {P : Program} {f : FuncId} {args : List PV} {H : Nat → Option (List PV)} {nx : Nat} {Q Q' : PV → (Nat → Option (List PV)) → Nat → Prop}
    (h : PCalls P f args H nx Q) (hq : ∀ r H' nx', Q r H' nx' → Q' r H' nx') : PCalls P f args H nx Q' := ⟨h.1, fun w vs ρ A0 h1 h2 h3 =>
  (h.2 w vs ρ A0 h1 h2 h3).mono fun _ _ ⟨v, r, H', nx', ρ', he, hQ, rest⟩ => ⟨v, r, H', nx', ρ', he, hq _ _ _ hQ, rest⟩⟩

mutual

def shift (k : Nat) : PV → PV
  | .any => .any
  | .val v => .val v
  | .sl n cs => .sl n (shiftL k cs)
  | .ref id off n cap sz => .ref (id + k) off n cap sz
  | .ptr id off => .ptr (id + k) off
  | .rp cs => .rp (shiftL k cs)
  | .agg cs => .agg (shiftL k cs)
  | .tup cs => .tup (shiftL k cs)
  | .fn f cs => .fn f (shiftL k cs)
def shiftL (k : Nat) : List PV → List PV
  | [] => []
  | c :: cs => shift k c :: shiftL k cs
end

mutual

def flat : PV → Bool
  | .any => true
  | .val _ => true
  | .sl _ cs => flatL cs
  | .ref .. => false
  | .ptr .. => false
  | .rp cs => flatL cs
  | .agg cs => flatL cs
  | .tup cs => flatL cs
  | .fn _ cs => flatL cs
def flatL : List PV → Bool
  | [] => true
  | c :: cs => flat c && flatL cs
end

mutual

def closed : PV → Bool
  | .any => true
  | .val _ => true
  | .sl _ cs => cs.isEmpty
  | .ref .. => true
  | .ptr .. => true
  | .rp cs => cs.isEmpty
  | .agg cs => closedL cs
  | .tup cs => closedL cs
  | .fn _ cs => closedL cs
def closedL : List PV → Bool
  | [] => true
  | c :: cs => closed c && closedL cs
end


def view1 (H : Nat → Option (List PV)) : PV → PV
  | .val (.slice none 0 0) => .sl 0 []
  | .ref id off n cap sz => match H id with
    | some cs => if off + n * sz ≤ cs.length then .sl n ((cs.drop off).take (n * sz)) else .ref id off n cap sz
    | none => .ref id off n cap sz
  | .ptr id off => match H id with
    | some cs => .rp (cs.drop off)
    | none => .ptr id off
  | p => p

def view (H : Nat → Option (List PV)) : PV → PV
  | .agg cs => .agg (cs.map (view1 H))
  | .val (.agg vs) => .agg (vs.toList.map fun v => view1 H (.val v))
  | p => view1 H p


def joinH (H : Nat → Option (List PV)) (nx : Nat) (H' : Nat → Option (List PV)) : Nat → Option (List PV) :=
  fun i => if i < nx then H i else (H' (i - nx)).map (shiftL nx)


def WF (st : PS) : Prop := ∀ i, st.nx ≤ i → st.H i = none


def callP (P : Program) (f : FuncId) (args : List PV) (st : PS) (K : PV → PS → Prop) : Prop :=
  flatL (args.map (view st.H)) = true ∧
  PCalls P f (args.map (view st.H)) (fun _ => none) 0 fun r H' nx' =>
    (flatL args = false → closed r = true ∧ ∀ i cs, H' i = some cs → closedL cs = true) ∧
    (WF st → (∀ i, nx' ≤ i → H' i = none) → K (shift st.nx r) { st with H := joinH st.H st.nx H', nx := st.nx + nx' })


def callM (P : Program) (f : FuncId) (args : List PV) (st : PS) (K : PV → PS → Prop) : Prop :=
  PCalls P f args st.H st.nx fun r H' nx' => WF st → (∀ i, nx' ≤ i → H' i = none) → st.nx ≤ nx' → K r { st with H := H', nx := nx' }


def GhV (r : PV) (st : PS) (r1 : PV) (st1 : PS) : Prop :=
  ∀ (c : Cx) (a : Act) (w : World) (v : Value), (∃ ρ, Rr c st a w ρ ∧ Rep (enOf c.A0 w ρ st.H st.it st.nx) r v) → ∃ ρ, Rr c st1 a w ρ ∧ Rep (enOf c.A0 w ρ st1.H st1.it st1.nx) r1 v

def ghK (K : PV → PS → Prop) (r : PV) (st : PS) : Prop := ∃ r1 st1, GhV r st r1 st1 ∧ K r1 st1


def GhA (l : List PV) (st : PS) (l1 : List PV) (st1 : PS) : Prop :=
  ∀ (c : Cx) (a : Act) (w : World) (vs : List Value), (∃ ρ, Rr c st a w ρ ∧ RepL (enOf c.A0 w ρ st.H st.it st.nx) l vs) → ∃ ρ, Rr c st1 a w ρ ∧ RepL (enOf c.A0 w ρ st1.H st1.it st1.nx) l1 vs
theorem GhA.refl (l : List PV) (st : PS) : GhA l st l st := fun _ _ _ _ h => h


def pCall (P : Program) (f : FuncId) (args : List PV) (st : PS) (K : PV → PS → Prop) : Prop :=
  ∃ args1 st1, GhA args st args1 st1 ∧ (callP P f args1 st1 (ghK K) ∨ callM P f args1 st1 (ghK K))

def pOp (P : Program) (o : Oper) (K : PS → Prop) (st : PS) : Prop :=
  match o.op with
  | .store t p x => pStore P st t (st.ev p) (st.ev x) fun st' => K (st'.put o.dst (.val undef))
  | .alloc e => pAlloc P st e fun r st' => K (st'.put o.dst r)
  | .box e x => pBox st (st.ev x) fun r st' => K (st'.put o.dst r)
  | .makeSlice t l c => pMake P st t (st.ev l) (st.ev c) fun r st' => K (st'.put o.dst r)
  | .buildSlice t n parts => pBuildSlice P st t n parts.toList fun r st' => K (st'.put o.dst r)
  | .range t x => pRange P st t (st.ev x) fun r st' => K (st'.put o.dst r)
  | .next x true => pNext st (st.ev x) fun r st' => K (st'.put o.dst r)
  | .call c => match c.callee, c.args.toList, c.argTypes.toList with
    | .builtin .append, [x, y], [t, t'] => pAppend P st t t' (st.ev x) (st.ev y) fun r st' => K (st'.put o.dst r)
    | .builtin .copy, [x, y], [t, _] => pCopy P st t (st.ev x) (st.ev y) fun r st' => K (st'.put o.dst r)
    | .value f, args, _ => ∃ g caps, st.ev f = .fn g caps ∧ pCall P g (args.map st.ev ++ caps) st fun r st' => K (st'.put o.dst r)
    | _, _, _ => ∃ p, qv P st (.call c) = some p ∧ K (st.put o.dst p)
  | op => ∃ p, qv P st op = some p ∧ K (st.put o.dst p)


def pGuard (ops : Array Oper) (st : PS) (o : Oper) (run skip : Prop) : Prop :=
  match o.guard with
  | none => run
  | some (j, want) => match (ops[j]?).bind (·.dst) with
    | none => False
    | some d => match st.sl d with
      | .val (.bool b) => (b = want → run) ∧ (b ≠ want → skip)
      | .val (.tuple _) => skip
      | _ => False

def pOps (P : Program) (ops : Array Oper) (K : PS → Prop) : List Oper → PS → Prop
  | [], st => K st
  | o :: rest, st => pGuard ops st o (pOp P o (pOps P ops K rest) st) (pOps P ops K rest (st.put o.dst (.val undef)))

end Go.Proofs.Ytfjdfnlkobeehaa
end
