/- The engine: a run of V is a run of the program. -/
import Derived.LoopN
import Derived.Scope
import Derived.Laws.Cells
import Derived.Laws.Entries
import Derived.ChangeKeysEq
import Derived.Laws.IdiomCopy
set_option linter.all false
section
/- The engine, part 1: values, memory, code and runs of V. -/
namespace Go.Ve

abbrev Pth := List Nat

inductive Vl where
  | int (k : IntKind) (n : Int)
  | bool (b : Bool)
  | str (s : List UInt8)
  | nilp
  | ptr (b : Pth) (off : Nat)
  | eptr (cs : List Vl) (off : Nat)
  | nils
  | sle
  | sl (tok : Pth) (es : List Vl)
  | nili
  | iface (t : TypeId) (v : Vl)
  | nilf
  | fn (f : FuncId) (first captured : List Vl)
  | nilm
  | map (b : Pth)
  | agg (cs : List Vl)
  | tup (vs : List Vl)
  | sym (k : IntKind) (i : Nat)
  | symS (i : Nat)
  deriving Inhabited

def Vl.cells : Vl → List Vl
  | .agg cs => cs
  | v => [v]

def undefV : Vl := .tup []

def Vl.isTup : Vl → Bool
  | .tup _ => true
  | _ => false

inductive VObj where
  | cells (ver : Nat) (cs : List Vl)
  | iter (s : List UInt8) (pos : Nat)
  | mp
  deriving Inhabited

def VObj.size : VObj → Nat
  | .cells _ cs => cs.length
  | _ => 0

inductive PV where
  | u (v : Vl)
  | rt
  deriving Inhabited

inductive CR where
  | ret (v : Vl)
  | pan (p : PV)
  deriving Inhabited

structure Mem where
  bx : List (Pth × VObj)
  tk : List Pth
  deriving Inhabited

def lookup (p : Pth) : List (Pth × VObj) → Option VObj
  | [] => none
  | (q, o) :: l => if p = q then some o else lookup p l

def update (p : Pth) (o : VObj) : List (Pth × VObj) → List (Pth × VObj)
  | [] => []
  | (q, x) :: l => if p = q then (q, o) :: l else (q, x) :: update p o l


abbrev CallFn := FuncId → List Vl → Pth → Mem → Option (CR × Mem)

inductive VOpd where
  | t (i : Nat)
  | c (v : Vl)
  | f (f : FuncId)
  deriving Inhabited

def opd (tm : List Vl) : VOpd → Vl
  | .t i => tm.getD i undefV
  | .c v => v
  | .f f => .fn f [] []

inductive VOp where
  | mv (x : VOpd)
  | pick (c a b : VOpd)
  | alloc (z : List Vl)
  | box (x : VOpd)
  | build (z : List Vl) (parts : List (Nat × Nat × VOpd))
  | bslice (z : Vl) (n : Nat) (parts : List (Nat × VOpd))
  | load (agg : Bool) (size : Nat) (x : VOpd)
  | store (size : Nat) (a x : VOpd)
  | nilck (x : VOpd)
  | bin (op : BinOp) (x y : VOpd)
  | eqb (neg : Bool) (x y : VOpd)
  | eqi (neg : Bool) (kind : Nat) (x : VOpd)
  | un (op : UnOp) (x : VOpd)
  | convI (k : IntKind) (x : VOpd)
  | convS (x : VOpd)
  | mkI (t : TypeId) (x : VOpd)
  | mkF (f : FuncId) (first captured : List VOpd)
  | mkM
  | slcStr (x : VOpd) (lo hi : Option VOpd)
  | slcSl (size : Nat) (x : VOpd) (lo hi : Option VOpd)
  | fieldAddr (off : Nat) (x : VOpd)
  | field (agg : Bool) (off size : Nat) (x : VOpd)
  | idxSl (size : Nat) (x i : VOpd)
  | idxArr (len size : Nat) (x i : VOpd)
  | idxStr (x i : VOpd)
  | idxVal (agg : Bool) (len size : Nat) (x i : VOpd)
  | tas (t : TypeId) (z : Vl) (ok : Bool) (x : VOpd)
  | extract (x : VOpd) (i : Nat)
  | callF (f : FuncId) (args : List VOpd)
  | callV (x : VOpd) (args : List VOpd)
  | invoke (x : VOpd) (tab : List (TypeId × FuncId)) (args : List VOpd)
  | len (str : Bool) (x : VOpd)
  | app (size bytes : Nat) (x y : VOpd)
  | mxn (mx : Bool) (x y : VOpd)
  | panic (x : VOpd)
  | rng (x : VOpd)
  | nxt (x : VOpd)
  | clip (x hi mx : VOpd)
  | no
  deriving Inhabited

inductive OR where
  | ok (v : Vl) (m : Mem)
  | pan (p : PV) (m : Mem)
  deriving Inhabited

def asI : Vl → Option Int
  | .int _ n => some n
  | _ => none

def bnd (tm : List Vl) (x : Option VOpd) (d : Int) : Option Int :=
  match x with
  | some l => asI (opd tm l)
  | none => some d

/-- The parts of a value laid into cells. -/
def fillV : List Vl → List (Nat × List Vl) → List Vl
  | z, [] => z
  | z, (off, cs) :: l => fillV (z.take off ++ cs ++ z.drop (off + cs.length)) l

def setV : List Vl → List (Nat × Vl) → List Vl
  | z, [] => z
  | z, (i, v) :: l => setV (z.set i v) l

def binV (op : BinOp) : Vl → Vl → Option (Sum Vl Unit)
  | .int k a, .int k' b =>
    match op with
    | .shl => if b < 0 then some (.inr ()) else some (.inl (.int k (k.wrap (a * 2 ^ (min b.toNat k.bits)))))
    | .shr => if b < 0 then some (.inr ()) else some (.inl (.int k (a.fdiv (2 ^ (min b.toNat k.bits)))))
    | _ =>
    if k ≠ k' then none else
    match op with
    | .add => some (.inl (.int k (k.wrap (a + b))))
    | .sub => some (.inl (.int k (k.wrap (a - b))))
    | .mul => some (.inl (.int k (k.wrap (a * b))))
    | .quo => if b = 0 then some (.inr ()) else some (.inl (.int k (k.wrap (a.tdiv b))))
    | .rem => if b = 0 then some (.inr ()) else some (.inl (.int k (a.tmod b)))
    | .and => some (.inl (.int k (k.wrap (BitVec.ofInt k.bits a &&& BitVec.ofInt k.bits b).toNat)))
    | .or => some (.inl (.int k (k.wrap (BitVec.ofInt k.bits a ||| BitVec.ofInt k.bits b).toNat)))
    | .xor => some (.inl (.int k (k.wrap (BitVec.ofInt k.bits a ^^^ BitVec.ofInt k.bits b).toNat)))
    | .andNot => some (.inl (.int k (k.wrap (BitVec.ofInt k.bits a &&& ~~~BitVec.ofInt k.bits b).toNat)))
    | .eql => some (.inl (.bool (a == b)))
    | .neq => some (.inl (.bool (a != b)))
    | .lss => some (.inl (.bool (a < b)))
    | .leq => some (.inl (.bool (a ≤ b)))
    | .gtr => some (.inl (.bool (a > b)))
    | .geq => some (.inl (.bool (a ≥ b)))
    | _ => none
  | .str a, .str b =>
    match op with
    | .add => if a.length + b.length < 2 ^ 62 then some (.inl (.str (a ++ b))) else none
    | .eql => some (.inl (.bool (a == b)))
    | .neq => some (.inl (.bool (!(a == b))))
    | .lss => some (.inl (.bool (Op.bytesLess a b)))
    | .leq => some (.inl (.bool (Op.bytesLess a b || a == b)))
    | .gtr => some (.inl (.bool (!(Op.bytesLess a b || a == b))))
    | .geq => some (.inl (.bool (!Op.bytesLess a b)))
    | _ => none
  | _, _ => none

/-- Elements of a value that a slice may be appended with. -/
def elems : Vl → Option (List Vl)
  | .nils => some []
  | .sle => some []
  | .sl _ es => some es
  | _ => none

def isNilK : Nat → Vl → Option Bool
  | 0, .nili => some true
  | 0, .iface _ _ => some false
  | 1, .nilp => some true
  | 1, .ptr _ _ => some false
  | 1, .eptr _ _ => some false
  | 2, .nils => some true
  | 2, .sle => some false
  | 2, .sl _ _ => some false
  | 3, .nilm => some true
  | 3, .map _ => some false
  | 4, .nilf => some true
  | 4, .fn _ _ _ => some false
  | _, _ => none

/-- The elements have so many cells. -/
def sized (size : Nat) : List Vl → Bool
  | [] => true
  | e :: _ => e.cells.length == size

def slcL {α : Type} (l : List α) (lo hi : Nat) : List α := (l.take hi).drop lo

def findT (t : TypeId) : List (TypeId × FuncId) → Option FuncId
  | [] => none
  | (u, f) :: l => if t = u then some f else findT t l

def cut (c : Option (CR × Mem)) : Option OR :=
  match c with
  | some (.ret v, m) => some (.ok v m)
  | some (.pan p, m) => some (.pan p m)
  | none => none

def evalB (call : CallFn) (tm : List Vl) (id : Pth) (m : Mem) : VOp → Option OR
  | .no => none
  | .clip x hi mx =>
    match opd tm x, opd tm hi, opd tm mx with
    | .sl _ es, .int _ h, .int _ n => if h = es.length ∧ n = es.length then some (.ok (.sl [] es) m) else none
    | .nils, .int _ h, .int _ n => if h = 0 ∧ n = 0 then some (.ok .nils m) else none
    | .sle, .int _ h, .int _ n => if h = 0 ∧ n = 0 then some (.ok .sle m) else none
    | _, _, _ => none
  | .mv x => some (.ok (opd tm x) m)
  | .pick c a b =>
    match opd tm c with
    | .bool t => some (.ok (if t then opd tm a else opd tm b) m)
    | _ => none
  | .alloc z => some (.ok (.ptr id 0) { m with bx := (id, .cells 0 z) :: m.bx })
  | .box x => if (opd tm x).isTup = false then some (.ok (.ptr id 0) { m with bx := (id, .cells 0 (opd tm x).cells) :: m.bx }) else none
  | .build z parts =>
    if parts.all (fun p => !(opd tm p.2.2).isTup && ((opd tm p.2.2).cells.length == p.2.1 && decide (p.1 + p.2.1 ≤ z.length))) then
      some (.ok (.agg (fillV z (parts.map fun p => (p.1, (opd tm p.2.2).cells)))) m)
    else none
  | .bslice z n parts =>
    if parts.all (fun p => !(opd tm p.2).isTup && (opd tm p.2).cells.length == z.cells.length) then
      if n = 0 then some (.ok .sle m)
      else some (.ok (.sl id (setV (List.replicate n z) (parts.map fun p => (p.1, opd tm p.2)))) { m with tk := id :: m.tk })
    else none
  | .load agg size x =>
    match opd tm x with
    | .ptr b off =>
      match lookup b m.bx with
      | some (.cells _ cs) =>
        if agg then (if off + size ≤ cs.length then some (.ok (.agg (slcL cs off (off + size))) m) else none)
        else match cs[off]? with
          | some v => some (.ok v m)
          | none => none
      | _ => none
    | .eptr cs off =>
      if agg then (if off + size ≤ cs.length then some (.ok (.agg (slcL cs off (off + size))) m) else none)
      else match cs[off]? with
        | some v => some (.ok v m)
        | none => none
    | _ => none
  | .store size a x =>
    match opd tm a with
    | .ptr b off =>
      match lookup b m.bx with
      | some (.cells ver cs) =>
        if (opd tm x).isTup = false ∧ (opd tm x).cells.length = size ∧ off + size ≤ cs.length then
          some (.ok undefV { m with bx := update b (.cells (ver + 1) (cs.take off ++ (opd tm x).cells ++ cs.drop (off + size))) m.bx })
        else none
      | _ => none
    | _ => none
  | .nilck x =>
    match opd tm x with
    | .ptr b off => some (.ok (.ptr b off) m)
    | .eptr b off => some (.ok (.eptr b off) m)
    | .nilp => some (.pan .rt m)
    | .nili => some (.pan .rt m)
    | .nilf => some (.pan .rt m)
    | _ => none
  | .bin op x y =>
    match binV op (opd tm x) (opd tm y) with
    | some (.inl v) => some (.ok v m)
    | some (.inr _) => some (.pan .rt m)
    | none => none
  | .eqb neg x y =>
    match opd tm x, opd tm y with
    | .bool a, .bool b => some (.ok (.bool (if neg then !(a == b) else a == b)) m)
    | _, _ => none
  | .eqi neg kind x =>
    match isNilK kind (opd tm x) with
    | some b => some (.ok (.bool (if neg then !b else b)) m)
    | none => none
  | .un op x =>
    match op, opd tm x with
    | .not, .bool b => some (.ok (.bool (!b)) m)
    | .neg, .int k n => some (.ok (.int k (k.wrap (0 - n))) m)
    | .xor, .int k n => some (.ok (.int k (k.wrap (BitVec.ofInt k.bits (if k.signed then -1 else k.max) ^^^ BitVec.ofInt k.bits n).toNat)) m)
    | _, _ => none
  | .convI k x =>
    match opd tm x with
    | .int _ n => some (.ok (.int k (k.wrap n)) m)
    | _ => none
  | .convS x =>
    match opd tm x with
    | .str s => some (.ok (.str s) m)
    | _ => none
  | .mkI t x => some (.ok (.iface t (opd tm x)) m)
  | .mkF f first captured => some (.ok (.fn f (first.map (opd tm)) (captured.map (opd tm))) m)
  | .mkM => some (.ok (.map id) { m with bx := (id, .mp) :: m.bx })
  | .slcStr x lo hi =>
    match opd tm x, bnd tm lo 0 with
    | .str s, some l =>
      match bnd tm hi s.length with
      | some h =>
        if 0 ≤ h ∧ h ≤ s.length ∧ 0 ≤ l ∧ l ≤ h then some (.ok (.str (slcL s l.toNat h.toNat)) m) else some (.pan .rt m)
      | none => none
    | _, _ => none
  | .slcSl size x lo hi =>
    match opd tm x, bnd tm lo 0 with
    | .sl tok es, some l =>
      match bnd tm hi es.length with
      | some h =>
        if 0 ≤ h ∧ h ≤ es.length ∧ 0 ≤ l ∧ l ≤ h then
          (if sized size es then some (.ok (.sl (if h = es.length ∧ l < h then tok else []) (slcL es l.toNat h.toNat)) m) else none)
        else if h < 0 ∨ (h ≤ es.length ∧ (l < 0 ∨ h < l)) then some (.pan .rt m)
        else none
      | none => none
    | .nils, some l =>
      match bnd tm hi 0 with
      | some h => if h = 0 ∧ l = 0 then some (.ok .nils m) else some (.pan .rt m)
      | none => none
    | .sle, some l =>
      match bnd tm hi 0 with
      | some h => if h = 0 ∧ l = 0 then some (.ok .sle m) else some (.pan .rt m)
      | none => none
    | _, _ => none
  | .fieldAddr off x =>
    match opd tm x with
    | .ptr b o => some (.ok (.ptr b (o + off)) m)
    | .eptr cs o => some (.ok (.eptr cs (o + off)) m)
    | _ => none
  | .field agg off size x =>
    match opd tm x with
    | .agg cs =>
      if agg then (if off + size ≤ cs.length then some (.ok (.agg (slcL cs off (off + size))) m) else none)
      else match cs[off]? with
        | some v => some (.ok v m)
        | none => none
    | _ => none
  | .idxSl size x i =>
    match opd tm x, opd tm i with
    | .sl _ es, .int _ n =>
      if 0 ≤ n ∧ n < es.length then
        match es[n.toNat]? with
        | some e => if e.cells.length = size then some (.ok (.eptr e.cells 0) m) else none
        | none => none
      else some (.pan .rt m)
    | .nils, .int _ _ => some (.pan .rt m)
    | .sle, .int _ _ => some (.pan .rt m)
    | _, _ => none
  | .idxArr len size x i =>
    match opd tm x, opd tm i with
    | .ptr b o, .int _ n => if 0 ≤ n ∧ n < len then some (.ok (.ptr b (o + n.toNat * size)) m) else none
    | .eptr cs o, .int _ n => if 0 ≤ n ∧ n < len then some (.ok (.eptr cs (o + n.toNat * size)) m) else none
    | _, _ => none
  | .idxStr x i =>
    match opd tm x, opd tm i with
    | .str s, .int _ n =>
      if 0 ≤ n then
        match s[n.toNat]? with
        | some b => some (.ok (.int .u8 b.toNat) m)
        | none => some (.pan .rt m)
      else some (.pan .rt m)
    | _, _ => none
  | .idxVal agg len size x i =>
    match opd tm x, opd tm i with
    | .agg cs, .int _ n =>
      if 0 ≤ n ∧ n < len then
        if agg then (if n.toNat * size + size ≤ cs.length then some (.ok (.agg (slcL cs (n.toNat * size) (n.toNat * size + size))) m) else none)
        else match cs[n.toNat * size]? with
          | some v => some (.ok v m)
          | none => none
      else some (.pan .rt m)
    | _, _ => none
  | .tas t z ok x =>
    match opd tm x with
    | .iface u v =>
      if u = t then some (.ok (if ok then .tup [v, .bool true] else v) m)
      else if ok then some (.ok (.tup [z, .bool false]) m) else none
    | .nili => if ok then some (.ok (.tup [z, .bool false]) m) else none
    | _ => none
  | .extract x i =>
    match opd tm x with
    | .tup vs =>
      match vs[i]? with
      | some v => some (.ok v m)
      | none => none
    | _ => none
  | .callF f args => cut (call f (args.map (opd tm)) id m)
  | .callV x args =>
    match opd tm x with
    | .fn f first captured => cut (call f (first ++ args.map (opd tm) ++ captured) id m)
    | .nilf => some (.pan .rt m)
    | _ => none
  | .invoke x tab args =>
    match opd tm x with
    | .iface t v =>
      match findT t tab with
      | some f => cut (call f (v :: args.map (opd tm)) id m)
      | none => none
    | .nili => some (.pan .rt m)
    | _ => none
  | .len str x =>
    if str then
      match opd tm x with
      | .str s => some (.ok (.int .i64 s.length) m)
      | _ => none
    else
      match opd tm x with
      | .sl _ es => some (.ok (.int .i64 es.length) m)
      | .nils => some (.ok (.int .i64 0) m)
      | .sle => some (.ok (.int .i64 0) m)
      | _ => none
  | .app size bytes x y =>
    match elems (opd tm y) with
    | none => none
    | some ys =>
      if sized size ys then
        match opd tm x with
        | .nils =>
          if ys = [] then some (.ok .nils m)
          else if ys.length * bytes < 2 ^ 46 ∧ ys.length < 2 ^ 46 then some (.ok (.sl id ys) { m with tk := id :: m.tk }) else none
        | .sle =>
          if ys = [] then some (.ok .sle m)
          else if ys.length * bytes < 2 ^ 46 ∧ ys.length < 2 ^ 46 then some (.ok (.sl id ys) { m with tk := id :: m.tk }) else none
        | .sl tok es =>
          if ys = [] then some (.ok (.sl tok es) m)
          else if tok ∈ m.tk ∧ es ≠ [] ∧ sized size es ∧ (es.length + ys.length) * bytes < 2 ^ 46 ∧ es.length + ys.length < 2 ^ 46 then
            some (.ok (.sl id (es ++ ys)) { m with tk := id :: m.tk.erase tok })
          else none
        | _ => none
      else none
  | .mxn mx x y =>
    match opd tm x, opd tm y with
    | .int k a, .int _ b => some (.ok (.int k (if mx then (if b > a then b else a) else (if b < a then b else a))) m)
    | _, _ => none
  | .panic x =>
    match opd tm x with
    | .iface t v => some (.pan (.u (.iface t v)) m)
    | _ => none
  | .rng x =>
    match opd tm x with
    | .str s => some (.ok (.ptr id 0) { m with bx := (id, .iter s 0) :: m.bx })
    | _ => none
  | .nxt x =>
    match opd tm x with
    | .ptr b 0 =>
      match lookup b m.bx with
      | some (.iter s pos) =>
        if pos < s.length then
          let r := Utf8.decode ⟨s.toArray⟩ pos
          some (.ok (.tup [.bool true, .int .i64 pos, .int .i32 r.1]) { m with bx := update b (.iter s (pos + r.2)) m.bx })
        else some (.ok (.tup [.bool false]) m)
      | _ => none
    | _ => none

mutual
def eqV : Nat → Vl → Vl → Bool
  | 0, _, _ => false
  | n + 1, x, y =>
    match x, y with
    | .int k a, .int k' b => k == k' && a == b
    | .bool a, .bool b => a == b
    | .str a, .str b => a == b
    | .nilp, .nilp => true
    | .ptr p o, .ptr q o' => p == q && o == o'
    | .eptr l o, .eptr l' o' => o == o' && eqVs n l l'
    | .nils, .nils => true
    | .sle, .sle => true
    | .sl t l, .sl t' l' => t == t' && eqVs n l l'
    | .nili, .nili => true
    | .iface t v, .iface t' v' => t == t' && eqV n v v'
    | .nilf, .nilf => true
    | .fn f l r, .fn f' l' r' => f == f' && eqVs n l l' && eqVs n r r'
    | .nilm, .nilm => true
    | .map p, .map q => p == q
    | .agg l, .agg l' => eqVs n l l'
    | .tup l, .tup l' => eqVs n l l'
    | .sym k i, .sym k' i' => k == k' && i == i'
    | .symS i, .symS i' => i == i'
    | _, _ => false
def eqVs : Nat → List Vl → List Vl → Bool
  | 0, _, _ => false
  | n + 1, x, y =>
    match x, y with
    | [], [] => true
    | a :: l, b :: l' => eqV n a b && eqVs n l l'
    | _, _ => false
end

/-- The value of an operation that looks at its operands alone. -/
def pureB (ev : VOpd → Vl) : VOp → Option Vl
  | .bin op x y =>
    match binV op (ev x) (ev y) with
    | some (.inl v) => some v
    | _ => none
  | .eqb neg x y =>
    match ev x, ev y with
    | .bool a, .bool b => some (.bool (if neg then !(a == b) else a == b))
    | _, _ => none
  | .un op x =>
    match op, ev x with
    | .not, .bool b => some (.bool (!b))
    | .neg, .int k n => some (.int k (k.wrap (0 - n)))
    | .xor, .int k n => some (.int k (k.wrap (BitVec.ofInt k.bits (if k.signed then -1 else k.max) ^^^ BitVec.ofInt k.bits n).toNat))
    | _, _ => none
  | .convI k x =>
    match ev x with
    | .int _ n => some (.int k (k.wrap n))
    | _ => none
  | .convS x =>
    match ev x with
    | .str s => some (.str s)
    | _ => none
  | .mxn mx x y =>
    match ev x, ev y with
    | .int k a, .int _ b => some (.int k (if mx then (if b > a then b else a) else (if b < a then b else a)))
    | _, _ => none
  | .slcStr x lo hi =>
    match ev x, (match lo with | some l => asI (ev l) | none => some 0) with
    | .str s, some l =>
      match (match hi with | some h => asI (ev h) | none => some (s.length : Int)) with
      | some h => if 0 ≤ h ∧ h ≤ s.length ∧ 0 ≤ l ∧ l ≤ h then some (.str (slcL s l.toNat h.toNat)) else none
      | none => none
    | _, _ => none
  | .len true x =>
    match ev x with
    | .str s => some (.int .i64 s.length)
    | _ => none
  | .idxStr x i =>
    match ev x, ev i with
    | .str s, .int _ n =>
      if 0 ≤ n then
        match s[n.toNat]? with
        | some b => some (.int .u8 b.toNat)
        | none => none
      else none
    | _, _ => none
  | _ => none

/-- An operation on constants, some of them symbols, and its value. -/
structure Fact where
  op : VOp
  v : Vl

/-- What a value is that bears symbols. -/
def denV (i : Nat → Int) (s : Nat → List UInt8) : Vl → Vl
  | .sym k n => .int k (i n)
  | .symS n => .str (s n)
  | v => v

/-- What symbols stand for, and what is known of them. -/
class Syms where
  i : Nat → Int
  s : Nat → List UInt8
  fx : List Fact
  ok : ∀ f ∈ fx, pureB (fun x => denV i s (opd [] x)) f.op = some (denV i s f.v)

def Vl.isSym : Vl → Bool
  | .sym _ _ => true
  | .symS _ => true
  | _ => false

def VOpd.plain : VOpd → Bool
  | .c v => !v.isSym
  | _ => true

def sameX (tm : List Vl) (x y : VOpd) : Bool := x.plain && eqV 100000 (opd tm x) (opd [] y)

def sameO (tm : List Vl) : Option VOpd → Option VOpd → Bool
  | none, none => true
  | some x, some y => sameX tm x y
  | _, _ => false

/-- Is an operation, its operands valued, the one of a fact? -/
def sameOp (tm : List Vl) : VOp → VOp → Bool
  | .bin op x y, .bin op' x' y' => op == op' && sameX tm x x' && sameX tm y y'
  | .eqb neg x y, .eqb neg' x' y' => neg == neg' && sameX tm x x' && sameX tm y y'
  | .un op x, .un op' x' => op == op' && sameX tm x x'
  | .convI k x, .convI k' x' => k == k' && sameX tm x x'
  | .convS x, .convS x' => sameX tm x x'
  | .mxn mx x y, .mxn mx' x' y' => mx == mx' && sameX tm x x' && sameX tm y y'
  | .slcStr x lo hi, .slcStr x' lo' hi' => sameX tm x x' && sameO tm lo lo' && sameO tm hi hi'
  | .len true x, .len true x' => sameX tm x x'
  | .idxStr x y, .idxStr x' y' => sameX tm x x' && sameX tm y y'
  | _, _ => false

def factV (tm : List Vl) (op : VOp) : List Fact → Option Vl
  | [] => none
  | f :: l => if sameOp tm op f.op then some f.v else factV tm op l

variable [Syms]

def evalOp (call : CallFn) (tm : List Vl) (id : Pth) (m : Mem) (op : VOp) : Option OR :=
  match evalB call tm id m op with
  | some r => some r
  | none =>
    match factV tm op Syms.fx with
    | some v => some (.ok v m)
    | none => none

structure VOper where
  idx : Nat
  dst : Option Nat
  op : VOp
  guard : Option (Nat × Bool)
  deriving Inhabited

/-- A phase of a region that draws: what is valued, what may still be undone in truth, what V's memory gets, the effect. -/
structure VTl where
  size : Nat
  bytes : Nat
  ia : Nat
  da : Nat
  x : VOpd
  y : VOpd
  n : VOpd
  di : Nat
  e : VOpd
  f : Option (Nat × Nat)
  pt : VOpd
  deriving Inhabited

structure VPh where
  fl : List VOper
  ck : List VOper
  ad : List VOper
  eff : Option VOper
  tl : Option VTl
  deriving Inhabited

inductive VC where
  | skip
  | region (n : Nat) (ops : List VOper)
  | draw (n : Nat) (phs : List VPh)
  | seq (a b : VC)
  | cond (c : VOpd) (thn els : VC)
  | block (id : Nat) (body : VC)
  | loop (body : VC)
  | exit (id : Nat)
  | ret
  | no
  deriving Inhabited

inductive EX where
  | norm
  | exit (id : Nat)
  | ret
  | pan (p : PV)
  deriving Inhabited

def wantedV (tm : List Vl) : Option (Nat × Bool) → Bool
  | none => true
  | some (s, b) =>
    match tm[s]? with
    | some (.bool x) => x == b
    | _ => false

def putV (tm : List Vl) (dst : Option Nat) (v : Vl) : List Vl :=
  match dst with
  | some d => tm.set d v
  | none => tm

def runOps (call : CallFn) (p : Pth) (base : Nat) : List VOper → List Vl → Mem → Option (EX × List Vl × Mem)
  | [], tm, m => some (.norm, tm, m)
  | o :: l, tm, m =>
    if wantedV tm o.guard then
      match evalOp call tm ((base + o.idx) :: p) m o.op with
      | some (.ok v m') => runOps call p base l (putV tm o.dst v) m'
      | some (.pan pv m') => some (.pan pv, tm, m')
      | none => none
    else runOps call p base l (putV tm o.dst undefV) m


/-- What leaves memory as it is, and asks nobody. -/
def keepsV : VOp → Bool
  | .alloc _ | .box _ | .bslice _ _ _ | .store _ _ _ | .mkM | .callF _ _ | .callV _ _ | .invoke _ _ _ | .app _ _ _ _ | .panic _ | .rng _ | .nxt _ | .no => false
  | _ => true

def boxCells (tm : List Vl) : VOp → Option (List Vl)
  | .alloc z => some z
  | .box x => if (opd tm x).isTup = false then some (opd tm x).cells else none
  | _ => none

def isNewV : VOp → Bool
  | .alloc _ | .box _ => true
  | _ => false

def isBsV : VOp → Bool
  | .bslice _ _ _ => true
  | _ => false

def noCall : CallFn := fun _ _ _ _ => none

/-- The value of an operation whose place in the order is open. -/
def floatV (tm : List Vl) (id : Pth) (m : Mem) (op : VOp) : Option Vl :=
  if isNewV op then
    match boxCells tm op with
    | some _ => some (.ptr id 0)
    | none => none
  else if isBsV op then
    match evalOp noCall tm id m op with
    | some (.ok (.sl _ es) _) => some (.sl [] es)
    | some (.ok .sle _) => some .sle
    | _ => none
  else if keepsV op then
    match evalOp noCall tm id m op with
    | some (.ok v _) => some v
    | _ => none
  else none

def flVal (p : Pth) (base : Nat) (T : List Vl) (m : Mem) (o : VOper) : Option Vl :=
  if wantedV T o.guard then floatV T ((base + o.idx) :: p) m o.op else some undefV

def flV (p : Pth) (base : Nat) (m : Mem) : List VOper → List Vl → Option (List Vl)
  | [], T => some T
  | o :: l, T =>
    match flVal p base T m o with
    | some v => flV p base m l (putV T o.dst v)
    | none => none

def ckV (p : Pth) (base : Nat) (m : Mem) (T : List Vl) : List VOper → Bool
  | [] => true
  | o :: l =>
    (match flVal p base T m o with
     | some v =>
       match o.dst with
       | some d =>
         match T[d]? with
         | some u => eqV 100000 v u
         | none => false
       | none => true
     | none => false) && ckV p base m T l

def adV (p : Pth) (base : Nat) (T : List Vl) : List VOper → Mem → Option Mem
  | [], m => some m
  | o :: l, m =>
    if wantedV T o.guard then
      match boxCells T o.op with
      | some cs =>
        if (lookup ((base + o.idx) :: p) m.bx).isNone then adV p base T l { m with bx := (((base + o.idx) :: p), .cells 0 cs) :: m.bx } else none
      | none => none
    else adV p base T l m

/-- An append, behind which the new element and the slice are laid, in either order. -/
def tailV (p : Pth) (base : Nat) (t : VTl) (T : List Vl) (m : Mem) : Option (List Vl × Mem) :=
  if (opd T t.e).isTup = false ∧ (opd T t.e).cells.length = t.size ∧ t.da < T.length ∧ t.di < T.length then
    match elems (opd T t.x), opd T t.y, opd T t.n, opd T t.pt with
    | some es, .sl _ [zl], .int _ n, .ptr b off =>
      if zl.cells.length = t.size ∧ n = es.length then
        match evalB noCall T ((base + t.ia) :: p) m (.app t.size t.bytes t.x (.c (.sl [] [opd T t.e]))) with
        | some (.ok nv m1) =>
          match t.f with
          | none =>
            match evalB noCall T [] m1 (.store 1 (.c (.ptr b off)) (.c nv)) with
            | some (.ok _ m2) => some ((T.set t.da nv).set t.di (.eptr (opd T t.e).cells 0), m2)
            | _ => none
          | some (fo, df) =>
            if df < T.length then
              match evalB noCall T [] m1 (.store 1 (.c (.ptr b (off + fo))) (.c nv)) with
              | some (.ok _ m2) => some (((T.set t.da nv).set t.di (.eptr (opd T t.e).cells 0)).set df (.ptr b (off + fo)), m2)
              | _ => none
            else none
        | _ => none
      else none
    | _, _, _, _ => none
  else none

/-- The rest of a phase behind its values. -/
def runPh (call : CallFn) (p : Pth) (base : Nat) (next : List Vl → Mem → Option (EX × List Vl × Mem)) (ph : VPh) (T : List Vl) (m : Mem) : Option (EX × List Vl × Mem) :=
  if ckV p base m T ph.ck then
    match adV p base T ph.ad m with
    | none => none
    | some m1 =>
      match ph.eff with
      | none =>
        match ph.tl with
        | none => some (.norm, T, m1)
        | some t =>
          match tailV p base t T m1 with
          | some (T', m2) => some (.norm, T', m2)
          | none => none
      | some o =>
        if wantedV T o.guard then
          match evalOp call T ((base + o.idx) :: p) m1 o.op with
          | some (.ok v m2) => next (putV T o.dst v) m2
          | some (.pan pv m2) => some (.pan pv, T, m2)
          | none => none
        else next (putV T o.dst undefV) m1
  else none

def runD (call : CallFn) (p : Pth) (base : Nat) : List VPh → List Vl → Mem → Option (EX × List Vl × Mem)
  | [], _, _ => none
  | ph :: rest, tm, m =>
    match flV p base m ph.fl tm with
    | some T => runPh call p base (runD call p base rest) ph T m
    | none => none

def loopV (f : Nat → List Vl → Mem → Option (EX × Nat × List Vl × Mem)) : Nat → Nat → List Vl → Mem → Option (EX × Nat × List Vl × Mem)
  | 0, _, _, _ => none
  | n + 1, c, tm, m =>
    match f c tm m with
    | some (.norm, c', tm', m') => loopV f n c' tm' m'
    | r => r

def runC (call : CallFn) (n : Nat) (p : Pth) : VC → Nat → List Vl → Mem → Option (EX × Nat × List Vl × Mem)
  | .skip, c, tm, m => some (.norm, c, tm, m)
  | .region k ops, c, tm, m =>
    match runOps call p c ops tm m with
    | some (e, tm', m') => some (e, c + k, tm', m')
    | none => none
  | .draw k phs, c, tm, m =>
    match runD call p c phs tm m with
    | some (e, tm', m') => some (e, c + k, tm', m')
    | none => none
  | .seq a b, c, tm, m =>
    match runC call n p a c tm m with
    | some (.norm, c', tm', m') => runC call n p b c' tm' m'
    | r => r
  | .cond x a b, c, tm, m =>
    match opd tm x with
    | .bool t => if t then runC call n p a c tm m else runC call n p b c tm m
    | _ => none
  | .block id b, c, tm, m =>
    match runC call n p b c tm m with
    | some (.exit i, c', tm', m') => if i = id then some (.norm, c', tm', m') else some (.exit i, c', tm', m')
    | r => r
  | .loop b, c, tm, m => loopV (runC call n p b) n c tm m
  | .exit id, c, tm, m => some (.exit id, c, tm, m)
  | .ret, c, tm, m => some (.ret, c, tm, m)
  | .no, _, _, _ => none

/-- A function's results: each a move of a slot, or a load. -/
def resV (tm : List Vl) (m : Mem) : List VOp → Option (List Vl)
  | [] => some []
  | o :: l =>
    match evalB (fun _ _ _ _ => none) tm [] m o, resV tm m l with
    | some (.ok v _), some vs => some (v :: vs)
    | _, _ => none

def oneV : List Vl → Vl
  | [v] => v
  | vs => .tup vs

end Go.Ve
end

section
/- The engine, part 2: what a value of V stands for in a world; how worlds go on. -/
namespace Go.Ve
variable [Syms]

def Vl.one : Vl → Bool
  | .agg _ | .tup _ => false
  | _ => true

structure Ctx where
  bx : Pth → Option (Nat × Nat)
  tl : Pth → Option (Nat × Nat × Nat)
  im : Nat → Nat → Value → Prop

def OkE (e : Vl) : Prop := e.isTup = false ∧ ∀ v ∈ e.cells, v.one = true

inductive R (c : Ctx) : Vl → Value → Prop where
  | int (k : IntKind) (n : Int) : R c (.int k n) (.int k n)
  | bool (b : Bool) : R c (.bool b) (.bool b)
  | sym (k : IntKind) (i : Nat) : R c (.sym k i) (.int k (Syms.i i))
  | symS (i : Nat) : R c (.symS i) (.string ⟨(Syms.s i).toArray⟩)
  | str (s : List UInt8) : R c (.str s) (.string ⟨s.toArray⟩)
  | nilp : R c .nilp (.pointer none)
  | ptr (p : Pth) (off b base : Nat) (h : c.bx p = some (b, base)) : R c (.ptr p off) (.pointer (some ⟨b, base + off, none⟩))
  | eptr (cs : List Vl) (off b o : Nat) (f : Nat → Value) (h1 : ∀ v ∈ cs, v.one = true)
      (h2 : ∀ (j : Nat) (v : Vl), cs[j]? = some v → c.im b (o + j) (f j)) (h3 : ∀ (j : Nat) (v : Vl), cs[j]? = some v → R c v (f j)) :
      R c (.eptr cs off) (.pointer (some ⟨b, o + off, none⟩))
  | nils : R c .nils (.slice none 0 0)
  | sle (b o : Nat) : R c .sle (.slice (some ⟨b, o, none⟩) 0 0)
  | sl (tok : Pth) (es : List Vl) (b o cap sz : Nat) (f : Nat → Nat → Value) (h0 : es.length ≤ cap)
      (h1 : ∀ e ∈ es, OkE e ∧ e.cells.length = sz)
      (h2 : ∀ (i : Nat) (e : Vl) (j : Nat) (v : Vl), es[i]? = some e → e.cells[j]? = some v → c.im b (o + i * sz + j) (f i j))
      (h3 : ∀ (i : Nat) (e : Vl) (j : Nat) (v : Vl), es[i]? = some e → e.cells[j]? = some v → R c v (f i j))
      (h4 : tok = [] ∨ c.tl tok = some (b, o + es.length * sz, o + cap * sz)) :
      R c (.sl tok es) (.slice (some ⟨b, o, none⟩) es.length cap)
  | nili : R c .nili .nilIface
  | iface (t : TypeId) (v : Vl) (x : Value) (h : R c v x) : R c (.iface t v) (.iface t x)
  | nilf : R c .nilf .nilFunc
  | fn (f : FuncId) (l1 l2 : List Vl) (x1 x2 : Array Value) (e1 : l1.length = x1.size) (e2 : l2.length = x2.size)
      (h1 : ∀ (j : Nat) (v : Vl) (x : Value), l1[j]? = some v → x1[j]? = some x → R c v x) (h2 : ∀ (j : Nat) (v : Vl) (x : Value), l2[j]? = some v → x2[j]? = some x → R c v x) :
      R c (.fn f l1 l2) (.func (.func f) x1 x2)
  | nilm : R c .nilm (.map none)
  | map (p : Pth) (b : Nat) (h : c.bx p = some (b, 0)) : R c (.map p) (.map (some b))
  | agg (cs : List Vl) (xs : Array Value) (e : cs.length = xs.size) (h1 : ∀ v ∈ cs, v.one = true)
      (h : ∀ (j : Nat) (v : Vl) (x : Value), cs[j]? = some v → xs[j]? = some x → R c v x) : R c (.agg cs) (.agg xs)
  | tup (cs : List Vl) (xs : Array Value) (e : cs.length = xs.size)
      (h : ∀ (j : Nat) (v : Vl) (x : Value), cs[j]? = some v → xs[j]? = some x → R c v x) : R c (.tup cs) (.tuple xs)

theorem R.sl_inv {c : Ctx} {tok : Pth} {es : List Vl} {x : Value} (h : R c (.sl tok es) x) :
    ∃ (b o cap sz : Nat) (f : Nat → Nat → Value), x = .slice (some ⟨b, o, none⟩) es.length cap ∧ es.length ≤ cap ∧ (∀ e ∈ es, OkE e ∧ e.cells.length = sz) ∧
      (∀ (i : Nat) (e : Vl) (j : Nat) (v : Vl), es[i]? = some e → e.cells[j]? = some v → c.im b (o + i * sz + j) (f i j)) ∧
      (∀ (i : Nat) (e : Vl) (j : Nat) (v : Vl), es[i]? = some e → e.cells[j]? = some v → R c v (f i j)) ∧
      (tok = [] ∨ c.tl tok = some (b, o + es.length * sz, o + cap * sz)) := by
  cases h with
  | sl tok es b o cap sz f h0 h1 h2 h3 h4 => exact ⟨b, o, cap, sz, f, rfl, h0, h1, h2, h3, h4⟩

structure Ctx.le (c d : Ctx) : Prop where
  bx : ∀ p z, c.bx p = some z → d.bx p = some z
  tl : ∀ p z, c.tl p = some z → d.tl p = some z
  im : ∀ b o x, c.im b o x → d.im b o x

theorem Ctx.le.refl (c : Ctx) : c.le c := ⟨fun _ _ h => h, fun _ _ h => h, fun _ _ _ h => h⟩
theorem Ctx.le.trans {c d e : Ctx} (h : c.le d) (k : d.le e) : c.le e :=
  ⟨fun _ _ x => k.bx _ _ (h.bx _ _ x), fun _ _ x => k.tl _ _ (h.tl _ _ x), fun _ _ _ x => k.im _ _ _ (h.im _ _ _ x)⟩

theorem R.mono {c d : Ctx} (hcd : c.le d) {v : Vl} {x : Value} (h : R c v x) : R d v x := by
  induction h with
  | int k n => exact .int k n
  | bool b => exact .bool b
  | sym k i => exact .sym k i
  | symS i => exact .symS i
  | str s => exact .str s
  | nilp => exact .nilp
  | ptr p off b base h => exact .ptr p off b base (hcd.bx _ _ h)
  | eptr cs off b o f h1 h2 h3 ih => exact .eptr cs off b o f h1 (fun j v hv => hcd.im _ _ _ (h2 j v hv)) ih
  | nils => exact .nils
  | sle b o => exact .sle b o
  | sl tok es b o cap sz f h0 h1 h2 h3 h4 ih =>
    exact .sl tok es b o cap sz f h0 h1 (fun i e j v he hv => hcd.im _ _ _ (h2 i e j v he hv)) ih (h4.imp id (hcd.tl _ _))
  | nili => exact .nili
  | iface t v x h ih => exact .iface t v x ih
  | nilf => exact .nilf
  | fn f l1 l2 x1 x2 e1 e2 h1 h2 ih1 ih2 => exact .fn f l1 l2 x1 x2 e1 e2 ih1 ih2
  | nilm => exact .nilm
  | map p b h => exact .map p b (hcd.bx _ _ h)
  | agg cs xs e h1 h ih => exact .agg cs xs e h1 ih
  | tup cs xs e h ih => exact .tup cs xs e ih

structure Gh where
  bx : Pth → Option (Nat × Nat)
  tl : Pth → Option (Nat × Nat × Nat)
  rs : Nat → Prop

/-- What an object of V's memory owns. -/
def Owns (g : Gh) (p : Pth) (ob : VObj) (b o : Nat) : Prop :=
  match ob with
  | .cells _ cs => ∃ base, g.bx p = some (b, base) ∧ base ≤ o ∧ o < base + cs.length
  | _ => g.bx p = some (b, 0)

/-- Who owns a cell: an object, or a token. -/
def Ow (g : Gh) (m : Mem) (k : Bool × Pth) (b o : Nat) : Prop :=
  match k with
  | (false, p) => ∃ ob, (p, ob) ∈ m.bx ∧ Owns g p ob b o
  | (true, t) => t ∈ m.tk ∧ ∃ lo hi, g.tl t = some (b, lo, hi) ∧ lo ≤ o ∧ o < hi

def Mut (g : Gh) (m : Mem) (b o : Nat) : Prop := (∃ k, Ow g m k b o) ∨ g.rs b

def ctx (g : Gh) (m : Mem) (w : World) : Ctx :=
  ⟨g.bx, g.tl, fun b o x => w.cell? ⟨b, o, none⟩ = some x ∧ ¬ Mut g m b o⟩

theorem cell_lt {w : World} {b o : Nat} {x : Value} (h : w.cell? ⟨b, o, none⟩ = some x) : b < w.heap.size := by
  rcases Nat.lt_or_ge b w.heap.size with hl | hl
  · exact hl
  · simp [World.cell?, Array.getElem?_eq_none hl] at h

structure Ev (g : Gh) (m : Mem) (w : World) (g' : Gh) (m' : Mem) (w' : World) : Prop where
  bx : ∀ p z, g.bx p = some z → g'.bx p = some z
  tl : ∀ p z, g.tl p = some z → g'.tl p = some z
  sz : w.heap.size ≤ w'.heap.size
  mu : ∀ b o, b < w.heap.size → Mut g' m' b o → Mut g m b o
  cell : ∀ b o, b < w.heap.size → ¬ Mut g m b o → w'.cell? ⟨b, o, none⟩ = w.cell? ⟨b, o, none⟩
  rs : ∀ b, (g'.rs b ↔ g.rs b) ∧ (g.rs b → b < w.heap.size → w'.heap[b]? = w.heap[b]?)
  io : w'.os = w.os ∧ w'.output = w.output

theorem Ev.refl (g : Gh) (m : Mem) (w : World) : Ev g m w g m w :=
  ⟨fun _ _ h => h, fun _ _ h => h, Nat.le_refl _, fun _ _ _ h => h, fun _ _ _ _ => rfl, fun _ => ⟨Iff.rfl, fun _ _ => rfl⟩, rfl, rfl⟩

theorem Ev.trans {g g' g'' : Gh} {m m' m'' : Mem} {w w' w'' : World} (h : Ev g m w g' m' w') (k : Ev g' m' w' g'' m'' w'') :
    Ev g m w g'' m'' w'' :=
  ⟨fun _ _ x => k.bx _ _ (h.bx _ _ x), fun _ _ x => k.tl _ _ (h.tl _ _ x), Nat.le_trans h.sz k.sz,
   fun b o hb x => h.mu b o hb (k.mu b o (Nat.lt_of_lt_of_le hb h.sz) x),
   fun b o hb hn => (k.cell b o (Nat.lt_of_lt_of_le hb h.sz) (fun x => hn (h.mu b o hb x))).trans (h.cell b o hb hn),
   fun b => ⟨(k.rs b).1.trans (h.rs b).1, fun hr hb => ((k.rs b).2 ((h.rs b).1.2 hr) (Nat.lt_of_lt_of_le hb h.sz)).trans ((h.rs b).2 hr hb)⟩,
   k.io.1.trans h.io.1, k.io.2.trans h.io.2⟩

theorem Ev.ctx {g g' : Gh} {m m' : Mem} {w w' : World} (h : Ev g m w g' m' w') : (ctx g m w).le (ctx g' m' w') :=
  ⟨h.bx, h.tl, fun b o _ hx => by
    have hb := cell_lt hx.1
    exact ⟨(h.cell b o hb hx.2).trans hx.1, fun hm => hx.2 (h.mu b o hb hm)⟩⟩

theorem Ev.toR {g g' : Gh} {m m' : Mem} {w w' : World} {v : Vl} {x : Value} (h : Ev g m w g' m' w') (hr : R (Ve.ctx g m w) v x) : R (Ve.ctx g' m' w') v x :=
  hr.mono h.ctx

def BoxOk (g : Gh) (m : Mem) (w : World) (p : Pth) : VObj → Prop
  | .cells _ cs => ∃ b base, g.bx p = some (b, base) ∧ b < w.heap.size ∧ (∀ v ∈ cs, v.one = true) ∧
      ∃ f : Nat → Value, ∀ j v, cs[j]? = some v → w.cell? ⟨b, base + j, none⟩ = some (f j) ∧ R (ctx g m w) v (f j) ∧ w.frozen? ⟨b, base + j, none⟩ = false
  | .iter s pos => ∃ b, g.bx p = some (b, 0) ∧ w.heap[b]? = some (.stringIter ⟨s.toArray⟩ pos)
  | .mp => ∃ b, g.bx p = some (b, 0) ∧ w.heap[b]? = some (.map #[] 0)

structure Inv (g : Gh) (m : Mem) (w : World) : Prop where
  box : ∀ p ob, (p, ob) ∈ m.bx → BoxOk g m w p ob
  keys : (m.bx.map (·.1)).Nodup
  toks : m.tk.Nodup
  tok : ∀ t ∈ m.tk, t ≠ [] ∧ ∃ b lo hi, g.tl t = some (b, lo, hi) ∧
    ∀ o, lo ≤ o → o < hi → (∃ x, w.cell? ⟨b, o, none⟩ = some x) ∧ w.frozen? ⟨b, o, none⟩ = false
  dis : ∀ k k' b o, Ow g m k b o → Ow g m k' b o → k = k'
  rs : (∀ k b o, Ow g m k b o → ¬ g.rs b) ∧ ∀ b, g.rs b → b < w.heap.size

def Under (p : Pth) (c : Nat) (id : Pth) : Prop := ∃ (l : Pth) (k : Nat), c ≤ k ∧ id = l ++ (k :: p)

def Fresh (g : Gh) (p : Pth) (c : Nat) : Prop := ∀ id, Under p c id → g.bx id = none ∧ g.tl id = none

/-- g' knows no more than g, but for what lies under the path q. -/
def NewAt (g g' : Gh) (q : Pth) : Prop := ∀ id, (∀ l, id ≠ l ++ q) → g'.bx id = g.bx id ∧ g'.tl id = g.tl id

theorem NewAt.refl (g : Gh) (q : Pth) : NewAt g g q := fun _ _ => ⟨rfl, rfl⟩

theorem NewAt.trans {g g' g'' : Gh} {q : Pth} (h : NewAt g g' q) (k : NewAt g' g'' q) : NewAt g g'' q :=
  fun id hi => ⟨(k id hi).1.trans (h id hi).1, (k id hi).2.trans (h id hi).2⟩

theorem NewAt.up {g g' : Gh} {q : Pth} {k : Nat} (h : NewAt g g' (k :: q)) : NewAt g g' q :=
  fun id hi => h id fun l hl => hi (l ++ [k]) (by simp [hl])

theorem suffix_inj {l l' p : Pth} {k k' : Nat} (h : l ++ (k :: p) = l' ++ (k' :: p)) : k = k' := by
  have h1 : (l ++ [k]) ++ p = (l' ++ [k']) ++ p := by simpa using h
  have h2 := List.append_cancel_right h1
  have h3 := congrArg List.getLast? h2
  simpa using h3

theorem Fresh.next {g g' : Gh} {p : Pth} {c k : Nat} (h : Fresh g p c) (hn : NewAt g g' (k :: p)) : Fresh g' p (max c (k + 1)) := by
  intro id ⟨l, k', hk, hid⟩
  have := hn id (fun l' hl' => by
    have := suffix_inj (hid.symm.trans hl')
    omega)
  rw [this.1, this.2]
  exact h id ⟨l, k', by omega, hid⟩

theorem Fresh.call {g : Gh} {p : Pth} {c k : Nat} (h : Fresh g p c) (hk : c ≤ k) : Fresh g (k :: p) 0 :=
  fun id ⟨l, k', _, hid⟩ => h id ⟨l ++ [k'], k, hk, by simp [hid]⟩

/-- Nothing is known at a path and under it. -/
def FreshAt (g : Gh) (q : Pth) : Prop := ∀ l, g.bx (l ++ q) = none ∧ g.tl (l ++ q) = none

theorem FreshAt.here {g : Gh} {q : Pth} (h : FreshAt g q) : g.bx q = none ∧ g.tl q = none := h []

theorem FreshAt.call {g : Gh} {q : Pth} (h : FreshAt g q) : Fresh g q 0 := fun id ⟨l, k', _, hid⟩ => by
  have := h (l ++ [k'])
  rwa [List.append_assoc, List.singleton_append, ← hid] at this

theorem Fresh.at {g : Gh} {p : Pth} {c k : Nat} (h : Fresh g p c) (hk : c ≤ k) : FreshAt g (k :: p) :=
  fun l => h _ ⟨l, k, hk, rfl⟩

theorem Fresh.le {g : Gh} {p : Pth} {c d : Nat} (h : Fresh g p c) (hd : c ≤ d) : Fresh g p d :=
  fun id ⟨l, k, hk, hid⟩ => h id ⟨l, k, Nat.le_trans hd hk, hid⟩

def Rl (c : Ctx) (vs : List Vl) (xs : Array Value) : Prop :=
  vs.length = xs.size ∧ ∀ (j : Nat) (v : Vl) (x : Value), vs[j]? = some v → xs[j]? = some x → R c v x

theorem Rl.mono {c d : Ctx} (hcd : c.le d) {vs : List Vl} {xs : Array Value} (h : Rl c vs xs) : Rl d vs xs :=
  ⟨h.1, fun j v x hv hx => (h.2 j v x hv hx).mono hcd⟩

theorem Rl.get {c : Ctx} {vs : List Vl} {xs : Array Value} (h : Rl c vs xs) {j : Nat} {v : Vl} (hv : vs[j]? = some v) :
    ∃ x, xs[j]? = some x ∧ R c v x := by
  have hj : j < vs.length := by
    rcases Nat.lt_or_ge j vs.length with hl | hl
    · exact hl
    · simp [List.getElem?_eq_none hl] at hv
  have hj' : j < xs.size := h.1 ▸ hj
  exact ⟨xs[j], by simp [hj'], h.2 j v _ hv (by simp [hj'])⟩

/-- What an activation keeps: its deferred calls, and some slots. -/
structure Kp where
  df : List Deferred
  sl : List Nat
  rf : Nat → Value

def Kp.ok (D : Kp) (a : Act) : Prop := a.defers = D.df ∧ ∀ t ∈ D.sl, a.tmps.getD t undef = D.rf t

theorem Kp.ok.put {D : Kp} {a : Act} (h : D.ok a) {dst : Option Nat} (hd : ∀ t, dst = some t → t ∉ D.sl) (x : Value) : D.ok (a.put dst x) := by
  cases dst with
  | none => exact h
  | some d =>
    refine ⟨h.1, fun t ht => ?_⟩
    have hne : t ≠ d := fun e => hd d rfl (e ▸ ht)
    rw [← h.2 t ht]
    simp only [Act.put, Array.getD_eq_getD_getElem?, Array.getElem?_setIfInBounds]
    rw [if_neg (Ne.symm hne)]

/-- The activation of a V run: its slots. -/
def AR (D : Kp) (c : Ctx) (tm : List Vl) (a : Act) : Prop := Rl c tm a.tmps ∧ D.ok a

theorem undef_R (c : Ctx) : R c undefV undef := .tup [] #[] rfl (by simp)

theorem Rl.set {c : Ctx} {vs : List Vl} {xs : Array Value} (h : Rl c vs xs) {v : Vl} {x : Value} (hv : R c v x) (i : Nat) :
    Rl c (vs.set i v) (xs.setIfInBounds i x) := by
  refine ⟨by simp [h.1], fun j u y hu hy => ?_⟩
  rw [List.getElem?_set] at hu
  rw [Array.getElem?_setIfInBounds] at hy
  by_cases hij : i = j
  · subst hij
    simp only [if_true] at hu hy
    split at hu
    · rename_i hi
      have hi' : i < xs.size := h.1 ▸ hi
      simp only [hi', if_true, Option.some.injEq] at hu hy
      subst hu; subst hy; exact hv
    · cases hu
  · rw [if_neg hij] at hu hy
    exact h.2 j u y hu hy

theorem AR.put {D : Kp} {c : Ctx} {tm : List Vl} {a : Act} (h : AR D c tm a) {v : Vl} {x : Value} (hv : R c v x) (dst : Option Nat) (hd : ∀ t, dst = some t → t ∉ D.sl) :
    AR D c (putV tm dst v) (a.put dst x) := by
  refine ⟨?_, h.2.put hd x⟩
  cases dst with
  | none => exact h.1
  | some d => exact h.1.set hv d

theorem AR.mono {D : Kp} {c d : Ctx} (hcd : c.le d) {tm : List Vl} {a : Act} (h : AR D c tm a) : AR D d tm a := ⟨h.1.mono hcd, h.2⟩

end Go.Ve
end

section
/- The engine, part 3: how V's memory goes on with the world. -/
namespace Go.Ve
variable [Syms]

def isCells : Obj → Bool
  | .cells _ _ _ => true
  | _ => false

/-- A world goes on: nothing vanishes, nothing freezes, what is no cells stays. -/
structure On (w w' : World) : Prop where
  sz : w.heap.size ≤ w'.heap.size
  ex : ∀ b o x, w.cell? ⟨b, o, none⟩ = some x → ∃ y, w'.cell? ⟨b, o, none⟩ = some y
  fz : ∀ b o x, w.cell? ⟨b, o, none⟩ = some x → w'.frozen? ⟨b, o, none⟩ = w.frozen? ⟨b, o, none⟩

def NC (w w' : World) : Prop := ∀ (b : Nat) (x : Obj), w.heap[b]? = some x → isCells x = false → w'.heap[b]? = some x

theorem On.refl (w : World) : On w w := ⟨Nat.le_refl _, fun _ _ x h => ⟨x, h⟩, fun _ _ _ _ => rfl⟩

theorem On.alloc (w : World) (o : Obj) : On w (w.alloc o) :=
  ⟨by simp, fun b i x h => ⟨x, by rw [World.cell?_alloc_lt _ _ _ (cell_lt h)]; exact h⟩,
   fun b i x h => World.frozen?_alloc_old _ _ _ (Nat.ne_of_lt (cell_lt h))⟩

theorem NC.alloc (w : World) (o : Obj) : NC w (w.alloc o) := fun b x h _ => by
  have hb : b < w.heap.size := by
    rcases Nat.lt_or_ge b w.heap.size with hl | hl
    · exact hl
    · simp [Array.getElem?_eq_none hl] at h
  show (w.heap.push o)[b]? = some x
  rw [Array.getElem?_push, if_neg (Nat.ne_of_lt hb)]; exact h

theorem heap_alloc_lt (w : World) (o : Obj) {b : Nat} (hb : b < w.heap.size) : (w.alloc o).heap[b]? = w.heap[b]? := by
  show (w.heap.push o)[b]? = w.heap[b]?
  rw [Array.getElem?_push, if_neg (Nat.ne_of_lt hb)]

theorem heap_setCells_ne {b b' : Nat} (hb : b' ≠ b) : ∀ (vs : List Value) (o : Nat) (w : World), (w.setCells b o vs).heap[b']? = w.heap[b']?
  | [], _, _ => rfl
  | v :: r, o, w => by
    rw [World.setCells, heap_setCells_ne hb r]
    simp only [World.setCell, Array.getElem?_modify]
    rw [if_neg (Ne.symm hb)]

theorem setCells_cell_some (b : Nat) (vs : List Value) (o : Nat) (w : World) (b' o' : Nat) (x : Value) (h : w.cell? ⟨b', o', none⟩ = some x)
    (hc : ∀ j, j < vs.length → (w.cell? ⟨b, o + j, none⟩).isSome = true) : ∃ y, (w.setCells b o vs).cell? ⟨b', o', none⟩ = some y := by
  by_cases hb : b' = b ∧ o ≤ o' ∧ o' < o + vs.length
  · obtain ⟨rfl, h1, h2⟩ := hb
    have := World.cell?_setCells_in b' vs o w hc (o' - o) (by omega)
    rw [show o + (o' - o) = o' by omega] at this
    exact ⟨_, this⟩
  · rw [World.cell?_setCells_out b vs o w _ (fun h1 _ => by simp only at h1 ⊢; omega)]
    exact ⟨x, h⟩

theorem size_setCells (b : Nat) : ∀ (vs : List Value) (o : Nat) (w : World), (w.setCells b o vs).heap.size = w.heap.size
  | [], _, _ => rfl
  | v :: r, o, w => by rw [World.setCells, size_setCells b r, World.size_setCell]

theorem setCells_io (b : Nat) : ∀ (vs : List Value) (o : Nat) (w : World), (w.setCells b o vs).os = w.os ∧ (w.setCells b o vs).output = w.output
  | [], _, _ => ⟨rfl, rfl⟩
  | v :: r, o, w => by rw [World.setCells]; exact setCells_io b r _ _

theorem On.setCells (b : Nat) (vs : List Value) (o : Nat) (w : World) (hc : ∀ j, j < vs.length → (w.cell? ⟨b, o + j, none⟩).isSome = true) :
    On w (w.setCells b o vs) :=
  ⟨Nat.le_of_eq (size_setCells b vs o w).symm, fun b' o' x h => setCells_cell_some b vs o w b' o' x h hc,
   fun _ _ _ _ => World.frozen?_setCells b vs o w _⟩

theorem NC.setCell (w : World) (a : Addr) (v : Value) : NC w (w.setCell a v) := fun b x h hx => by
  simp only [World.setCell, Array.getElem?_modify]
  by_cases hb : a.block = b
  · simp only [hb, if_true, h, Option.map_some]
    cases x <;> first | rfl | simp [isCells] at hx
  · simp [hb, h]

theorem NC.trans {w w' w'' : World} (h : NC w w') (k : NC w' w'') : NC w w'' := fun b x hx hc => k b x (h b x hx hc) hc

theorem NC.setCells (b : Nat) : ∀ (vs : List Value) (o : Nat) (w : World), NC w (w.setCells b o vs)
  | [], _, _ => fun _ _ h _ => h
  | v :: r, o, w => NC.trans (NC.setCell w _ v) (NC.setCells b r (o + 1) _)

theorem BoxOk.keep {g g' : Gh} {m m' : Mem} {w w' : World} {p : Pth} {ob : VObj} (h : BoxOk g m w p ob) (hev : Ev g m w g' m' w') (hon : On w w') (hnc : NC w w')
    (hc : ∀ b o, b < w.heap.size → Owns g p ob b o → w'.cell? ⟨b, o, none⟩ = w.cell? ⟨b, o, none⟩) : BoxOk g' m' w' p ob := by
  cases ob with
  | cells ver cs =>
    obtain ⟨b, base, hb, hlt, h1, f, hf⟩ := h
    refine ⟨b, base, hev.bx _ _ hb, Nat.lt_of_lt_of_le hlt hev.sz, h1, f, fun j v hv => ?_⟩
    obtain ⟨e1, e2, e3⟩ := hf j v hv
    have hj : j < cs.length := by
      rcases Nat.lt_or_ge j cs.length with hl | hl
      · exact hl
      · simp [List.getElem?_eq_none hl] at hv
    refine ⟨(hc b (base + j) hlt ⟨base, hb, by omega, by omega⟩).trans e1, hev.toR e2, (hon.fz _ _ _ e1).trans e3⟩
  | iter s pos =>
    obtain ⟨b, hb, hh⟩ := h
    exact ⟨b, hev.bx _ _ hb, hnc _ _ hh rfl⟩
  | mp =>
    obtain ⟨b, hb, hh⟩ := h
    exact ⟨b, hev.bx _ _ hb, hnc _ _ hh rfl⟩

/-- The same heap, the same outside. -/
def Hp (w' w : World) : Prop := w'.heap = w.heap ∧ w'.os = w.os ∧ w'.output = w.output

/-- The same cells, only a draw more. -/
theorem Inv.heap {g : Gh} {m : Mem} {w w' : World} (h : Inv g m w) (e' : Hp w' w) : Inv g m w' ∧ Ev g m w g m w' := by
  obtain ⟨e, eo, eu⟩ := e'
  have hc : ∀ a, w'.cell? a = w.cell? a := fun a => by simp [World.cell?, e]
  have hz : ∀ a, w'.frozen? a = w.frozen? a := fun a => by simp [World.frozen?, e]
  have hev : Ev g m w g m w' := ⟨fun _ _ h => h, fun _ _ h => h, by rw [e]; exact Nat.le_refl _, fun _ _ _ h => h, fun _ _ _ _ => hc _, fun b => ⟨Iff.rfl, fun _ _ => by rw [e]⟩, eo, eu⟩
  have hon : On w w' := ⟨by rw [e]; exact Nat.le_refl _, fun b o x hx => ⟨x, (hc _).trans hx⟩, fun b o x hx => hz _⟩
  have hnc : NC w w' := fun b x hx _ => by rw [e]; exact hx
  exact ⟨⟨fun p ob hp => (h.box p ob hp).keep hev hon hnc fun _ _ _ _ => hc _, h.keys, h.toks, fun t ht => by
    obtain ⟨h1, b, lo, hi, h2, h3⟩ := h.tok t ht
    exact ⟨h1, b, lo, hi, h2, fun o h4 h5 => by rw [hc, hz]; exact h3 o h4 h5⟩, h.dis, h.rs.1, fun b hb => by rw [e]; exact h.rs.2 b hb⟩, hev⟩

theorem Owns.some {g : Gh} {p : Pth} {ob : VObj} {b o : Nat} (h : Owns g p ob b o) : ∃ base, g.bx p = Option.some (b, base) := by
  cases ob with
  | cells ver cs => obtain ⟨base, hb, _⟩ := h; exact ⟨base, hb⟩
  | iter s pos => exact ⟨0, h⟩
  | mp => exact ⟨0, h⟩

theorem BoxOk.some {g : Gh} {m : Mem} {w : World} {p : Pth} {ob : VObj} (h : BoxOk g m w p ob) : ∃ b base, g.bx p = Option.some (b, base) := by
  cases ob with
  | cells ver cs => obtain ⟨b, base, hb, _⟩ := h; exact ⟨b, base, hb⟩
  | iter s pos => obtain ⟨b, hb, _⟩ := h; exact ⟨b, 0, hb⟩
  | mp => obtain ⟨b, hb, _⟩ := h; exact ⟨b, 0, hb⟩

theorem heap_lt {w : World} {b : Nat} {x : Obj} (h : w.heap[b]? = some x) : b < w.heap.size := by
  rcases Nat.lt_or_ge b w.heap.size with hl | hl
  · exact hl
  · simp [Array.getElem?_eq_none hl] at h

theorem BoxOk.lt {g : Gh} {m : Mem} {w : World} {p : Pth} {ob : VObj} (h : BoxOk g m w p ob) {b base : Nat} (hb : g.bx p = Option.some (b, base)) : b < w.heap.size := by
  cases ob with
  | cells ver cs => obtain ⟨b', base', hb', hl, _⟩ := h; rw [hb'] at hb; simp at hb; exact hb.1 ▸ hl
  | iter s pos => obtain ⟨b', hb', hh⟩ := h; rw [hb'] at hb; simp at hb; exact hb.1 ▸ heap_lt hh
  | mp => obtain ⟨b', hb', hh⟩ := h; rw [hb'] at hb; simp at hb; exact hb.1 ▸ heap_lt hh

theorem Inv.ow_lt {g : Gh} {m : Mem} {w : World} (h : Inv g m w) {k : Bool × Pth} {b o : Nat} (hk : Ow g m k b o) : b < w.heap.size := by
  obtain ⟨s, p⟩ := k
  cases s with
  | false => obtain ⟨ob, hp, ho⟩ := hk; obtain ⟨base, hb⟩ := ho.some; exact (h.box p ob hp).lt hb
  | true =>
    obtain ⟨ht, lo, hi, h1, h2, h3⟩ := hk
    obtain ⟨_, b', lo', hi', h4, h5⟩ := h.tok p ht
    rw [h4] at h1; simp at h1; obtain ⟨rfl, rfl, rfl⟩ := h1
    obtain ⟨⟨x, hx⟩, _⟩ := h5 o h2 h3
    exact cell_lt hx

/-- One block more, which V knows as an object of its own. -/
theorem Inv.alloc {g : Gh} {m : Mem} {w : World} (h : Inv g m w) {id : Pth} (hid : g.bx id = none) (o : Obj) (ob : VObj)
    (hb : ∀ g' m', Ev g m w g' m' (w.alloc o) → g'.bx id = Option.some (w.heap.size, 0) → BoxOk g' m' (w.alloc o) id ob) :
    ∃ g', Ev g m w g' { m with bx := (id, ob) :: m.bx } (w.alloc o) ∧ Inv g' { m with bx := (id, ob) :: m.bx } (w.alloc o) ∧ NewAt g g' id ∧
      g'.bx id = Option.some (w.heap.size, 0) := by
  let g' : Gh := ⟨fun q => if q = id then some (w.heap.size, 0) else g.bx q, g.tl, g.rs⟩
  let m' : Mem := { m with bx := (id, ob) :: m.bx }
  have hg : ∀ q, q ≠ id → g'.bx q = g.bx q := fun q hq => if_neg hq
  have hgi : g'.bx id = Option.some (w.heap.size, 0) := if_pos rfl
  have hne : ∀ p ob, (p, ob) ∈ m.bx → p ≠ id := fun p ob hp e => by
    obtain ⟨b, base, hs⟩ := (h.box p ob hp).some
    rw [e, hid] at hs; cases hs
  have hown : ∀ p ob b i, p ≠ id → (Owns g' p ob b i ↔ Owns g p ob b i) := fun p ob b i hp => by
    cases ob <;> simp [Owns, hg p hp]
  have how : ∀ k b i, Ow g' m' k b i → k = (false, id) ∧ b = w.heap.size ∨ Ow g m k b i := fun k b i hk => by
    obtain ⟨s, p⟩ := k
    cases s with
    | false =>
      obtain ⟨ob', hp, ho⟩ := hk
      rcases List.mem_cons.1 hp with hp | hp
      · left
        obtain ⟨rfl, rfl⟩ := Prod.mk.inj hp
        obtain ⟨base, hs⟩ := ho.some
        rw [hgi] at hs; simp at hs
        exact ⟨rfl, hs.1.symm⟩
      · right; exact ⟨ob', hp, (hown p ob' b i (hne p ob' hp)).1 ho⟩
    | true => right; exact hk
  have hev : Ev g m w g' m' (w.alloc o) := by
    refine ⟨fun p z hp => ?_, fun p z hp => hp, by simp, fun b i hlt hm => ?_, fun b i hlt _ => World.cell?_alloc_lt _ _ _ hlt, fun b => ⟨Iff.rfl, fun _ hlt => heap_alloc_lt _ _ hlt⟩, rfl, rfl⟩
    · have : p ≠ id := fun e => by rw [e, hid] at hp; cases hp
      rw [hg p this]; exact hp
    · rcases hm with ⟨k, hk⟩ | hr
      · rcases how k b i hk with ⟨_, hbs⟩ | hk
        · omega
        · exact .inl ⟨k, hk⟩
      · exact .inr hr
  refine ⟨g', hev, ⟨fun p ob' hp => ?_, ?_, h.toks, fun t ht => ?_, fun k k' b i hk hk' => ?_, fun k b i hk hr => ?_, fun b hr => Nat.lt_of_lt_of_le (h.rs.2 b hr) hev.sz⟩, fun q hq => ⟨hg q (by simpa using hq []), rfl⟩, hgi⟩
  · rcases List.mem_cons.1 hp with hp | hp
    · obtain ⟨rfl, rfl⟩ := Prod.mk.inj hp
      exact hb g' m' hev hgi
    · exact (h.box p ob' hp).keep hev (On.alloc w o) (NC.alloc w o) fun b i hlt _ => World.cell?_alloc_lt _ _ _ hlt
  · simp only [List.map_cons, List.nodup_cons]
    refine ⟨fun hm => ?_, h.keys⟩
    obtain ⟨⟨p, ob'⟩, hp, rfl⟩ := List.mem_map.1 hm
    exact hne p ob' hp rfl
  · obtain ⟨h1, b, lo, hi, h2, h3⟩ := h.tok t ht
    refine ⟨h1, b, lo, hi, h2, fun i h4 h5 => ?_⟩
    obtain ⟨⟨x, hx⟩, hz⟩ := h3 i h4 h5
    have hlt := cell_lt hx
    exact ⟨⟨x, by rw [World.cell?_alloc_lt _ _ _ hlt]; exact hx⟩, by rw [World.frozen?_alloc_old _ _ _ (Nat.ne_of_lt hlt)]; exact hz⟩
  · rcases how k b i hk with ⟨e1, e2⟩ | hk1 <;> rcases how k' b i hk' with ⟨e3, e4⟩ | hk2
    · rw [e1, e3]
    · have := h.ow_lt hk2; omega
    · have := h.ow_lt hk1; omega
    · exact h.dis _ _ _ _ hk1 hk2
  · rcases how k b i hk with ⟨_, e2⟩ | hk
    · exact absurd (h.rs.2 b hr) (by omega)
    · exact h.rs.1 k b i hk hr

/-- Fewer objects, fewer tokens. -/
theorem Inv.sub {g : Gh} {m : Mem} {w : World} (h : Inv g m w) {m' : Mem} (hb : m'.bx.Sublist m.bx) (ht : m'.tk.Sublist m.tk) :
    Inv g m' w ∧ Ev g m w g m' w := by
  have how : ∀ k b i, Ow g m' k b i → Ow g m k b i := fun k b i hk => by
    obtain ⟨s, p⟩ := k
    cases s with
    | false => obtain ⟨ob, hp, ho⟩ := hk; exact ⟨ob, hb.subset hp, ho⟩
    | true => obtain ⟨hp, r⟩ := hk; exact ⟨ht.subset hp, r⟩
  have hev : Ev g m w g m' w := ⟨fun _ _ h => h, fun _ _ h => h, Nat.le_refl _, fun b i _ hm => hm.imp (fun ⟨k, hk⟩ => ⟨k, how k b i hk⟩) id, fun _ _ _ _ => rfl, fun _ => ⟨Iff.rfl, fun _ _ => rfl⟩, rfl, rfl⟩
  exact ⟨⟨fun p ob hp => (h.box p ob (hb.subset hp)).keep hev (On.refl w) (fun _ _ h _ => h) fun _ _ _ _ => rfl,
    (hb.map _).nodup h.keys, ht.nodup h.toks, fun t hm => h.tok t (ht.subset hm), fun k k' b i hk hk' => h.dis _ _ _ _ (how _ _ _ hk) (how _ _ _ hk'), fun k b i hk => h.rs.1 k b i (how _ _ _ hk), h.rs.2⟩, hev⟩

end Go.Ve
end

section
/- The engine, part 4: stores and appends. -/
namespace Go.Ve
variable [Syms]

theorem lookup_mem {p : Pth} {o : VObj} : ∀ {l : List (Pth × VObj)}, lookup p l = some o → (p, o) ∈ l
  | [], h => by cases h
  | (q, x) :: l, h => by
    unfold lookup at h
    split at h
    · rename_i e; cases h; subst e; exact .head _
    · exact .tail _ (lookup_mem h)

theorem update_keys (p : Pth) (o : VObj) : ∀ l : List (Pth × VObj), (update p o l).map (·.1) = l.map (·.1)
  | [] => rfl
  | (q, x) :: l => by
    unfold update
    split
    · rename_i e; simp
    · simp [update_keys p o l]

theorem update_mem {p q : Pth} {o ob : VObj} : ∀ {l : List (Pth × VObj)}, (l.map (·.1)).Nodup → (q, ob) ∈ update p o l →
    (q = p ∧ ob = o ∧ ∃ o', (p, o') ∈ l) ∨ (q ≠ p ∧ (q, ob) ∈ l)
  | [], _, h => by cases h
  | (r, x) :: l, hn, h => by
    simp only [List.map_cons, List.nodup_cons] at hn
    unfold update at h
    split at h
    · rename_i e
      rcases List.mem_cons.1 h with h | h
      · obtain ⟨rfl, rfl⟩ := Prod.mk.inj h
        exact .inl ⟨e.symm, rfl, x, by rw [e]; exact .head _⟩
      · refine .inr ⟨fun e' => hn.1 ?_, .tail _ h⟩
        exact List.mem_map.2 ⟨(q, ob), h, by simp [e', e]⟩
    · rename_i e
      rcases List.mem_cons.1 h with h | h
      · obtain ⟨rfl, rfl⟩ := Prod.mk.inj h
        exact .inr ⟨fun e' => e e'.symm, .head _⟩
      · rcases update_mem hn.2 h with ⟨h1, h2, o', h3⟩ | ⟨h1, h2⟩
        · exact .inl ⟨h1, h2, o', .tail _ h3⟩
        · exact .inr ⟨h1, .tail _ h2⟩

theorem mem_update {p : Pth} {o o' : VObj} : ∀ {l : List (Pth × VObj)}, (p, o') ∈ l → (p, o) ∈ update p o l
  | (r, x) :: l, h => by
    unfold update
    split
    · rename_i e; subst e; exact .head _
    · rename_i e
      rcases List.mem_cons.1 h with h | h
      · obtain ⟨rfl, rfl⟩ := Prod.mk.inj h; exact absurd rfl e
      · exact .tail _ (mem_update h)

theorem mem_update_ne {p q : Pth} {o ob : VObj} (hq : q ≠ p) : ∀ {l : List (Pth × VObj)}, (q, ob) ∈ l → (q, ob) ∈ update p o l
  | (r, x) :: l, h => by
    unfold update
    split
    · rename_i e
      rcases List.mem_cons.1 h with h | h
      · obtain ⟨rfl, rfl⟩ := Prod.mk.inj h; exact absurd e.symm hq
      · exact .tail _ h
    · rcases List.mem_cons.1 h with h | h
      · rw [h]; exact .head _
      · exact .tail _ (mem_update_ne hq h)

theorem lt_of_get {α : Type} {l : List α} {j : Nat} {v : α} (h : l[j]? = some v) : j < l.length := by
  rcases Nat.lt_or_ge j l.length with hl | hl
  · exact hl
  · simp [List.getElem?_eq_none hl] at h

theorem keys_inj {l : List (Pth × VObj)} (hn : (l.map (·.1)).Nodup) {p : Pth} {o o' : VObj} (h : (p, o) ∈ l) (h' : (p, o') ∈ l) : o = o' := by
  induction l with
  | nil => cases h
  | cons x l ih =>
    obtain ⟨q, y⟩ := x
    simp only [List.map_cons, List.nodup_cons] at hn
    rcases List.mem_cons.1 h with h | h <;> rcases List.mem_cons.1 h' with h' | h'
    · exact ((Prod.mk.inj h).2.trans (Prod.mk.inj h').2.symm)
    · exact absurd (List.mem_map.2 ⟨(p, o'), h', (Prod.mk.inj h).1⟩) hn.1
    · exact absurd (List.mem_map.2 ⟨(p, o), h, (Prod.mk.inj h').1⟩) hn.1
    · exact ih hn.2 h h'

/-- Some cells of an object are set. -/
theorem Inv.store {g : Gh} {m : Mem} {w : World} (h : Inv g m w) {p : Pth} {ver off b base : Nat} {cs vs : List Vl} {xs : List Value}
    (hp : (p, .cells ver cs) ∈ m.bx) (hb : g.bx p = some (b, base)) (hl : vs.length = xs.length) (hle : off + vs.length ≤ cs.length)
    (h1 : ∀ v ∈ vs, v.one = true) (hr : ∀ (j : Nat) (v : Vl) (x : Value), vs[j]? = some v → xs[j]? = some x → R (ctx g m w) v x) :
    (∀ j, j < xs.length → (w.cell? ⟨b, base + off + j, none⟩).isSome = true ∧ w.frozen? ⟨b, base + off + j, none⟩ = false) ∧
    Inv g { m with bx := update p (.cells (ver + 1) (cs.take off ++ vs ++ cs.drop (off + vs.length))) m.bx } (w.setCells b (base + off) xs) ∧
    Ev g m w g { m with bx := update p (.cells (ver + 1) (cs.take off ++ vs ++ cs.drop (off + vs.length))) m.bx } (w.setCells b (base + off) xs) := by
  have hbox := h.box p _ hp
  obtain ⟨b', base', hb', hlt, hone, f, hf⟩ := hbox
  rw [hb] at hb'; simp at hb'; obtain ⟨rfl, rfl⟩ := hb'
  have hcell : ∀ j, j < cs.length → w.cell? ⟨b, base + j, none⟩ = some (f j) ∧ w.frozen? ⟨b, base + j, none⟩ = false := fun j hj =>
    ⟨(hf j cs[j] (by simp [hj])).1, (hf j cs[j] (by simp [hj])).2.2⟩
  have hex : ∀ j, j < xs.length → (w.cell? ⟨b, base + off + j, none⟩).isSome = true := fun j hj => by
    have := (hcell (off + j) (by omega)).1
    rw [← Nat.add_assoc] at this
    simp [this]
  refine ⟨fun j hj => ⟨hex j hj, ?_⟩, ?_⟩
  · have := (hcell (off + j) (by omega)).2
    rwa [← Nat.add_assoc] at this
  generalize hcs' : cs.take off ++ vs ++ cs.drop (off + vs.length) = cs'
  have hlen : cs'.length = cs.length := by rw [← hcs']; simp; omega
  generalize hm' : ({ m with bx := update p (.cells (ver + 1) cs') m.bx } : Mem) = m'
  have hbx' : m'.bx = update p (.cells (ver + 1) cs') m.bx := by rw [← hm']
  have htk' : m'.tk = m.tk := by rw [← hm']
  have how : ∀ k b' i, Ow g m' k b' i ↔ Ow g m k b' i := fun k b' i => by
    obtain ⟨s, q⟩ := k
    cases s with
    | false =>
      constructor
      · intro ⟨ob, hq, ho⟩
        rw [hbx'] at hq
        rcases update_mem h.keys hq with ⟨rfl, rfl, _⟩ | ⟨hne, hq⟩
        · refine ⟨_, hp, ?_⟩
          simpa [Owns, hlen] using ho
        · exact ⟨ob, hq, ho⟩
      · intro ⟨ob, hq, ho⟩
        by_cases e : q = p
        · subst e
          have : ob = .cells ver cs := keys_inj h.keys hq hp
          subst this
          refine ⟨.cells (ver + 1) cs', by rw [hbx']; exact mem_update hp, ?_⟩
          simpa [Owns, hlen] using ho
        · exact ⟨ob, by rw [hbx']; exact mem_update_ne e hq, ho⟩
    | true => simp only [Ow, htk']
  have hout : ∀ b' i, ¬ (b' = b ∧ base + off ≤ i ∧ i < base + off + xs.length) → (w.setCells b (base + off) xs).cell? ⟨b', i, none⟩ = w.cell? ⟨b', i, none⟩ :=
    fun b' i hn => World.cell?_setCells_out b xs _ w _ fun e _ => by simp only at e ⊢; omega
  have hin : ∀ i, base + off ≤ i → i < base + off + xs.length → Ow g m (false, p) b i := fun i h2 h3 =>
    ⟨_, hp, base, hb, by omega, by omega⟩
  have hev : Ev g m w g m' (w.setCells b (base + off) xs) :=
    ⟨fun _ _ h => h, fun _ _ h => h, Nat.le_of_eq (size_setCells _ _ _ _).symm, fun b' i _ hm => hm.imp (fun ⟨k, hk⟩ => ⟨k, (how k b' i).1 hk⟩) id,
     fun b' i _ hn => hout b' i fun ⟨e, h2, h3⟩ => hn (.inl ⟨(false, p), e ▸ hin i h2 h3⟩),
     fun b' => ⟨Iff.rfl, fun hr _ => by
      rcases Nat.eq_zero_or_pos xs.length with h0 | h0
      · rw [List.eq_nil_of_length_eq_zero h0]; rfl
      · exact heap_setCells_ne (fun e => h.rs.1 _ _ _ (hin (base + off) (Nat.le_refl _) (by omega)) (by rw [← e]; exact hr)) _ _ _⟩, setCells_io _ _ _ _⟩
  have hon := On.setCells b xs (base + off) w hex
  refine ⟨⟨fun q ob hq => ?_, by rw [hbx', update_keys]; exact h.keys, by rw [htk']; exact h.toks, fun t ht => ?_, fun k k' b' i hk hk' => h.dis k k' b' i ((how _ _ _).1 hk) ((how _ _ _).1 hk'),
    fun k b' i hk => h.rs.1 k b' i ((how _ _ _).1 hk), fun b' hr => by rw [size_setCells]; exact h.rs.2 b' hr⟩, hev⟩
  · rw [hbx'] at hq
    rcases update_mem h.keys hq with ⟨rfl, rfl, _⟩ | ⟨hne, hq⟩
    · refine ⟨b, base, hb, by rw [size_setCells]; exact hlt, fun v hv => ?_, fun j => if off ≤ j ∧ j < off + xs.length then xs.getD (j - off) undef else f j, fun j v hv => ?_⟩
      · rw [← hcs'] at hv
        rcases List.mem_append.1 hv with hv | hv
        · rcases List.mem_append.1 hv with hv | hv
          · exact hone v (List.mem_of_mem_take hv)
          · exact h1 v hv
        · exact hone v (List.mem_of_mem_drop hv)
      · have hj := lt_of_get hv
        have hz : (w.setCells b (base + off) xs).frozen? ⟨b, base + j, none⟩ = false := by
          rw [World.frozen?_setCells]; exact (hcell j (by omega)).2
        by_cases hjo : off ≤ j ∧ j < off + xs.length
        · dsimp only; rw [if_pos hjo]
          have hv' : vs[j - off]? = some v := by
            rw [← hcs'] at hv
            rw [List.getElem?_append_left (by simp; omega), List.getElem?_append_right (by simp; omega)] at hv
            rwa [List.length_take, Nat.min_eq_left (by omega)] at hv
          have hx : xs[j - off]? = some (xs.getD (j - off) undef) := by
            rw [List.getD_eq_getElem?_getD, List.getElem?_eq_getElem (by omega)]; rfl
          refine ⟨?_, hev.toR (hr (j - off) v _ hv' hx), hz⟩
          have := World.cell?_setCells_in b xs (base + off) w hex (j - off) (by omega)
          rw [show base + off + (j - off) = base + j by omega] at this
          rw [this, ← List.getElem?_eq_getElem]; exact hx
        · dsimp only; rw [if_neg hjo]
          have hv' : cs[j]? = some v := by
            rw [← hcs'] at hv
            rcases Nat.lt_or_ge j off with hlt' | hge
            · rw [List.append_assoc, List.getElem?_append_left (by simp; omega), List.getElem?_take_of_lt hlt'] at hv; exact hv
            · rw [List.getElem?_append_right (by simp; omega), List.getElem?_drop] at hv
              rw [show off + vs.length + (j - (List.take off cs ++ vs).length) = j by simp; omega] at hv
              exact hv
          obtain ⟨e1, e2, e3⟩ := hf j v hv'
          exact ⟨(hout b (base + j) fun ⟨_, h2, h3⟩ => hjo (by omega)).trans e1, hev.toR e2, hz⟩
    · refine (h.box q ob hq).keep hev hon (NC.setCells _ _ _ _) fun b' i hlt' ho => hout b' i fun ⟨e, h2, h3⟩ => hne ?_
      subst e
      have := h.dis (false, q) (false, p) b' i ⟨ob, hq, ho⟩ (hin i h2 h3)
      exact (Prod.mk.inj this).2
  · rw [htk'] at ht
    obtain ⟨h2, bb, lo, hi, h3, h4⟩ := h.tok t ht
    refine ⟨h2, bb, lo, hi, h3, fun i h5 h6 => ?_⟩
    obtain ⟨⟨x, hx⟩, hz⟩ := h4 i h5 h6
    exact ⟨hon.ex _ _ x hx, (hon.fz _ _ x hx).trans hz⟩

/-- A block more, whose cells from lo on a new token owns. -/
theorem Inv.newtok {g : Gh} {m : Mem} {w : World} (h : Inv g m w) {id : Pth} (hid : g.tl id = none) (hne : id ≠ []) (arr : Array Value) (t : TypeId) (lo : Nat) :
    ∃ g', Ev g m w g' { m with tk := id :: m.tk } (w.alloc (.cells arr t)) ∧ Inv g' { m with tk := id :: m.tk } (w.alloc (.cells arr t)) ∧ NewAt g g' id ∧
      g'.tl id = some (w.heap.size, lo, arr.size) ∧
      ∀ j x, j < lo → arr[j]? = some x → (ctx g' { m with tk := id :: m.tk } (w.alloc (.cells arr t))).im w.heap.size j x := by
  let g' : Gh := ⟨g.bx, fun q => if q = id then some (w.heap.size, lo, arr.size) else g.tl q, g.rs⟩
  let m' : Mem := { m with tk := id :: m.tk }
  have hg : ∀ q, q ≠ id → g'.tl q = g.tl q := fun q hq => if_neg hq
  have hgi : g'.tl id = some (w.heap.size, lo, arr.size) := if_pos rfl
  have hnm : id ∉ m.tk := fun hm => by
    obtain ⟨_, b, lo', hi', h2, _⟩ := h.tok id hm
    rw [hid] at h2; cases h2
  have how : ∀ k b i, Ow g' m' k b i → (k = (true, id) ∧ b = w.heap.size ∧ lo ≤ i) ∨ Ow g m k b i := fun k b i hk => by
    obtain ⟨s, q⟩ := k
    cases s with
    | false =>
      right
      obtain ⟨ob, hq, ho⟩ := hk
      refine ⟨ob, hq, ?_⟩
      cases ob <;> simpa [Owns] using ho
    | true =>
      obtain ⟨hq, lo', hi', h1, h2, h3⟩ := hk
      rcases List.mem_cons.1 hq with rfl | hq
      · rw [hgi] at h1; simp at h1
        exact .inl ⟨rfl, h1.1.symm, by omega⟩
      · right
        have : q ≠ id := fun e => hnm (e ▸ hq)
        rw [hg q this] at h1
        exact ⟨hq, lo', hi', h1, h2, h3⟩
  have hev : Ev g m w g' m' (w.alloc (.cells arr t)) := by
    refine ⟨fun _ _ hp => hp, fun p z hp => ?_, by simp, fun b i hlt hm => ?_, fun b i hlt _ => World.cell?_alloc_lt _ _ _ hlt, fun b => ⟨Iff.rfl, fun _ hlt => heap_alloc_lt _ _ hlt⟩, rfl, rfl⟩
    · have : p ≠ id := fun e => by rw [e, hid] at hp; cases hp
      rw [hg p this]; exact hp
    · rcases hm with ⟨k, hk⟩ | hr
      · rcases how k b i hk with ⟨_, hb, _⟩ | hk
        · omega
        · exact .inl ⟨k, hk⟩
      · exact .inr hr
  have htk : ∀ q ∈ m'.tk, q ≠ [] ∧ ∃ b lo hi, g'.tl q = some (b, lo, hi) ∧ ∀ o, lo ≤ o → o < hi →
      (∃ x, (w.alloc (.cells arr t)).cell? ⟨b, o, none⟩ = some x) ∧ (w.alloc (.cells arr t)).frozen? ⟨b, o, none⟩ = false := fun q hq => by
    rcases List.mem_cons.1 hq with rfl | hq
    · refine ⟨hne, w.heap.size, lo, arr.size, hgi, fun o _ ho => ⟨⟨arr[o], by rw [World.cell?_alloc_new]; simp [ho]⟩, World.frozen?_alloc_new _ _ _ _⟩⟩
    · obtain ⟨h1, b, lo', hi, h2, h3⟩ := h.tok q hq
      have : q ≠ id := fun e => hnm (e ▸ hq)
      refine ⟨h1, b, lo', hi, by rw [hg q this]; exact h2, fun i h4 h5 => ?_⟩
      obtain ⟨⟨x, hx⟩, hz⟩ := h3 i h4 h5
      have hlt := cell_lt hx
      exact ⟨⟨x, by rw [World.cell?_alloc_lt _ _ _ hlt]; exact hx⟩, by rw [World.frozen?_alloc_old _ _ _ (Nat.ne_of_lt hlt)]; exact hz⟩
  refine ⟨g', hev, ⟨fun p ob hp => (h.box p ob hp).keep hev (On.alloc w _) (NC.alloc w _) fun b i hlt _ => World.cell?_alloc_lt _ _ _ hlt,
    h.keys, List.nodup_cons.2 ⟨hnm, h.toks⟩, htk, fun k k' b i hk hk' => ?_, fun k b i hk hr => ?_, fun b hr => Nat.lt_of_lt_of_le (h.rs.2 b hr) hev.sz⟩, fun q hq => ⟨rfl, hg q (by simpa using hq [])⟩, hgi, fun j x hj hx => ?_⟩
  · rcases how k b i hk with ⟨e1, e2, _⟩ | hk1 <;> rcases how k' b i hk' with ⟨e3, e4, _⟩ | hk2
    · rw [e1, e3]
    · have := h.ow_lt hk2; omega
    · have := h.ow_lt hk1; omega
    · exact h.dis _ _ _ _ hk1 hk2
  · rcases how k b i hk with ⟨_, e2, _⟩ | hk
    · exact absurd (h.rs.2 b hr) (by omega)
    · exact h.rs.1 k b i hk hr
  · refine ⟨by rw [World.cell?_alloc_new]; exact hx, fun hm => ?_⟩
    rcases hm with ⟨k, hk⟩ | hr
    · rcases how k _ j hk with ⟨_, _, hlo⟩ | hk
      · omega
      · exact absurd (h.ow_lt hk) (Nat.lt_irrefl _)
    · exact absurd (h.rs.2 _ hr) (Nat.lt_irrefl _)

/-- Cells of a token's are set, and belong to nobody any more; what is left is a new token's. -/
theorem Inv.intail {g : Gh} {m : Mem} {w : World} (h : Inv g m w) {id tok : Pth} (hid : g.tl id = none) (hne : id ≠ []) (htok : tok ∈ m.tk)
    {b lo hi : Nat} (hb : g.tl tok = some (b, lo, hi)) (xs : List Value) (hle : lo + xs.length ≤ hi) :
    (∀ j, j < xs.length → (w.cell? ⟨b, lo + j, none⟩).isSome = true ∧ w.frozen? ⟨b, lo + j, none⟩ = false) ∧
    ∃ g', Ev g m w g' { m with tk := id :: m.tk.erase tok } (w.setCells b lo xs) ∧ Inv g' { m with tk := id :: m.tk.erase tok } (w.setCells b lo xs) ∧ NewAt g g' id ∧
      g'.tl id = some (b, lo + xs.length, hi) ∧
      ∀ j x, xs[j]? = some x → (ctx g' { m with tk := id :: m.tk.erase tok } (w.setCells b lo xs)).im b (lo + j) x := by
  have hnm : id ∉ m.tk := fun hm => by
    obtain ⟨_, b, lo', hi', h2, _⟩ := h.tok id hm
    rw [hid] at h2; cases h2
  have htne : tok ≠ id := fun e => hnm (e ▸ htok)
  obtain ⟨_, b1, lo1, hi1, h2, h3⟩ := h.tok tok htok
  rw [hb] at h2; simp at h2; obtain ⟨rfl, rfl, rfl⟩ := h2
  have hex : ∀ j, j < xs.length → (w.cell? ⟨b, lo + j, none⟩).isSome = true := fun j hj => by
    obtain ⟨⟨x, hx⟩, _⟩ := h3 (lo + j) (by omega) (by omega)
    simp [hx]
  refine ⟨fun j hj => ⟨hex j hj, (h3 (lo + j) (by omega) (by omega)).2⟩, ?_⟩
  let g' : Gh := ⟨g.bx, fun q => if q = id then some (b, lo + xs.length, hi) else g.tl q, g.rs⟩
  let m' : Mem := { m with tk := id :: m.tk.erase tok }
  have hg : ∀ q, q ≠ id → g'.tl q = g.tl q := fun q hq => if_neg hq
  have hgi : g'.tl id = some (b, lo + xs.length, hi) := if_pos rfl
  have hin : ∀ i, lo ≤ i → i < hi → Ow g m (true, tok) b i := fun i h4 h5 => ⟨htok, lo, hi, hb, h4, h5⟩
  have hmem : ∀ q, q ∈ m.tk.erase tok → q ∈ m.tk ∧ q ≠ tok := fun q hq => by
    have := (List.Nodup.mem_erase_iff h.toks).1 hq
    exact ⟨this.2, this.1⟩
  have how : ∀ k b' i, Ow g' m' k b' i → (k = (true, id) ∧ b' = b ∧ lo + xs.length ≤ i ∧ i < hi) ∨ (Ow g m k b' i ∧ k ≠ (true, tok)) := fun k b' i hk => by
    obtain ⟨s, q⟩ := k
    cases s with
    | false =>
      right
      obtain ⟨ob, hq, ho⟩ := hk
      refine ⟨⟨ob, hq, ?_⟩, by simp⟩
      cases ob <;> simpa [Owns] using ho
    | true =>
      obtain ⟨hq, lo', hi', h1, h2, h3⟩ := hk
      rcases List.mem_cons.1 hq with rfl | hq
      · rw [hgi] at h1; simp at h1
        exact .inl ⟨rfl, h1.1.symm, by omega, by omega⟩
      · right
        obtain ⟨hq1, hq2⟩ := hmem q hq
        have : q ≠ id := fun e => hnm (e ▸ hq1)
        rw [hg q this] at h1
        exact ⟨⟨hq1, lo', hi', h1, h2, h3⟩, by simp [hq2]⟩
  have hout : ∀ b' i, ¬ (b' = b ∧ lo ≤ i ∧ i < lo + xs.length) → (w.setCells b lo xs).cell? ⟨b', i, none⟩ = w.cell? ⟨b', i, none⟩ :=
    fun b' i hn => World.cell?_setCells_out b xs _ w _ fun e _ => by simp only at e ⊢; omega
  have hon := On.setCells b xs lo w hex
  have hev : Ev g m w g' m' (w.setCells b lo xs) := by
    refine ⟨fun _ _ hp => hp, fun p z hp => ?_, Nat.le_of_eq (size_setCells _ _ _ _).symm, fun b' i _ hm => ?_, fun b' i _ hn => hout b' i fun ⟨e, h4, h5⟩ => hn (.inl ⟨(true, tok), e ▸ hin i h4 (by omega)⟩),
      fun b' => ⟨Iff.rfl, fun hr _ => ?_⟩, setCells_io _ _ _ _⟩
    · have : p ≠ id := fun e => by rw [e, hid] at hp; cases hp
      rw [hg p this]; exact hp
    · rcases hm with ⟨k, hk⟩ | hr
      · rcases how k b' i hk with ⟨_, rfl, h4, h5⟩ | ⟨hk, _⟩
        · exact .inl ⟨_, hin i (by omega) h5⟩
        · exact .inl ⟨k, hk⟩
      · exact .inr hr
    · rcases Nat.eq_zero_or_pos xs.length with h0 | h0
      · rw [List.eq_nil_of_length_eq_zero h0]; rfl
      · exact heap_setCells_ne (fun e => h.rs.1 _ _ _ (hin lo (Nat.le_refl _) (by omega)) (by rw [← e]; exact hr)) _ _ _
  refine ⟨g', hev, ⟨fun p ob hp => (h.box p ob hp).keep hev hon (NC.setCells _ _ _ _) fun b' i hlt ho => hout b' i fun ⟨e, h4, h5⟩ => ?_,
    h.keys, List.nodup_cons.2 ⟨fun hm => hnm (hmem id hm).1, h.toks.erase _⟩, fun q hq => ?_, fun k k' b' i hk hk' => ?_, fun k b' i hk hr => ?_, fun b' hr => Nat.lt_of_lt_of_le (h.rs.2 b' hr) hev.sz⟩,
    fun q hq => ⟨rfl, hg q (by simpa using hq [])⟩, hgi, fun j x hx => ?_⟩
  · subst e
    have := h.dis (false, p) (true, tok) b' i ⟨ob, hp, ho⟩ (hin i h4 (by omega))
    simp at this
  · rcases List.mem_cons.1 hq with rfl | hq
    · refine ⟨hne, b, lo + xs.length, hi, hgi, fun o h4 h5 => ?_⟩
      obtain ⟨⟨x, hx⟩, hz⟩ := h3 o (by omega) h5
      exact ⟨hon.ex _ _ x hx, (hon.fz _ _ x hx).trans hz⟩
    · obtain ⟨hq1, hq2⟩ := hmem q hq
      obtain ⟨h4, b', lo', hi', h5, h6⟩ := h.tok q hq1
      have : q ≠ id := fun e => hnm (e ▸ hq1)
      refine ⟨h4, b', lo', hi', by rw [hg q this]; exact h5, fun i h7 h8 => ?_⟩
      obtain ⟨⟨x, hx⟩, hz⟩ := h6 i h7 h8
      exact ⟨hon.ex _ _ x hx, (hon.fz _ _ x hx).trans hz⟩
  · rcases how k b' i hk with ⟨e1, e2, h4, h5⟩ | ⟨hk1, hn1⟩ <;> rcases how k' b' i hk' with ⟨e3, e4, h6, h7⟩ | ⟨hk2, hn2⟩
    · rw [e1, e3]
    · subst e2; exact absurd (h.dis _ _ _ _ hk2 (hin i (by omega) h5)) hn2
    · subst e4; exact absurd (h.dis _ _ _ _ hk1 (hin i (by omega) h7)) hn1
    · exact h.dis _ _ _ _ hk1 hk2
  · rcases how k b' i hk with ⟨_, e2, h4, h5⟩ | ⟨hk, _⟩
    · subst e2; exact h.rs.1 _ _ _ (hin i (by omega) h5) hr
    · exact h.rs.1 k b' i hk hr
  · have hj := lt_of_get hx
    refine ⟨?_, fun hm => ?_⟩
    · rw [World.cell?_setCells_in b xs lo w hex j hj, ← List.getElem?_eq_getElem]; exact hx
    · rcases hm with ⟨k, hk⟩ | hr
      rotate_left
      · exact h.rs.1 _ _ _ (hin (lo + j) (by omega) (by omega)) hr
      rcases how k b (lo + j) hk with ⟨_, _, h4, _⟩ | ⟨hk1, hn1⟩
      · omega
      · exact hn1 (h.dis _ _ _ _ hk1 (hin (lo + j) (by omega) (by omega)))

end Go.Ve
end

section
/- The engine, part 5: the translation of operations, and what is closed about it. -/
namespace Go.Ve
variable [Syms]
variable {D : Kp}

def ofV1 : Value → Option Vl
  | .int k n => some (.int k n)
  | .bool b => some (.bool b)
  | .string s => some (.str s.data.toList)
  | .pointer none => some .nilp
  | .slice none 0 0 => some .nils
  | .map none => some .nilm
  | .nilFunc => some .nilf
  | .nilIface => some .nili
  | _ => none

def ofVs : List Value → Option (List Vl)
  | [] => some []
  | x :: l =>
    match ofV1 x, ofVs l with
    | some v, some vs => some (v :: vs)
    | _, _ => none

def ofV : Value → Option Vl
  | .agg cs =>
    match ofVs cs.toList with
    | some vs => some (.agg vs)
    | none => none
  | x => ofV1 x

theorem ofV1_R {x : Value} {v : Vl} (h : ofV1 x = some v) (c : Ctx) : R c v x ∧ v.one = true := by
  cases x with
  | bool b => cases h; exact ⟨.bool b, rfl⟩
  | int k n => cases h; exact ⟨.int k n, rfl⟩
  | string s =>
    cases h
    refine ⟨?_, rfl⟩
    have := R.str (c := c) s.data.toList
    simpa using this
  | pointer a =>
    cases a with
    | none => cases h; exact ⟨.nilp, rfl⟩
    | some a => cases h
  | slice a l k =>
    unfold ofV1 at h
    split at h <;> simp_all
    subst h
    exact ⟨.nils, rfl⟩
  | map r =>
    cases r with
    | none => cases h; exact ⟨.nilm, rfl⟩
    | some a => cases h
  | nilFunc => cases h; exact ⟨.nilf, rfl⟩
  | nilIface => cases h; exact ⟨.nili, rfl⟩
  | _ => cases h

theorem ofVs_R (c : Ctx) : ∀ {xs : List Value} {vs : List Vl}, ofVs xs = some vs → vs.length = xs.length ∧ (∀ v ∈ vs, v.one = true) ∧
    ∀ (j : Nat) (v : Vl) (x : Value), vs[j]? = some v → xs[j]? = some x → R c v x
  | [], vs, h => by cases h; simp
  | x :: l, vs, h => by
    unfold ofVs at h
    split at h
    · rename_i v vs' h1 h2
      cases h
      obtain ⟨e1, e2, e3⟩ := ofVs_R c h2
      obtain ⟨r1, r2⟩ := ofV1_R h1 c
      refine ⟨by simp [e1], by simp [r2]; exact e2, fun j u y hu hy => ?_⟩
      cases j with
      | zero => simp at hu hy; subst hu; subst hy; exact r1
      | succ j => exact e3 j u y (by simpa using hu) (by simpa using hy)
    · cases h

theorem one_OkE {v : Vl} (h : v.one = true) : OkE v := by
  cases v <;> simp_all [Vl.one, OkE, Vl.isTup, Vl.cells]

theorem ofV_R {x : Value} {v : Vl} (h : ofV x = some v) (c : Ctx) : R c v x ∧ OkE v := by
  unfold ofV at h
  split at h
  · rename_i cs
    split at h
    · rename_i vs h1
      cases h
      obtain ⟨e1, e2, e3⟩ := ofVs_R c h1
      exact ⟨.agg vs cs (by simpa using e1) e2 fun j v x hv hx => e3 j v x hv (by simpa using hx), rfl, e2⟩
    · cases h
  · obtain ⟨r1, r2⟩ := ofV1_R h c
    exact ⟨r1, one_OkE r2⟩

def co : Operand → Option VOpd
  | .tmp t => some (.t t)
  | .const v =>
    match ofV v with
    | some v => some (.c v)
    | none => none
  | .func f => some (.f f)
  | .global _ => none

theorem opd_R {c : Ctx} {tm : List Vl} {a : Act} (ha : AR D c tm a) {x : Operand} {y : VOpd} (h : co x = some y) : R c (opd tm y) (a.eval x) := by
  cases x with
  | tmp t =>
    cases h
    simp only [opd, Act.eval, List.getD_eq_getElem?_getD, Array.getD_eq_getD_getElem?]
    rcases Nat.lt_or_ge t tm.length with hl | hl
    · obtain ⟨x, hx, hr⟩ := ha.1.get (j := t) (v := tm[t]) (by simp [hl])
      simp [hl, hx]; exact hr
    · have : a.tmps.size ≤ t := ha.1.1 ▸ hl
      simp [hl, this]; exact undef_R c
  | const v =>
    simp only [co] at h
    cases hu : ofV v with
    | none => simp [hu] at h
    | some u => simp [hu] at h; subst h; exact (ofV_R hu c).1
  | func f =>
    cases h
    exact .fn f [] [] #[] #[] rfl rfl (by simp) (by simp)
  | global g => cases h

def cos : List Operand → Option (List VOpd)
  | [] => some []
  | x :: l =>
    match co x, cos l with
    | some y, some ys => some (y :: ys)
    | _, _ => none

theorem opds_R {c : Ctx} {tm : List Vl} {a : Act} (ha : AR D c tm a) : ∀ {xs : List Operand} {ys : List VOpd}, cos xs = some ys →
    Rl c (ys.map (opd tm)) (xs.map a.eval).toArray
  | [], ys, h => by cases h; exact ⟨rfl, by simp⟩
  | x :: l, ys, h => by
    unfold cos at h
    split at h
    · rename_i y ys' h1 h2
      cases h
      obtain ⟨e1, e2⟩ := opds_R ha h2
      refine ⟨by simpa using e1, fun j u z hu hz => ?_⟩
      cases j with
      | zero => simp at hu hz; subst hu; subst hz; exact opd_R ha h1
      | succ j => exact e2 j u z (by simpa using hu) (by simpa using hz)
    · cases h

/-- The parts of a struct that is built: where each lies, how many cells it has. -/
def partsS (plc : Nat → Option (Nat × Nat)) : List (Nat × Operand) → Option (List (Nat × Nat × VOpd))
  | [] => some []
  | (i, x) :: l =>
    match plc i, co x, partsS plc l with
    | some f, some y, some ys => some ((f.1, f.2, y) :: ys)
    | _, _, _ => none

def partsL : List (Nat × Operand) → Option (List (Nat × VOpd))
  | [] => some []
  | (i, x) :: l =>
    match co x, partsL l with
    | some y, some ys => some ((i, y) :: ys)
    | _, _ => none

def zeroP (P : Program) (t : TypeId) : Option Vl :=
  match P.info? t with
  | some i =>
    match i.zero with
    | some z => ofV z
    | none => none
  | none => none

def aggP (P : Program) (t : TypeId) : Option Bool :=
  match P.info? t, P.underlying t with
  | some _, some (.struct _) => some true
  | some _, some (.array _ _) => some true
  | some _, some _ => some false
  | _, _ => none

def nilKind : TypeDesc → Operand → Option Nat
  | .interface _, .const .nilIface => some 0
  | .pointer _, .const (.pointer none) => some 1
  | .slice _, .const (.slice none 0 0) => some 2
  | .map _ _, .const (.map none) => some 3
  | .func _ _ _, .const .nilFunc => some 4
  | _, _ => none

def coO : Option Operand → Option (Option VOpd)
  | none => some none
  | some x =>
    match co x with
    | some y => some (some y)
    | none => none

/-- Which binary operations are taken. -/
def cbin (P : Program) (op : BinOp) (t : TypeId) (x y : Operand) : Option VOp :=
  match P.underlying t, co x, co y with
  | some (.int _), some a, some b => some (.bin op a b)
  | some .string, some a, some b => some (.bin op a b)
  | some .bool, some a, some b =>
    match op with
    | .eql => some (.eqb false a b)
    | .neq => some (.eqb true a b)
    | _ => none
  | some d, some a, some _ =>
    match nilKind d y with
    | some kd =>
      match op with
      | .eql => some (.eqi false kd a)
      | .neq => some (.eqi true kd a)
      | _ => none
    | none => none
  | _, _, _ => none

def cconv (P : Program) (s d : TypeId) (x : Operand) : Option VOp :=
  match P.underlying s, P.underlying d, co x with
  | some (.int _), some (.int k), some y => some (.convI k y)
  | some .string, some .string, some y => some (.convS y)
  | _, _, _ => none

def ccall (P : Program) (meth : String → List (TypeId × FuncId)) (c : Call) : Option VOp :=
  match cos c.args.toList with
  | none => none
  | some args =>
    match c.callee with
    | .value (.func f) => some (.callF f args)
    | .value x =>
      match co x with
      | some y => some (.callV y args)
      | none => none
    | .invoke x name =>
      match co x with
      | some y => some (.invoke y (meth name) args)
      | none => none
    | .builtin .len =>
      match c.argTypes.toList, args with
      | [t], [y] =>
        match P.underlying t with
        | some .string => some (.len true y)
        | some (.slice _) => some (.len false y)
        | _ => none
      | _, _ => none
    | .builtin .append =>
      match c.argTypes.toList, args with
      | [t, u], [x, y] =>
        match P.underlying t, P.underlying u with
        | some (.slice e), some (.slice _) =>
          match P.info? e, zeroP P e with
          | some i, some z => if i.size = 0 ∨ z.cells.length ≠ i.size then none else some (.app i.size i.bytes x y)
          | _, _ => none
        | _, _ => none
      | _, _ => none
    | .builtin .max =>
      match args with
      | [x, y] => some (.mxn true x y)
      | _ => none
    | .builtin .min =>
      match args with
      | [x, y] => some (.mxn false x y)
      | _ => none
    | .builtin _ => none

def cop (P : Program) (meth : String → List (TypeId × FuncId)) (op : Op) : Option VOp :=
  match op with
  | .move x =>
    match co x with
    | some y => some (.mv y)
    | none => none
  | .assign x =>
    match co x with
    | some y => some (.mv y)
    | none => none
  | .pick c a b =>
    match co c, co a, co b with
    | some c, some a, some b => some (.pick c a b)
    | _, _, _ => none
  | .alloc t =>
    match zeroP P t with
    | some z => some (.alloc z.cells)
    | none => none
  | .box _ x =>
    match co x with
    | some y => some (.box y)
    | none => none
  | .build t parts =>
    match P.underlying t, zeroP P t with
    | some (.struct fs), some z =>
      if fs.all (fun f => (P.info? f.type).isSome) then
        match partsS ((fs.map fun f => (f.offset, P.cellsOf f.type))[·]?) parts.toList with
        | some ps => some (.build z.cells ps)
        | none => none
      else none
    | some (.array _ e), some z =>
      match P.info? e with
      | some _ =>
        match partsS (fun i => some (i * P.cellsOf e, P.cellsOf e)) parts.toList with
        | some ps => some (.build z.cells ps)
        | none => none
      | none => none
    | _, _ => none
  | .buildSlice t n parts =>
    match P.underlying t with
    | some (.slice e) =>
      match P.info? e, zeroP P e, partsL parts.toList with
      | some i, some z, some ps =>
        if i.size = z.cells.length ∧ n * i.size ≤ 2 ^ 24 ∧ 0 < i.size ∧ ps.all (fun p => decide (p.1 < n)) then some (.bslice z n ps) else none
      | _, _, _ => none
    | _ => none
  | .load t x =>
    match aggP P t, co x with
    | some a, some y => some (.load a (P.cellsOf t) y)
    | _, _ => none
  | .store t a x =>
    match P.info? t, co a, co x with
    | some i, some y, some z => some (.store i.size y z)
    | _, _, _ => none
  | .nilCheck x =>
    match co x with
    | some y => some (.nilck y)
    | none => none
  | .binOp op t x y _ => cbin P op t x y
  | .unOp op _ x =>
    match co x with
    | some y => some (.un op y)
    | none => none
  | .convert s d x => cconv P s d x
  | .makeInterface t x =>
    match P.underlying t, co x with
    | some (.interface _), _ => none
    | some _, some y => some (.mkI t y)
    | _, _ => none
  | .makeFunc (.func f) first captured =>
    match cos first.toList, cos captured.toList with
    | some xs, some ys => some (.mkF f xs ys)
    | _, _ => none
  | .makeMap _ none => some .mkM
  | .slice t x lo hi none =>
    match P.underlying t, co x, coO lo, coO hi with
    | some .string, some y, some l, some h => some (.slcStr y l h)
    | some (.slice e), some y, some l, some h =>
      match P.info? e with
      | some i => some (.slcSl i.size y l h)
      | none => none
    | _, _, _, _ => none
  | .slice t x none (some hi) (some mx) =>
    match P.underlying t, co x, co hi, co mx with
    | some (.slice e), some y, some h, some n =>
      match P.info? e with
      | some _ => some (.clip y h n)
      | none => none
    | _, _, _, _ => none
  | .fieldAddr s x f =>
    match P.underlying s, co x with
    | some (.struct fs), some y =>
      match fs[f]? with
      | some fd =>
        match P.info? fd.type with
        | some i => if i.size = 0 then none else some (.fieldAddr fd.offset y)
        | none => none
      | none => none
    | _, _ => none
  | .field s x f =>
    match P.underlying s, co x with
    | some (.struct fs), some y =>
      match fs[f]? with
      | some fd =>
        match aggP P fd.type with
        | some a => some (.field a fd.offset (P.cellsOf fd.type) y)
        | none => none
      | none => none
    | _, _ => none
  | .indexAddr t x i =>
    match P.underlying t, co x, co i with
    | some (.slice e), some y, some j =>
      match P.info? e with
      | some ie => some (.idxSl ie.size y j)
      | none => none
    | some (.array n e), some y, some j =>
      match P.info? e with
      | some ie => if ie.size = 0 then none else some (.idxArr n ie.size y j)
      | none => none
    | _, _, _ => none
  | .index t x i =>
    match P.underlying t, co x, co i with
    | some .string, some y, some j => some (.idxStr y j)
    | some (.array n e), some y, some j =>
      match P.info? e, aggP P e with
      | some ie, some a => some (.idxVal a n ie.size y j)
      | _, _ => none
    | _, _, _ => none
  | .typeAssert x _ t ok =>
    match P.underlying t, zeroP P t, co x with
    | some (.interface _), _, _ => none
    | some _, some z, some y => some (.tas t z ok y)
    | _, _, _ => none
  | .extract x i =>
    match co x with
    | some y => some (.extract y i)
    | none => none
  | .call c => ccall P meth c
  | .panic x =>
    match co x with
    | some y => some (.panic y)
    | none => none
  | .range t x =>
    match P.underlying t, co x with
    | some .string, some y => some (.rng y)
    | _, _ => none
  | .next x true =>
    match co x with
    | some y => some (.nxt y)
    | none => none
  | _ => none

/-- What V can't do it doesn't do. -/
def copN (P : Program) (meth : String → List (TypeId × FuncId)) (op : Op) : Option VOp :=
  match cop P meth op with
  | some v => some v
  | none => some .no

/-- The operations of a region that goes in the text's order. -/
def copsV (P : Program) (meth : String → List (TypeId × FuncId)) (all : Array Oper) : Nat → List Oper → Option (List VOper)
  | _, [] => some []
  | i, o :: l =>
    match copN P meth o.op, copsV P meth all (i + 1) l with
    | some v, some vs =>
      match o.guard with
      | none => some (⟨i, o.dst, v, none⟩ :: vs)
      | some (j, b) =>
        match all[j]? with
        | some oj =>
          match oj.dst with
          | some s => some (⟨i, o.dst, v, some (s, b)⟩ :: vs)
          | none => none
        | none => none
    | _, _ => none

/-- What a phase of a region that draws is made of, by the operations' numbers. -/
structure TlI where
  a : Nat
  i : Nat
  s : Nat
  f : Option Nat
  w : Nat
  deriving Inhabited

structure PhI where
  fl : List Nat
  ck : List Nat
  ad : List Nat
  eff : Option Nat
  must : List Nat
  tl : Option TlI
  deriving Inhabited

def PhI.goes (ph : PhI) : Option Nat :=
  match ph.eff with
  | some e => some e
  | none =>
    match ph.tl with
    | some t => some t.a
    | none => none

def TlI.c2 (t : TlI) : List Nat :=
  match t.f with
  | some j => [j, t.w]
  | none => [t.w]

def TlI.all (t : TlI) : List Nat := t.a :: ([t.i, t.s] ++ t.c2)

abbrev Hint := Nat → List PhI × List (List Nat)

def aftersOf (o : Oper) : List Nat := (o.after.toList.filter (Region.binds .any)).map (·.on)

def VOpd.slot : VOpd → List Nat
  | .t i => [i]
  | _ => []

def slotO : Option VOpd → List VOpd
  | some x => [x]
  | none => []

def VOp.opds : VOp → List VOpd
  | .mv x | .box x | .load _ _ x | .nilck x | .eqi _ _ x | .un _ x | .convI _ x | .convS x | .mkI _ x | .fieldAddr _ x | .field _ _ _ x | .tas _ _ _ x | .extract x _ | .len _ x | .panic x
  | .rng x | .nxt x => [x]
  | .pick c a b => [c, a, b]
  | .clip x h n => [x, h, n]
  | .alloc _ | .mkM | .no => []
  | .build _ ps => ps.map (·.2.2)
  | .bslice _ _ ps => ps.map (·.2)
  | .store _ a x => [a, x]
  | .bin _ x y | .eqb _ x y | .idxSl _ x y | .idxArr _ _ x y | .idxStr x y | .idxVal _ _ _ x y | .app _ _ x y | .mxn _ x y => [x, y]
  | .mkF _ xs ys => xs ++ ys
  | .slcStr x l h | .slcSl _ x l h => x :: (slotO l ++ slotO h)
  | .callF _ xs => xs
  | .callV x xs | .invoke x _ xs => x :: xs

def VOper.slots (o : VOper) : List Nat :=
  (match o.guard with
   | some (s, _) => [s]
   | none => []) ++ o.op.opds.flatMap VOpd.slot

def nodupB : List Nat → Bool
  | [] => true
  | x :: l => !l.elem x && nodupB l

/-- Each slot that an operation looks at is set by what goes before it; no slot is set twice. -/
def statD (aft : Nat → List Nat) (vs : List VOper) : Bool :=
  nodupB (vs.filterMap (·.dst)) && vs.all fun o => o.slots.all fun t => vs.all fun o' => o'.dst != some t || (aft o.idx).elem o'.idx

def okFl (aft : Nat → List Nat) (n : Nat) : List Nat → List Nat → Bool
  | _, [] => true
  | can, i :: l => decide (i < n) && !can.elem i && (aft i).all (fun x => can.elem x) && okFl aft n (i :: can) l

def clOk (aft : Nat → List Nat) : List Nat → List Nat → Bool
  | _, [] => true
  | seen, x :: l => (seen.any fun y => (aft y).elem x) && clOk aft (x :: seen) l

def okTl (n : Nat) (aft : Nat → List Nat) (can must : List Nat) (t : TlI) : Bool :=
  (List.range n).all (fun i => can.elem i || t.all.elem i) && t.all.all (fun i => decide (i < n) && !can.elem i) && nodupB t.all &&
  (aft t.a).all (fun x => can.elem x) && can.all (fun i => must.elem i || (aft t.a).elem i) &&
  (aft t.i).elem t.a && (aft t.i).all (fun x => can.elem x || x == t.a) &&
  (aft t.s).elem t.i && (aft t.s).all (fun x => can.elem x || x == t.a || x == t.i) &&
  match t.f with
  | none => (aft t.w).elem t.a && (aft t.w).all (fun x => can.elem x || x == t.a)
  | some j => (aft j).elem t.a && (aft j).all (fun x => can.elem x || x == t.a) && (aft t.w).elem j && (aft t.w).all (fun x => can.elem x || x == t.a || x == j)

def okPost (n : Nat) (aft : Nat → List Nat) (next : List Nat → List Nat → List Nat → Bool) (can must adq : List Nat) (ph : PhI) : Bool :=
  (List.range n).all (fun i => can.elem i || ph.goes == some i || (aft i).any fun x => !can.elem x) &&
  can.all (fun i => must.elem i || ph.ck.elem i) &&
  ph.ad.all (fun i => !adq.elem i && decide (i < n)) && nodupB ph.ad &&
  match ph.eff with
  | none =>
    match ph.tl with
    | none => (List.range n).all fun i => can.elem i
    | some t => okTl n aft can must t && ph.ad.all (fun i => can.elem i)
  | some e => decide (e < n) && !can.elem e && (aft e).all (fun x => can.elem x) && clOk aft [e] ph.must && ph.ad.all (fun i => (ph.must ++ must).elem i) &&
      next (e :: can) (e :: (ph.must ++ must)) (e :: (ph.ad ++ adq))

def okD (n : Nat) (aft : Nat → List Nat) : List Nat → List Nat → List Nat → List PhI → Bool
  | _, _, _, [] => false
  | can, must, adq, ph :: rest => okFl aft n can ph.fl && okPost n aft (fun c m q => okD n aft c m q rest) (ph.fl.reverse ++ can) must adq ph

/-- What the end of a region is made of: an append, the place of the new element, its store, the place of the slice, its store. -/
def ctail (P : Program) (ops : List Oper) (t : TlI) : Option VTl :=
  match ops[t.a]?, ops[t.i]?, ops[t.s]?, ops[t.w]? with
  | some oa, some oi, some os, some ow =>
    match oa.op, oi.op, os.op, ow.op, oa.dst, oi.dst with
    | .call c, .indexAddr ti (.tmp da1) ix, .store se (.tmp di1) ex, .store sw pw (.tmp da2), some da, some di =>
      match c.callee, c.argTypes.toList, c.args.toList with
      | .builtin .append, [st, xt], [x, y] =>
        match P.underlying st, P.underlying xt, P.underlying ti, co x, co y, co ix, co ex with
        | some (.slice e), some (.slice _), some (.slice e2), some x', some y', some n', some e' =>
          match P.info? e, zeroP P e, P.info? se, P.info? sw with
          | some ie, some z, some is, some iw =>
            if oa.guard.isNone ∧ oi.guard.isNone ∧ os.guard.isNone ∧ ow.guard.isNone ∧ da1 = da ∧ di1 = di ∧ da2 = da ∧ os.dst = none ∧ ow.dst = none ∧ e2 = e ∧ ie.size ≠ 0 ∧ z.cells.length = ie.size ∧ is.size = ie.size ∧ iw.size = 1 ∧ da ≠ di ∧
                [x', y', n', e'].all (fun o => !o.slot.elem da && !o.slot.elem di) then
              match t.f with
              | none =>
                match co pw with
                | some pt => if !pt.slot.elem da && !pt.slot.elem di then some ⟨ie.size, ie.bytes, t.a, da, x', y', n', di, e', none, pt⟩ else none
                | none => none
              | some j =>
                match ops[j]? with
                | some oj =>
                  match oj.op, oj.dst, pw with
                  | .fieldAddr fs px fi, some df, .tmp df1 =>
                    match P.underlying fs, co px with
                    | some (.struct fds), some pt =>
                      match fds[fi]? with
                      | some fd =>
                        match P.info? fd.type with
                        | some fin =>
                          if fin.size ≠ 0 ∧ oj.guard.isNone ∧ df1 = df ∧ df ≠ da ∧ df ≠ di ∧ [x', y', n', e', pt].all (fun o => !o.slot.elem da && !o.slot.elem di && !o.slot.elem df) then
                            some ⟨ie.size, ie.bytes, t.a, da, x', y', n', di, e', some (fd.offset, df), pt⟩
                          else none
                        | none => none
                      | none => none
                    | _, _ => none
                  | _, _, _ => none
                | none => none
            else none
          | _, _, _, _ => none
        | _, _, _, _, _, _, _ => none
      | _, _, _ => none
    | _, _, _, _, _, _ => none
  | _, _, _, _ => none

def toPh (P : Program) (ops : List Oper) (vs : List VOper) (ph : PhI) : VPh :=
  ⟨ph.fl.filterMap (vs[·]?), ph.ck.filterMap (vs[·]?), ph.ad.filterMap (vs[·]?), ph.eff.bind (vs[·]?), ph.tl.bind (ctail P ops)⟩

/-- The end of a region is known. -/
def tlOk (P : Program) (ops : List Oper) (ph : PhI) : Bool :=
  match ph.tl with
  | none => true
  | some t => (ctail P ops t).isSome

/-- What a region's operations are to V; those at the region's end are not looked at. -/
def compD (P : Program) (n : Nat) (ops : List Oper) (vs : List VOper) (phs : List PhI) (A : List (List Nat)) : Option VC :=
  if (ops.map aftersOf == A) && statD (fun i => A.getD i []) vs && okD n (fun i => A.getD i []) [] [] [] phs && phs.all (tlOk P ops) then some (.draw n (phs.map (toPh P ops vs))) else none

def comp (P : Program) (meth : String → List (TypeId × FuncId)) (H : Hint) : Code → Option VC
  | .skip => some .skip
  | .label _ => some .skip
  | .region id ops draw =>
    match copsV P meth ops 0 ops.toList with
    | some vs =>
      if draw then
        match compD P ops.size ops.toList vs (H id).1 (H id).2 with
        | some c => some c
        | none => some .no
      else some (.region ops.size vs)
    | none => some .no
  | .seq a b =>
    match comp P meth H a, comp P meth H b with
    | some x, some y => some (.seq x y)
    | _, _ => none
  | .cond c a b =>
    match co c, comp P meth H a, comp P meth H b with
    | some z, some x, some y => some (.cond z x y)
    | _, _, _ => none
  | .block id b =>
    match comp P meth H b with
    | some x => some (.block id x)
    | none => none
  | .loop b =>
    match comp P meth H b with
    | some x => some (.loop x)
    | none => none
  | .scope b => comp P meth H b
  | .exit id => some (.exit id)
  | .ret => some .ret
  | _ => some .no

end Go.Ve
end

section
/- The engine, part 6: each operation does what V says: moves, memory. -/
namespace Go.Ve
variable [Syms]
variable {D : Kp}
variable {P : Program} {call : CallFn} {meth : String → List (TypeId × FuncId)}

def RtT (P : Program) (t : TypeId) : Prop :=
  t = P.rt.boundsError ∨ t = P.rt.errorString ∨ t = P.rt.plainError ∨ t = P.rt.typeAssertionError

def RP (P : Program) (c : Ctx) : PV → List PanicEntry → Prop
  | .u v, ch => ∃ t x, ch = [{ v := .iface t x, recovered := false }] ∧ R c v (.iface t x)
  | .rt, ch => ∃ t x, ch = [{ v := .iface t x, recovered := false }] ∧ RtT P t

def RE (P : Program) (c : Ctx) : CR → Ending → Prop
  | .ret v, .returned x => R c v x
  | .pan pv, .panicked ch => RP P c pv ch
  | _, _ => False

/-- What a call of V says is so. -/
def CallOk (P : Program) (call : CallFn) : Prop :=
  ∀ f vs p m r m', call f vs p m = some (r, m') →
    (∃ fn, P.funcs[f]? = some fn ∧ fn.body.isNone = false ∧ (fn.name == "runtime.NumGoroutine") = false) ∧
    ∀ g w xs, Inv g m w → Fresh g p 0 → Rl (ctx g m w) vs xs →
      Calls P f xs w fun e w' => ∃ g', Ev g m w g' m' w' ∧ Inv g' m' w' ∧ NewAt g g' p ∧ RE P (ctx g' m' w') r e

def MethOk (P : Program) (meth : String → List (TypeId × FuncId)) : Prop :=
  ∀ name t f, findT t (meth name) = some f → ∀ x w, (method (P.types.size + Made.depth) t x name).run P w = .ok (f, x) w

def OpOk (P : Program) (o : Oper) (a : Act) (g : Gh) (m : Mem) (w : World) (q : Pth) (r : OR) : Prop :=
  ∀ (K : Act → World → Prop) (Q : Exit → Act → World → Prop),
    (∀ v m' g' w' x, r = .ok v m' → Ev g m w g' m' w' → Inv g' m' w' → NewAt g g' q → R (ctx g' m' w') v x → K (a.put o.dst x) w') →
    (∀ pv m' g' w' ch, r = .pan pv m' → Ev g m w g' m' w' → Inv g' m' w' → NewAt g g' q → RP P (ctx g' m' w') pv ch → Q (.panic ch) a w') →
    o.wp P a w K Q

section
variable {o : Oper} {a : Act} {g g' : Gh} {m m' : Mem} {w w' : World} {q : Pth} {r : OR}

theorem OpOk.val {x : Value} {v : Vl} (h : (execOp a.eval o).run P w = .ok (.value x) w') (hr : r = .ok v m') (he : Ev g m w g' m' w') (hi : Inv g' m' w')
    (hn : NewAt g g' q) (hx : R (ctx g' m' w') v x) : OpOk P o a g m w q r := fun K Q hok _ => by
  unfold Oper.wp; rw [h]
  exact hok v m' g' w' x hr he hi hn hx

theorem OpOk.skp {v : Vl} (h : (execOp a.eval o).run P w = .ok .skip w') (hr : r = .ok v m') (he : Ev g m w g' m' w') (hi : Inv g' m' w')
    (hn : NewAt g g' q) (hx : R (ctx g' m' w') v undef) : OpOk P o a g m w q r := fun K Q hok _ => by
  unfold Oper.wp; rw [h]
  exact hok v m' g' w' undef hr he hi hn hx

theorem OpOk.pure {x : Value} {v : Vl} (hi : Inv g m w) (h : (execOp a.eval o).run P w = .ok (.value x) w) (hr : r = .ok v m)
    (hx : R (ctx g m w) v x) : OpOk P o a g m w q r := .val h hr (Ev.refl _ _ _) hi (NewAt.refl _ _) hx

theorem OpOk.rtp {t : TypeId} {x : Value} (hi : Inv g m w) (h : (execOp a.eval o).run P w = .halt (.panic (.iface t x)) w') (hr : r = .pan .rt m)
    (hw : Hp w' w) (ht : RtT P t) : OpOk P o a g m w q r := fun K Q _ hpan => by
  unfold Oper.wp; rw [h]
  obtain ⟨h1, h2⟩ := hi.heap hw
  exact hpan .rt m g w' _ hr h2 h1 (NewAt.refl _ _) ⟨t, x, rfl, ht⟩

/-- A call. -/
theorem OpOk.ent {f : FuncId} {xs : Array Value} {vs : List Vl} (hc : CallOk P call) (hi : Inv g m w) (hf : Fresh g q 0)
    (h : ∀ fn, P.funcs[f]? = some fn → fn.body.isNone = false → (fn.name == "runtime.NumGoroutine") = false → (execOp a.eval o).run P w = .ok (.enter f xs) w)
    (hr : cut (call f vs q m) = some r) (hl : Rl (ctx g m w) vs xs) : OpOk P o a g m w q r := fun K Q hok hpan => by
  cases hcl : call f vs q m with
  | none => rw [hcl] at hr; cases hr
  | some z =>
    obtain ⟨cr, m'⟩ := z
    obtain ⟨⟨fn, h1, h2, h3⟩, h4⟩ := hc f vs q m cr m' hcl
    unfold Oper.wp; rw [h fn h1 h2 h3]
    simp only [Oper.upon]
    refine (h4 g w xs hi hf hl).mono fun e w' ⟨g', h5, h6, h7, h8⟩ => ?_
    rw [hcl] at hr
    cases cr with
    | ret v =>
      cases e with
      | returned x => exact hok v m' g' w' x (by simpa [cut] using hr.symm) h5 h6 h7 h8
      | panicked ch => exact h8.elim
      | outgrown => exact h8.elim
    | pan pv =>
      cases e with
      | returned x => exact h8.elim
      | panicked ch => exact hpan pv m' g' w' ch (by simpa [cut] using hr.symm) h5 h6 h7 h8
      | outgrown => exact h8.elim

end

theorem R.one {c : Ctx} {v : Vl} {x : Value} (h : R c v x) (h1 : v.one = true) : x.oneCell' = true := by
  cases h <;> first | rfl | simp [Vl.one] at h1

theorem one_cells {v : Vl} (h : v.one = true) : v.cells = [v] := by cases v <;> first | rfl | simp [Vl.one] at h

theorem oneCell_cells {x : Value} (h : x.oneCell' = true) : x.cells = #[x] := by cases x <;> first | rfl | simp [Value.oneCell'] at h

theorem R.cells {c : Ctx} {v : Vl} {x : Value} (h : R c v x) (h1 : v.isTup = false) : Rl c v.cells x.cells := by
  by_cases h2 : v.one = true
  · rw [one_cells h2, oneCell_cells (h.one h2)]
    refine ⟨rfl, fun j u y hu hy => ?_⟩
    cases j with
    | zero => simp at hu hy; subst hu; subst hy; exact h
    | succ j => simp at hu
  · cases h
    case agg cs xs e h2 h3 => exact ⟨e, h3⟩
    case tup => simp [Vl.isTup] at h1
    all_goals simp [Vl.one] at h2

theorem R.okc {c : Ctx} {v : Vl} {x : Value} (h : R c v x) (h1 : v.isTup = false) : ∀ u ∈ v.cells, u.one = true := by
  cases h
  case agg cs xs e h2 h3 => exact h2
  case tup => simp [Vl.isTup] at h1
  all_goals simp [Vl.cells, Vl.one]

theorem Rl.list {c : Ctx} {vs : List Vl} {xs : Array Value} (h : Rl c vs xs) : vs.length = xs.toList.length ∧
    ∀ (j : Nat) (v : Vl) (x : Value), vs[j]? = some v → xs.toList[j]? = some x → R c v x :=
  ⟨by simpa using h.1, fun j v x hv hx => h.2 j v x hv (by simpa using hx)⟩

section ops
variable {o : Oper} {vop : VOp} {tm : List Vl} {k : Nat} {p : Pth} {m : Mem} {r : OR} {g : Gh} {w : World} {a : Act} {c : Nat}

theorem ok_move {x : Operand} (he : o.op = .move x ∨ o.op = .assign x) (ho : cop P meth o.op = some vop) (hr : evalB call tm (k :: p) m vop = some r)
    (hi : Inv g m w) (ha : AR D (ctx g m w) tm a) : OpOk P o a g m w (k :: p) r := by
  have hco : ∃ y, co x = some y ∧ vop = .mv y := by
    rcases he with he | he <;> rw [he] at ho <;> simp only [cop] at ho <;> split at ho <;> cases ho <;> exact ⟨_, by assumption, rfl⟩
  obtain ⟨y, hy, rfl⟩ := hco
  simp only [evalB, Option.some.injEq] at hr
  have hrun : (execOp a.eval o).run P w = .ok (.value (a.eval x)) w := by
    rcases he with he | he <;> simp [execOp, he]
  exact .pure hi hrun hr.symm (opd_R ha hy)

theorem ok_pick {x y z : Operand} (he : o.op = .pick x y z) (ho : cop P meth o.op = some vop) (hr : evalB call tm (k :: p) m vop = some r)
    (hi : Inv g m w) (ha : AR D (ctx g m w) tm a) : OpOk P o a g m w (k :: p) r := by
  rw [he] at ho; simp only [cop] at ho
  split at ho
  · rename_i x' y' z' hx hy hz
    cases ho
    simp only [evalB] at hr
    split at hr
    · rename_i t ht
      have h1 := opd_R ha hx
      rw [ht] at h1
      cases hex : a.eval x <;> rw [hex] at h1 <;> cases h1
      have hrun : (execOp a.eval o).run P w = .ok (.value (if t then a.eval y else a.eval z)) w := by
        simp [execOp, he, hex, asBool]
      refine .pure hi hrun (by simpa using hr.symm) ?_
      cases t
      · exact opd_R ha hz
      · exact opd_R ha hy
    · cases hr
  · cases ho

theorem BoxOk.fresh {g' : Gh} {m' : Mem} {id : Pth} {cs : List Vl} {xs : Array Value} {t : TypeId}
    (hev : Ev g m w g' m' (w.alloc (.cells xs t))) (hb : g'.bx id = Option.some (w.heap.size, 0)) (h1 : ∀ v ∈ cs, v.one = true) (hr : Rl (ctx g m w) cs xs) :
    BoxOk g' m' (w.alloc (.cells xs t)) id (.cells 0 cs) := by
  refine ⟨w.heap.size, 0, hb, by simp, h1, fun j => xs.getD j undef, fun j v hv => ?_⟩
  obtain ⟨x, hx, hrx⟩ := hr.get hv
  have hx' : xs.getD j undef = x := by simp [Array.getD_eq_getD_getElem?, hx]
  simp only [Nat.zero_add, hx']
  exact ⟨by rw [World.cell?_alloc_new]; exact hx, hev.toR hrx, World.frozen?_alloc_new _ _ _ _⟩

theorem run_newVar (w : World) (t : TypeId) (v : Value) : (newVar t v).run P w = .ok ⟨w.heap.size, 0, none⟩ (w.alloc (.cells v.cells t)) := by
  simp [newVar, newRow]

/-- A box with some cells. -/
theorem ok_new {v : Value} {t : TypeId} {cs : List Vl} (hrun : (execOp a.eval o).run P w = .ok (.value (.pointer (some ⟨w.heap.size, 0, none⟩))) (w.alloc (.cells v.cells t)))
    (hr : r = .ok (.ptr (k :: p) 0) { m with bx := (k :: p, .cells 0 cs) :: m.bx }) (hi : Inv g m w) (hf : FreshAt g (k :: p))
    (h1 : ∀ v ∈ cs, v.one = true) (hv : Rl (ctx g m w) cs v.cells) : OpOk P o a g m w (k :: p) r := by
  obtain ⟨g', e1, e2, e3, e4⟩ := hi.alloc hf.here.1 (.cells v.cells t) (.cells 0 cs) fun g' m' hev hb => BoxOk.fresh hev hb h1 hv
  exact .val hrun hr e1 e2 e3 (.ptr _ 0 _ 0 e4)

theorem zeroP_R {t : TypeId} {z : Vl} (h : zeroP P t = some z) : ∃ i x, P.info? t = some i ∧ i.zero = some x ∧ ofV x = some z := by
  unfold zeroP at h
  split at h
  · rename_i i hi
    split at h
    · rename_i x hx; exact ⟨i, x, hi, hx, h⟩
    · cases h
  · cases h

theorem run_zeroValue {t : TypeId} {i : TypeInfo} {x : Value} (hi : P.info? t = some i) (hx : i.zero = some x) (w : World) : (zeroValue t).run P w = .ok x w := by
  simp [zeroValue, run_typeInfo w hi, hx]

theorem ok_alloc {t : TypeId} (he : o.op = .alloc t) (ho : cop P meth o.op = some vop) (hr : evalB call tm (k :: p) m vop = some r)
    (hi : Inv g m w) (hf : FreshAt g (k :: p)) : OpOk P o a g m w (k :: p) r := by
  rw [he] at ho; simp only [cop] at ho
  split at ho
  · rename_i z hz
    cases ho
    simp only [evalB, Option.some.injEq] at hr
    obtain ⟨i, x, h1, h2, h3⟩ := zeroP_R hz
    obtain ⟨h4, h5⟩ := ofV_R h3 (ctx g m w)
    refine ok_new (v := x) (t := t) ?_ hr.symm hi hf h5.2 (h4.cells h5.1)
    simp [execOp, he, Instr.alloc, run_zeroValue h1 h2, run_newVar]
  · cases ho

theorem ok_box {t : TypeId} {x : Operand} (he : o.op = .box t x) (ho : cop P meth o.op = some vop) (hr : evalB call tm (k :: p) m vop = some r)
    (hi : Inv g m w) (hf : FreshAt g (k :: p)) (ha : AR D (ctx g m w) tm a) : OpOk P o a g m w (k :: p) r := by
  rw [he] at ho; simp only [cop] at ho
  split at ho
  · rename_i y hy
    cases ho
    simp only [evalB] at hr
    split at hr
    · rename_i ht
      have h1 := opd_R ha hy
      simp only [Option.some.injEq] at hr
      refine ok_new (v := a.eval x) (t := t) ?_ hr.symm hi hf (h1.okc (by simpa using ht)) (h1.cells (by simpa using ht))
      simp [execOp, he, Instr.box, run_newVar]
    · cases hr
  · cases ho

end ops
end Go.Ve
end

section
/- The engine, part 7: loads, stores, structs, slices that are built. -/
namespace Go.Ve
variable [Syms]
variable {D : Kp}
variable {P : Program} {call : CallFn} {meth : String → List (TypeId × FuncId)}

theorem add_eq (b o n : Nat) : (⟨b, o, none⟩ : Addr).add n = ⟨b, o + n, none⟩ := by unfold Addr.add; split <;> simp_all

theorem aggP_run {t : TypeId} {b : Bool} (h : aggP P t = some b) (w : World) : (isAgg t).run P w = .ok b w ∧ ∃ i, P.info? t = some i := by
  unfold aggP at h
  split at h
  · rename_i i fs h1 h2; cases h; exact ⟨by simp [isAgg, run_underlying h2], i, h1⟩
  · rename_i i n e h1 h2; cases h; exact ⟨by simp [isAgg, run_underlying h2], i, h1⟩
  · rename_i i d h3 h4 h1 h2
    cases h
    refine ⟨?_, i, h1⟩
    cases d <;> simp [isAgg, run_underlying h2] <;> simp_all
  · cases h

theorem get_slcL {α : Type} (l : List α) (lo hi j : Nat) : (slcL l lo hi)[j]? = if lo + j < hi then l[lo + j]? else none := by
  unfold slcL
  rw [List.getElem?_drop]
  split
  · rename_i h; rw [List.getElem?_take_of_lt h]
  · rename_i h; rw [List.getElem?_eq_none]; simp; omega

theorem len_slcL {α : Type} (l : List α) (lo hi : Nat) (h : hi ≤ l.length) : (slcL l lo hi).length = hi - lo := by
  unfold slcL; simp; omega

/-- Where some cells of V lie. -/
def Lie (c : Ctx) (w : World) (cs : List Vl) (b o : Nat) (f : Nat → Value) : Prop :=
  (∀ v ∈ cs, v.one = true) ∧ ∀ (j : Nat) (v : Vl), cs[j]? = some v → w.cell? ⟨b, o + j, none⟩ = some (f j) ∧ R c v (f j)

theorem run_loadVar {t : TypeId} {ag : Bool} (h : aggP P t = some ag) {c : Ctx} {w : World} {cs : List Vl} {b o : Nat} {f : Nat → Value} (hl : Lie c w cs b o f)
    {off : Nat} {v : Vl} (hv : (if ag then (if off + P.cellsOf t ≤ cs.length then some (Vl.agg (slcL cs off (off + P.cellsOf t))) else none) else cs[off]?) = some v) :
    ∃ x, (loadVar t ⟨b, o + off, none⟩).run P w = .ok x w ∧ R c v x := by
  obtain ⟨h1, i, h2⟩ := aggP_run h w
  cases ag with
  | true =>
    simp only [if_true] at hv
    split at hv
    · rename_i hle
      cases hv
      generalize hn : P.cellsOf t = n at *
      have hcell : ∀ j, j < n → w.cell? ((⟨b, o + off, none⟩ : Addr).add j) = some (f (off + j)) := fun j hj => by
        rw [add_eq, show o + off + j = o + (off + j) by omega]
        exact (hl.2 (off + j) cs[off + j] (by simp)).1
      have hrun : (sizeOf t).run P w = .ok n w := by rw [← hn]; exact run_sizeOf w h2
      refine ⟨.agg ((List.range n).map fun j => f (off + j)).toArray, ?_, ?_⟩
      · simp [loadVar, h1, hrun, run_loadCells w _ n (fun j => f (off + j)) hcell]
      · refine .agg _ _ (by rw [len_slcL _ _ _ hle]; simp) (fun u hu => ?_) fun j u x hu hx => ?_
        · unfold slcL at hu; exact hl.1 u (List.mem_of_mem_take (List.mem_of_mem_drop hu))
        · rw [get_slcL] at hu
          split at hu
          · rename_i hj
            have hjn : j < n := by omega
            simp [hjn] at hx
            subst hx
            exact (hl.2 _ u hu).2
          · cases hu
    · cases hv
  | false =>
    simp only [Bool.false_eq_true, if_false] at hv
    obtain ⟨h3, h4⟩ := hl.2 off v hv
    exact ⟨f off, by simp [loadVar, h1, run_load, h3], h4⟩

section ops
variable {o : Oper} {vop : VOp} {tm : List Vl} {k : Nat} {p : Pth} {m : Mem} {r : OR} {g : Gh} {w : World} {a : Act} {c : Nat}

theorem BoxOk.lie {ver : Nat} {cs : List Vl} {q : Pth} (h : BoxOk g m w q (.cells ver cs)) {b base : Nat} (hb : g.bx q = Option.some (b, base)) :
    ∃ f, Lie (ctx g m w) w cs b base f := by
  obtain ⟨b', base', hb', _, h1, f, hf⟩ := h
  rw [hb] at hb'; simp at hb'; obtain ⟨rfl, rfl⟩ := hb'
  exact ⟨f, h1, fun j v hv => ⟨(hf j v hv).1, (hf j v hv).2.1⟩⟩

theorem ok_load {t : TypeId} {x : Operand} (he : o.op = .load t x) (ho : cop P meth o.op = some vop) (hr : evalB call tm (k :: p) m vop = some r)
    (hi : Inv g m w) (ha : AR D (ctx g m w) tm a) : OpOk P o a g m w (k :: p) r := by
  rw [he] at ho; simp only [cop] at ho
  split at ho
  · rename_i ag y hag hy
    cases ho
    have h1 := opd_R ha hy
    have key : ∀ {cs : List Vl} {b ob off : Nat} {f : Nat → Value} {v : Vl}, Lie (ctx g m w) w cs b ob f → a.eval x = .pointer (some ⟨b, ob + off, none⟩) →
        (if ag then (if off + P.cellsOf t ≤ cs.length then some (Vl.agg (slcL cs off (off + P.cellsOf t))) else none) else cs[off]?) = some v → r = .ok v m →
        OpOk P o a g m w (k :: p) r := fun {cs b ob off f v} hl hex hv hrv => by
      obtain ⟨z, hz, hrz⟩ := run_loadVar hag hl hv
      exact .pure hi (by simp [execOp, he, Instr.loadAt, Instr.sureAddr, hex, hz]) hrv hrz
    simp only [evalB] at hr
    split at hr
    · rename_i q off hq
      rw [hq] at h1
      cases hex : a.eval x <;> rw [hex] at h1 <;> cases h1
      rename_i b base hb
      split at hr
      · rename_i ver cs hlk
        obtain ⟨f, hl⟩ := (hi.box q _ (lookup_mem hlk)).lie hb
        cases ag with
        | true =>
          simp only [if_true] at hr
          split at hr
          · rename_i hle; exact key hl hex (by simp only [if_true]; rw [if_pos hle]) (by simpa using hr.symm)
          · cases hr
        | false =>
          simp only [Bool.false_eq_true, if_false] at hr
          split at hr
          · rename_i v hv; exact key hl hex (by simpa using hv) (by simpa using hr.symm)
          · cases hr
      · cases hr
    · rename_i cs off hq
      rw [hq] at h1
      cases hex : a.eval x <;> rw [hex] at h1 <;> cases h1
      rename_i b ob f h1 h2 h3
      have hl : Lie (ctx g m w) w cs b ob f := ⟨h1, fun j v hv => ⟨(h2 j v hv).1, h3 j v hv⟩⟩
      cases ag with
      | true =>
        simp only [if_true] at hr
        split at hr
        · rename_i hle; exact key hl hex (by simp only [if_true]; rw [if_pos hle]) (by simpa using hr.symm)
        · cases hr
      | false =>
        simp only [Bool.false_eq_true, if_false] at hr
        split at hr
        · rename_i v hv; exact key hl hex (by simpa using hv) (by simpa using hr.symm)
        · cases hr
    · cases hr
  · cases ho

theorem ok_store {t : TypeId} {x y : Operand} (he : o.op = .store t x y) (ho : cop P meth o.op = some vop) (hr : evalB call tm (k :: p) m vop = some r)
    (hi : Inv g m w) (ha : AR D (ctx g m w) tm a) : OpOk P o a g m w (k :: p) r := by
  rw [he] at ho; simp only [cop] at ho
  split at ho
  · rename_i i x' y' hin hx hy
    cases ho
    have h1 := opd_R ha hx
    have h2 := opd_R ha hy
    simp only [evalB] at hr
    split at hr
    · rename_i q off hq
      rw [hq] at h1
      cases hex : a.eval x <;> rw [hex] at h1 <;> cases h1
      rename_i b base hb
      split at hr
      · rename_i ver cs hlk
        split at hr
        · rename_i hcond
          obtain ⟨hnt, hsz, hle⟩ := hcond
          have h3 := (h2.cells hnt).list
          have h4 := h2.okc hnt
          obtain ⟨hc, hin', hev⟩ := hi.store (lookup_mem hlk) hb h3.1 (by rw [hsz]; exact hle) h4 h3.2
          rw [hsz] at hin' hev
          simp only [Option.some.injEq] at hr
          refine .skp ?_ hr.symm hev hin' (NewAt.refl _ _) (undef_R _)
          have hsize : (a.eval y).cells.size = i.size := by rw [← hsz, h3.1]; simp
          have hst := run_storeCells_cells (P := P) b (base + off) (a.eval y).cells.toList 0 w (fun j hj => (hc j hj).1) (fun j hj => (hc j hj).2) (fun z hz => by
            obtain ⟨j, hj, rfl⟩ := List.getElem_of_mem hz
            have hj' : j < (opd tm y').cells.length := by rw [h3.1]; exact hj
            exact (h3.2 j (opd tm y').cells[j] _ (by simp [hj']) (by simp)).one (h4 _ (List.getElem_mem hj')))
          simp only [Nat.add_zero] at hst
          simp [execOp, he, Instr.storeAt, Instr.sureAddr, hex, storeVar, sizeOf, run_typeInfo w hin, hsize, hst]
        · cases hr
      · cases hr
    · cases hr
  · cases ho

theorem ok_nilck {x : Operand} (he : o.op = .nilCheck x) (ho : cop P meth o.op = some vop) (hr : evalB call tm (k :: p) m vop = some r)
    (hi : Inv g m w) (ha : AR D (ctx g m w) tm a) : OpOk P o a g m w (k :: p) r := by
  rw [he] at ho; simp only [cop] at ho
  split at ho
  · rename_i y hy
    cases ho
    have h1 := opd_R ha hy
    simp only [evalB] at hr
    split at hr
    · rename_i q off hq
      rw [hq] at h1
      cases hex : a.eval x <;> rw [hex] at h1 <;> cases h1
      rename_i b base hb
      exact .pure hi (by simp [execOp, he, hex]; rfl) (by simpa using hr.symm) (.ptr _ _ _ _ hb)
    · rename_i cs off hq
      rw [hq] at h1
      cases hex : a.eval x <;> rw [hex] at h1 <;> cases h1
      rename_i b ob f h1 h2 h3
      exact .pure hi (by simp [execOp, he, hex]; rfl) (by simpa using hr.symm) (.eptr _ _ _ _ _ h1 h2 h3)
    · rename_i hq
      rw [hq] at h1
      cases hex : a.eval x <;> rw [hex] at h1 <;> cases h1
      exact .rtp hi (by simp [execOp, he, hex, runtimePanic]; rfl) (by simpa using hr.symm) ⟨rfl, rfl, rfl⟩ (.inr (.inl rfl))
    · rename_i hq
      rw [hq] at h1
      cases hex : a.eval x <;> rw [hex] at h1 <;> cases h1
      exact .rtp hi (by simp [execOp, he, hex, runtimePanic]; rfl) (by simpa using hr.symm) ⟨rfl, rfl, rfl⟩ (.inr (.inl rfl))
    · rename_i hq
      rw [hq] at h1
      cases hex : a.eval x <;> rw [hex] at h1 <;> cases h1
      exact .rtp hi (by simp [execOp, he, hex, runtimePanic]; rfl) (by simpa using hr.symm) ⟨rfl, rfl, rfl⟩ (.inr (.inl rfl))
    · cases hr
  · cases ho

end ops
end Go.Ve
end

section
/- The engine, part 8: plain operations, places, calls. -/
namespace Go.Ve
variable [Syms]
variable {D : Kp}
variable {P : Program} {call : CallFn} {meth : String → List (TypeId × FuncId)}

section ops
variable {o : Oper} {vop : VOp} {tm : List Vl} {k : Nat} {p : Pth} {m : Mem} {r : OR} {g : Gh} {w : World} {a : Act} {c : Nat}

/-- A run-time panic with a bound. -/
theorem run_bounds (kd : IntKind) (x y : Int) (code : BoundsCode) (w : World) :
    ∃ v w', (boundsPanic kd x y code : Sem Value).run P w = .halt (.panic (.iface P.rt.boundsError v)) w' ∧ Hp w' w := by
  unfold boundsPanic
  split
  · simp [run_choose, runtimePanic, Question.forced]
    exact ⟨_, _, ⟨rfl, rfl⟩, rfl, rfl, rfl⟩
  · simp [runtimePanic]
    exact ⟨_, _, ⟨rfl, rfl⟩, rfl, rfl, rfl⟩

theorem ok_un {op : UnOp} {t : TypeId} {x : Operand} (he : o.op = .unOp op t x) (ho : cop P meth o.op = some vop) (hr : evalB call tm (k :: p) m vop = some r)
    (hi : Inv g m w) (ha : AR D (ctx g m w) tm a) : OpOk P o a g m w (k :: p) r := by
  rw [he] at ho; simp only [cop] at ho
  split at ho
  · rename_i y hy
    cases ho
    have h1 := opd_R ha hy
    simp only [evalB] at hr
    split at hr
    · rename_i b hb
      rw [hb] at h1
      cases hex : a.eval x <;> rw [hex] at h1 <;> cases h1
      exact .pure hi (x := .bool (!b)) (by simp only [execOp, he, hex, Op.unary]; rfl) ((Option.some.inj hr).symm) (.bool _)
    · rename_i kd n hb
      rw [hb] at h1
      cases hex : a.eval x <;> rw [hex] at h1 <;> cases h1
      exact .pure hi (x := .int kd (kd.wrap (0 - n))) (by simp only [execOp, he, hex, Op.unary, Op.intArith]; rfl) ((Option.some.inj hr).symm) (.int _ _)
    · rename_i kd n hb
      rw [hb] at h1
      cases hex : a.eval x <;> rw [hex] at h1 <;> cases h1
      exact .pure hi (x := .int kd (kd.wrap (BitVec.ofInt kd.bits (if kd.signed then -1 else kd.max) ^^^ BitVec.ofInt kd.bits n).toNat)) (by simp only [execOp, he, hex, Op.unary, Op.intBits]; rfl) ((Option.some.inj hr).symm) (.int _ _)
    · cases hr
  · cases ho

theorem ok_conv {s d : TypeId} {x : Operand} (he : o.op = .convert s d x) (ho : cop P meth o.op = some vop) (hr : evalB call tm (k :: p) m vop = some r)
    (hi : Inv g m w) (ha : AR D (ctx g m w) tm a) : OpOk P o a g m w (k :: p) r := by
  rw [he] at ho; simp only [cop, cconv] at ho
  split at ho
  · rename_i k1 k2 y hs hd hy
    cases ho
    have h1 := opd_R ha hy
    simp only [evalB] at hr
    split at hr
    · rename_i kd n hb
      rw [hb] at h1
      cases hex : a.eval x <;> rw [hex] at h1 <;> cases h1
      exact .pure hi (x := .int k2 (k2.wrap n)) (by simp [execOp, he, hex, convert, run_underlying hs, run_underlying hd, Conv.intToInt]) ((Option.some.inj hr).symm) (.int _ _)
    · cases hr
  · rename_i y hs hd hy
    cases ho
    have h1 := opd_R ha hy
    simp only [evalB] at hr
    split at hr
    · rename_i st hb
      rw [hb] at h1
      cases hex : a.eval x <;> rw [hex] at h1 <;> cases h1
      exact .pure hi (x := .string ⟨st.toArray⟩) (by simp [execOp, he, hex, convert, run_underlying hs, run_underlying hd]) ((Option.some.inj hr).symm) (.str _)
    · cases hr
  · cases ho

theorem ok_mkI {t : TypeId} {x : Operand} (he : o.op = .makeInterface t x) (ho : cop P meth o.op = some vop) (hr : evalB call tm (k :: p) m vop = some r)
    (hi : Inv g m w) (ha : AR D (ctx g m w) tm a) : OpOk P o a g m w (k :: p) r := by
  rw [he] at ho; simp only [cop] at ho
  split at ho
  · cases ho
  · rename_i d y hn hd hy
    cases ho
    have h1 := opd_R ha hy
    simp only [evalB, Option.some.injEq] at hr
    refine .pure hi ?_ hr.symm (.iface t _ _ h1)
    simp only [execOp, he, Instr.makeInterface, Sem.run_bind, run_underlying hd, Result.andThen_ok]
    cases d <;> first | rfl | exact absurd rfl (hn _)
  · cases ho

theorem ok_mkF {f : Fn} {xs ys : Array Operand} (he : o.op = .makeFunc f xs ys) (ho : cop P meth o.op = some vop) (hr : evalB call tm (k :: p) m vop = some r)
    (hi : Inv g m w) (ha : AR D (ctx g m w) tm a) : OpOk P o a g m w (k :: p) r := by
  cases f with
  | func f =>
    rw [he] at ho; simp only [cop] at ho
    split at ho
    · rename_i us vs hu hv
      cases ho
      simp only [evalB, Option.some.injEq] at hr
      have h1 := opds_R ha hu
      have h2 := opds_R ha hv
      refine .pure hi (x := .func (.func f) (xs.map a.eval) (ys.map a.eval)) (by simp [execOp, he, Instr.makeFunc]) hr.symm (.fn f _ _ _ _ ?_ ?_ ?_ ?_)
      · simpa using h1.1
      · simpa using h2.1
      · intro j v x hv hx; exact h1.2 j v x hv (by simpa using hx)
      · intro j v x hv hx; exact h2.2 j v x hv (by simpa using hx)
    · cases ho
  | _ => rw [he] at ho; simp [cop] at ho

theorem ok_mkM {t : TypeId} {x : Option Operand} (he : o.op = .makeMap t x) (ho : cop P meth o.op = some vop) (hr : evalB call tm (k :: p) m vop = some r)
    (hi : Inv g m w) (hf : FreshAt g (k :: p)) : OpOk P o a g m w (k :: p) r := by
  cases x with
  | some x => rw [he] at ho; simp [cop] at ho
  | none =>
    rw [he] at ho; simp only [cop, Option.some.injEq] at ho
    subst ho
    simp only [evalB, Option.some.injEq] at hr
    obtain ⟨g', e1, e2, e3, e4⟩ := hi.alloc hf.here.1 (.map #[] 0) .mp fun g' m' hev hb => ⟨w.heap.size, hb, by
      show (w.heap.push _)[w.heap.size]? = _
      simp⟩
    refine .val (x := .map (some w.heap.size)) ?_ hr.symm e1 e2 e3 (.map _ _ e4)
    simp [execOp, he, Instr.makeMap]

theorem ok_fieldAddr {s : TypeId} {x : Operand} {f : Nat} (he : o.op = .fieldAddr s x f) (ho : cop P meth o.op = some vop) (hr : evalB call tm (k :: p) m vop = some r)
    (hi : Inv g m w) (ha : AR D (ctx g m w) tm a) : OpOk P o a g m w (k :: p) r := by
  rw [he] at ho; simp only [cop] at ho
  split at ho
  · rename_i fs y hs hy
    split at ho
    · rename_i fd hfd
      split at ho
      · rename_i i hin
        split at ho
        · cases ho
        · rename_i hz
          cases ho
          have h1 := opd_R ha hy
          have hsz : ¬ P.cellsOf fd.type = 0 := by simpa [Program.cellsOf, hin] using hz
          have hrun : ∀ b off, a.eval x = .pointer (some ⟨b, off, none⟩) →
              (execOp a.eval o).run P w = .ok (.value (.pointer (some ⟨b, off + fd.offset, none⟩))) w := fun b off hex => by
            simp [execOp, he, hex, Instr.fieldAt, run_underlying hs, hfd, Instr.sureAddr, fieldPlace, run_sizeOf w hin, hsz, add_eq]
          simp only [evalB] at hr
          split at hr
          · rename_i q off hq
            rw [hq] at h1
            cases hex : a.eval x <;> rw [hex] at h1 <;> cases h1
            rename_i b base hb
            refine .pure hi (hrun _ _ hex) (by simpa using hr.symm) ?_
            rw [Nat.add_assoc]
            exact .ptr _ _ _ _ hb
          · rename_i cs off hq
            rw [hq] at h1
            cases hex : a.eval x <;> rw [hex] at h1 <;> cases h1
            rename_i b ob f h1 h2 h3
            refine .pure hi (hrun _ _ hex) (by simpa using hr.symm) ?_
            rw [Nat.add_assoc]
            exact .eptr _ _ _ _ _ h1 h2 h3
          · cases hr
      · cases ho
    · cases ho
  · cases ho

/-- A part of cells that are at hand. -/
theorem run_part {t : TypeId} {ag : Bool} (h : aggP P t = some ag) {cx : Ctx} {cs : List Vl} {xs : Array Value} (hl : Rl cx cs xs) (h1 : ∀ v ∈ cs, v.one = true)
    {off : Nat} {v : Vl} (hv : (if ag then (if off + P.cellsOf t ≤ cs.length then some (Vl.agg (slcL cs off (off + P.cellsOf t))) else none) else cs[off]?) = some v) (w : World) :
    ∃ x, (part t xs off).run P w = .ok x w ∧ R cx v x := by
  obtain ⟨h2, i, h3⟩ := aggP_run h w
  cases ag with
  | true =>
    simp only [if_true] at hv
    split at hv
    · rename_i hle
      cases hv
      refine ⟨.agg (xs.extract off (off + P.cellsOf t)), by simp [part, h2, run_sizeOf w h3], ?_⟩
      refine .agg _ _ (by rw [len_slcL _ _ _ hle]; simp; rw [← hl.1]; omega) (fun u hu => ?_) fun j u x hu hx => ?_
      · unfold slcL at hu; exact h1 u (List.mem_of_mem_take (List.mem_of_mem_drop hu))
      · rw [get_slcL] at hu
        split at hu
        · rename_i hj
          rw [Array.getElem?_extract] at hx
          split at hx
          · exact hl.2 _ u x hu hx
          · cases hx
        · cases hu
    · cases hv
  | false =>
    simp only [Bool.false_eq_true, if_false] at hv
    obtain ⟨x, hx, hrx⟩ := hl.get hv
    exact ⟨x, by simp [part, h2, hx], hrx⟩

theorem ok_field {s : TypeId} {x : Operand} {f : Nat} (he : o.op = .field s x f) (ho : cop P meth o.op = some vop) (hr : evalB call tm (k :: p) m vop = some r)
    (hi : Inv g m w) (ha : AR D (ctx g m w) tm a) : OpOk P o a g m w (k :: p) r := by
  rw [he] at ho; simp only [cop] at ho
  split at ho
  · rename_i fs y hs hy
    split at ho
    · rename_i fd hfd
      split at ho
      · rename_i ag hag
        cases ho
        have h1 := opd_R ha hy
        simp only [evalB] at hr
        split at hr
        · rename_i cs hq
          rw [hq] at h1
          cases hex : a.eval x <;> rw [hex] at h1 <;> cases h1
          rename_i xs h2 e h3
          have key : ∀ v, (if ag then (if fd.offset + P.cellsOf fd.type ≤ cs.length then some (Vl.agg (slcL cs fd.offset (fd.offset + P.cellsOf fd.type))) else none) else cs[fd.offset]?) = some v →
              r = .ok v m → OpOk P o a g m w (k :: p) r := fun v hv hrv => by
            obtain ⟨z, hz, hrz⟩ := run_part hag ⟨e, h3⟩ h2 hv w
            exact .pure hi (by simp [execOp, he, hex, Instr.field, run_underlying hs, hfd, asAgg, hz]) hrv hrz
          cases ag with
          | true =>
            simp only [if_true] at hr
            split at hr
            · rename_i hle; exact key _ (by simp only [if_true]; rw [if_pos hle]) (by simpa using hr.symm)
            · cases hr
          | false =>
            simp only [Bool.false_eq_true, if_false] at hr
            split at hr
            · rename_i v hv; exact key v (by simpa using hv) (by simpa using hr.symm)
            · cases hr
        · cases hr
      · cases ho
    · cases ho
  · cases ho

theorem ok_extract {x : Operand} {i : Nat} (he : o.op = .extract x i) (ho : cop P meth o.op = some vop) (hr : evalB call tm (k :: p) m vop = some r)
    (hi : Inv g m w) (ha : AR D (ctx g m w) tm a) : OpOk P o a g m w (k :: p) r := by
  rw [he] at ho; simp only [cop] at ho
  split at ho
  · rename_i y hy
    cases ho
    have h1 := opd_R ha hy
    simp only [evalB] at hr
    split at hr
    · rename_i vs hq
      rw [hq] at h1
      cases hex : a.eval x <;> rw [hex] at h1 <;> cases h1
      rename_i xs e h2
      split at hr
      · rename_i v hv
        have hl : Rl (ctx g m w) vs xs := ⟨e, h2⟩
        obtain ⟨z, hz, hrz⟩ := hl.get hv
        exact .pure hi (by simp [execOp, he, hex, Instr.extract, hz]) (by simpa using hr.symm) hrz
      · cases hr
    · cases hr
  · cases ho

theorem ok_tas {x : Operand} {t u : TypeId} {ok : Bool} (he : o.op = .typeAssert x u t ok) (ho : cop P meth o.op = some vop) (hr : evalB call tm (k :: p) m vop = some r)
    (hi : Inv g m w) (ha : AR D (ctx g m w) tm a) : OpOk P o a g m w (k :: p) r := by
  rw [he] at ho; simp only [cop] at ho
  split at ho
  · cases ho
  · rename_i d z y hn hd hz hy
    cases ho
    obtain ⟨i, zx, hz1, hz2, hz3⟩ := zeroP_R hz
    have hzr := (ofV_R hz3 (ctx g m w)).1
    have h1 := opd_R ha hy
    have hni : ∀ ms, d ≠ .interface ms := hn
    have two : ∀ {v : Vl} {x : Value} {b : Bool}, R (ctx g m w) v x → R (ctx g m w) (.tup [v, .bool b]) (.tuple #[x, .bool b]) := fun {v x b} hx =>
      .tup _ _ rfl fun j y z hy hz => by
        match j, hy, hz with
        | 0, hy, hz => simp at hy hz; subst hy; subst hz; exact hx
        | 1, hy, hz => simp at hy hz; subst hy; subst hz; exact .bool _
        | j + 2, hy, hz => simp at hy
    simp only [evalB] at hr
    split at hr
    · rename_i ty v hq
      rw [hq] at h1
      cases hex : a.eval x <;> rw [hex] at h1 <;> cases h1
      rename_i xv hxv
      split at hr
      · rename_i e
        subst e
        cases ok with
        | true =>
          refine .pure hi (x := .tuple #[xv, .bool true]) ?_ (by simpa using hr.symm) (two hxv)
          simp only [execOp, he, hex, Instr.typeAssert, Sem.run_bind, run_underlying hd, Result.andThen_ok]
          cases d <;> first | exact absurd rfl (hni _) | simp
        | false =>
          refine .pure hi (x := xv) ?_ (by simpa using hr.symm) hxv
          simp only [execOp, he, hex, Instr.typeAssert, Sem.run_bind, run_underlying hd, Result.andThen_ok]
          cases d <;> first | exact absurd rfl (hni _) | simp
      · rename_i hne
        cases ok with
        | true =>
          refine .pure hi (x := .tuple #[zx, .bool false]) ?_ (by simpa using hr.symm) (two hzr)
          simp only [execOp, he, hex, Instr.typeAssert, Sem.run_bind, run_underlying hd, Result.andThen_ok]
          cases d <;> first | exact absurd rfl (hni _) | simp [hne, run_zeroValue hz1 hz2]
        | false => cases hr
    · rename_i hq
      rw [hq] at h1
      cases hex : a.eval x <;> rw [hex] at h1 <;> cases h1
      cases ok with
      | true =>
        refine .pure hi (x := .tuple #[zx, .bool false]) ?_ (by simpa using hr.symm) (two hzr)
        simp only [execOp, he, hex, Instr.typeAssert, Sem.run_bind, run_underlying hd, Result.andThen_ok]
        cases d <;> first | exact absurd rfl (hni _) | simp [run_zeroValue hz1 hz2]
      | false => cases hr
    · cases hr
  · cases ho

theorem ok_panic {x : Operand} (he : o.op = .panic x) (ho : cop P meth o.op = some vop) (hr : evalB call tm (k :: p) m vop = some r)
    (hi : Inv g m w) (ha : AR D (ctx g m w) tm a) : OpOk P o a g m w (k :: p) r := by
  rw [he] at ho; simp only [cop] at ho
  split at ho
  · rename_i y hy
    cases ho
    have h1 := opd_R ha hy
    simp only [evalB] at hr
    split at hr
    · rename_i t v hq
      rw [hq] at h1
      cases hex : a.eval x <;> rw [hex] at h1 <;> cases h1
      rename_i xv hxv
      intro K Q _ hpan
      unfold Oper.wp
      have hrun : (execOp a.eval o).run P w = .halt (.panic (.iface t xv)) w := by simp [execOp, he, hex, Instr.panic]
      rw [hrun]
      exact hpan (.u (.iface t v)) m g w _ ((Option.some.inj hr).symm) (Ev.refl _ _ _) hi (NewAt.refl _ _) ⟨t, xv, rfl, .iface _ _ _ hxv⟩
    · cases hr
  · cases ho

end ops
end Go.Ve
end

section
set_option linter.unusedSimpArgs false

/- The engine, part 9: numbers, strings, indexes, slicing. -/
namespace Go.Ve
variable [Syms]
variable {D : Kp}
variable {P : Program} {call : CallFn} {meth : String → List (TypeId × FuncId)}

section ops
variable {o : Oper} {vop : VOp} {tm : List Vl} {k : Nat} {p : Pth} {m : Mem} {r : OR} {g : Gh} {w : World} {a : Act} {c : Nat}

theorem ba_toList (s : List UInt8) : (⟨s.toArray⟩ : ByteArray).toList = s := by
  simp [ByteArray.toList_eq]

theorem ba_size (s : List UInt8) : (⟨s.toArray⟩ : ByteArray).size = s.length := by
  simp [ByteArray.size]

theorem ba_append (s t : List UInt8) : (⟨s.toArray⟩ : ByteArray) ++ ⟨t.toArray⟩ = ⟨(s ++ t).toArray⟩ := by
  apply ByteArray.ext
  simp

theorem ba_extract (s : List UInt8) (l h : Nat) : (⟨s.toArray⟩ : ByteArray).extract l h = ⟨(slcL s l h).toArray⟩ := by
  apply ByteArray.ext
  simp [slcL, ByteArray.data_extract, List.drop_take]

theorem ba_get (s : List UInt8) (i : Nat) : (⟨s.toArray⟩ : ByteArray)[i]? = s[i]? := by
  by_cases h : i < s.length
  · have h' : i < (⟨s.toArray⟩ : ByteArray).size := by rw [ba_size]; exact h
    rw [getElem?_pos (⟨s.toArray⟩ : ByteArray) i h', getElem?_pos s i h]; rfl
  · have h' : ¬ i < (⟨s.toArray⟩ : ByteArray).size := by rw [ba_size]; exact h
    rw [getElem?_neg (⟨s.toArray⟩ : ByteArray) i h', getElem?_neg s i h]


theorem rtp_err (msg : String) (hi : Inv g m w) (hrun : (execOp a.eval o).run P w = ((runtimePanic (.error msg) : Sem Value).run P w).andThen fun v w => .ok (.value v) w)
    (hr : r = .pan .rt m) : OpOk P o a g m w (k :: p) r :=
  .rtp hi (t := P.rt.errorString) (x := strVal msg) (w' := w) (by rw [hrun]; simp [runtimePanic]) hr ⟨rfl, rfl, rfl⟩ (.inr (.inl rfl))

theorem ok_bin {op : BinOp} {t u : TypeId} {x y : Operand} (he : o.op = .binOp op t x y u) {x' y' : VOpd} (hx : co x = some x') (hy : co y = some y')
    (hr : evalB call tm (k :: p) m (.bin op x' y') = some r) (hi : Inv g m w) (ha : AR D (ctx g m w) tm a) : OpOk P o a g m w (k :: p) r := by
  have h1 := opd_R ha hx
  have h2 := opd_R ha hy
  simp only [evalB] at hr
  have keyI : ∀ k1 n1 Y, a.eval x = .int k1 n1 → a.eval y = Y →
      (execOp a.eval o).run P w = ((binOp op t (.int k1 n1) Y).run P w).andThen fun v w => .ok (.value v) w := fun k1 n1 Y hX hY => by
    simp only [execOp, he, Sem.run_bind, eqGuard, hX, hY]
    cases op <;> simp
  have keyS : ∀ s1 Y, a.eval x = .string s1 → a.eval y = Y →
      (execOp a.eval o).run P w = ((binOp op t (.string s1) Y).run P w).andThen fun v w => .ok (.value v) w := fun s1 Y hX hY => by
    simp only [execOp, he, Sem.run_bind, eqGuard, hX, hY]
    cases op <;> simp
  cases hb : binV op (opd tm x') (opd tm y') with
  | none => rw [hb] at hr; cases hr
  | some z =>
    rw [hb] at hr
    cases hvx : opd tm x' <;> rw [hvx] at hb <;> cases hvy : opd tm y' <;> rw [hvy] at hb <;> simp only [binV] at hb <;> try cases hb
    case int.int k1 n1 k2 n2 =>
      rw [hvx] at h1; rw [hvy] at h2
      cases hex : a.eval x <;> rw [hex] at h1 <;> cases h1
      cases hey : a.eval y <;> rw [hey] at h2 <;> cases h2
      have hkey := keyI _ _ _ hex hey
      have pure1 : ∀ v x, (binOp op t (.int k1 n1) (.int k2 n2)).run P w = .ok x w → z = .inl v → R (ctx g m w) v x → OpOk P o a g m w (k :: p) r := fun v x hrun hz hvx => by
        subst hz
        exact .pure hi (by rw [hkey, hrun]; rfl) (Option.some.inj hr).symm hvx
      cases op <;> simp only at hb
      case shl =>
        split at hb <;> cases hb
        · rename_i hneg
          exact rtp_err "negative shift amount" hi (by rw [hkey]; simp [binOp, Op.shift, hneg]) (Option.some.inj hr).symm
        · rename_i hneg
          exact pure1 _ (.int _ _) (by simp [binOp, Op.shift, hneg]) rfl (.int _ _)
      case shr =>
        split at hb <;> cases hb
        · rename_i hneg
          exact rtp_err "negative shift amount" hi (by rw [hkey]; simp [binOp, Op.shift, hneg]) (Option.some.inj hr).symm
        · rename_i hneg
          exact pure1 _ (.int _ _) (by simp [binOp, Op.shift, hneg]) rfl (.int _ _)
      case quo =>
        split at hb
        · cases hb
        · rename_i hk; have hk := Decidable.not_not.1 hk; subst hk
          split at hb <;> cases hb
          · rename_i h0
            exact rtp_err "integer divide by zero" hi (by rw [hkey]; simp [binOp, Op.intDiv, h0]) (Option.some.inj hr).symm
          · rename_i h0
            exact pure1 _ (.int _ _) (by simp [binOp, Op.intDiv, h0]) rfl (.int _ _)
      case rem =>
        split at hb
        · cases hb
        · rename_i hk; have hk := Decidable.not_not.1 hk; subst hk
          split at hb <;> cases hb
          · rename_i h0
            exact rtp_err "integer divide by zero" hi (by rw [hkey]; simp [binOp, Op.intDiv, h0]) (Option.some.inj hr).symm
          · rename_i h0
            exact pure1 _ (.int _ _) (by simp [binOp, Op.intDiv, h0]) rfl (.int _ _)
      all_goals
        split at hb
        · cases hb
        · rename_i hk; have hk := Decidable.not_not.1 hk; subst hk
          cases hb
          first
            | exact pure1 _ (.int _ _) (by simp only [binOp, ne_eq, not_true_eq_false, if_false, Op.intArith, Op.intBits, Op.intCmp]; rfl) rfl (.int _ _)
            | exact pure1 _ (.bool _) (by simp only [binOp, ne_eq, not_true_eq_false, if_false, Op.intArith, Op.intBits, Op.intCmp]; rfl) rfl (.bool _)
    case str.str s1 s2 =>
      rw [hvx] at h1; rw [hvy] at h2
      cases hex : a.eval x <;> rw [hex] at h1 <;> cases h1
      cases hey : a.eval y <;> rw [hey] at h2 <;> cases h2
      have hkey := keyS _ _ hex hey
      have pure1 : ∀ v x, (binOp op t (.string ⟨s1.toArray⟩) (.string ⟨s2.toArray⟩)).run P w = .ok x w → z = .inl v → R (ctx g m w) v x → OpOk P o a g m w (k :: p) r := fun v x hrun hz hvx => by
        subst hz
        exact .pure hi (by rw [hkey, hrun]; rfl) (Option.some.inj hr).symm hvx
      cases op <;> simp only at hb <;> try cases hb
      case add =>
        split at hb <;> cases hb
        rename_i hlt
        refine pure1 _ (.string ⟨(s1 ++ s2).toArray⟩) ?_ rfl (.str _)
        have : ¬ (((⟨s1.toArray⟩ : ByteArray).size + (⟨s2.toArray⟩ : ByteArray).size : Nat) : Int) > IntKind.i64.max := by
          rw [ba_size, ba_size]
          have : IntKind.i64.max = 2 ^ 63 - 1 := by decide
          rw [this]; omega
        simp only [binOp, Op.stringOp]
        rw [if_neg this, ba_append]; rfl
      all_goals
        exact pure1 _ (.bool _) (by simp only [binOp, Op.stringOp, ba_toList]; rfl) rfl (.bool _)

end ops
end Go.Ve
end

section
set_option linter.unusedSimpArgs false

/- The engine, part 10: comparisons, indexes, slicing, ranges. -/
namespace Go.Ve
variable [Syms]
variable {D : Kp}
variable {P : Program} {call : CallFn} {meth : String → List (TypeId × FuncId)}

section ops
variable {o : Oper} {vop : VOp} {tm : List Vl} {k : Nat} {p : Pth} {m : Mem} {r : OR} {g : Gh} {w : World} {a : Act} {c : Nat}

theorem run_equal_eq (t : TypeId) (x y : Value) : Op.equal t x y = Op.equalIn (9999 + 1) t x y := rfl

theorem run_eq_bool {t : TypeId} (hu : P.underlying t = some .bool) (x y : Bool) (w : World) : (Op.equal t (.bool x) (.bool y)).run P w = .ok (x == y) w := by
  rw [run_equal_eq]; generalize 9999 = dd; simp only [Op.equalIn, Sem.run_bind, run_underlying hu, Result.andThen_ok, Sem.run_pure]

/-- What is held against a nil. -/
theorem run_eq_nil {t : TypeId} {d : TypeDesc} (hu : P.underlying t = some d) {y : Operand} {kd : Nat} (hk : nilKind d y = some kd) {cx : Ctx} {v : Vl} {x : Value} (h : R cx v x)
    {b : Bool} (hb : isNilK kd v = some b) (a : Act) (w : World) : (Op.equal t x (a.eval y)).run P w = .ok b w ∧
      binOp .eql t x (a.eval y) = (do pure (.bool (← Op.equal t x (a.eval y)))) ∧ binOp .neq t x (a.eval y) = (do pure (.bool (!(← Op.equal t x (a.eval y))))) ∧
      ∀ op z, (eqGuard op t z y x (a.eval y)).run P w = .ok () w := by
  refine ⟨?_, ?_⟩
  · rw [run_equal_eq]
    generalize 9999 = dd
    unfold nilKind at hk
    split at hk <;> cases hk
    all_goals
      unfold isNilK at hb
      split at hb <;> first | (rename_i hc; exact absurd hc (by decide)) | skip
    all_goals (first | (cases hb; done) | skip)
    all_goals
      cases h
      all_goals (first | (cases hb) | skip)
      all_goals
        simp only [Act.eval, Op.equalIn, Sem.run_bind, run_underlying hu, Result.andThen_ok, Sem.run_pure, Option.isNone]
  · unfold nilKind at hk
    split at hk <;> cases hk
    all_goals
      unfold isNilK at hb
      split at hb <;> first | (rename_i hc; exact absurd hc (by decide)) | skip
    all_goals (first | (cases hb; done) | skip)
    all_goals
      cases h
      all_goals
        refine ⟨rfl, rfl, fun op z => ?_⟩
        unfold eqGuard
        cases op <;> simp [Act.eval]

theorem ok_eqb {op : BinOp} {neg : Bool} {t u : TypeId} {x y : Operand} (he : o.op = .binOp op t x y u) (hop : op = if neg then .neq else .eql)
    (hu : P.underlying t = some .bool) {x' y' : VOpd} (hx : co x = some x') (hy : co y = some y')
    (hr : evalB call tm (k :: p) m (.eqb neg x' y') = some r) (hi : Inv g m w) (ha : AR D (ctx g m w) tm a) : OpOk P o a g m w (k :: p) r := by
  have h1 := opd_R ha hx
  have h2 := opd_R ha hy
  simp only [evalB] at hr
  split at hr
  · rename_i b1 b2 e1 e2
    rw [e1] at h1; rw [e2] at h2
    cases hex : a.eval x <;> rw [hex] at h1 <;> cases h1
    cases hey : a.eval y <;> rw [hey] at h2 <;> cases h2
    refine .pure hi (x := .bool (if neg then !(b1 == b2) else b1 == b2)) ?_ (Option.some.inj hr).symm (.bool _)
    subst hop
    cases neg <;> simp [execOp, he, hex, hey, eqGuard, binOp, run_eq_bool hu]
  · cases hr

theorem ok_eqi {op : BinOp} {neg : Bool} {kd : Nat} {d : TypeDesc} {t u : TypeId} {x y : Operand} (he : o.op = .binOp op t x y u) (hop : op = if neg then .neq else .eql)
    (hu : P.underlying t = some d) {x' : VOpd} (hx : co x = some x') (hk : nilKind d y = some kd)
    (hr : evalB call tm (k :: p) m (.eqi neg kd x') = some r) (hi : Inv g m w) (ha : AR D (ctx g m w) tm a) : OpOk P o a g m w (k :: p) r := by
  have h1 := opd_R ha hx
  simp only [evalB] at hr
  split at hr
  · rename_i b hb
    obtain ⟨e1, e2, e3, e4⟩ := run_eq_nil hu hk h1 hb a w
    refine .pure hi (x := .bool (if neg then !b else b)) ?_ (Option.some.inj hr).symm (.bool _)
    have hg := e4 op x
    subst hop
    cases neg
    · simp only [Bool.false_eq_true, if_false] at hg ⊢
      simp only [execOp, he, Sem.run_bind, hg, e2, e1, Result.andThen_ok, Bool.false_eq_true, if_false, Sem.run_pure]
    · simp only [if_true] at hg ⊢
      simp only [execOp, he, Sem.run_bind, hg, e3, e1, Result.andThen_ok, if_true, Sem.run_pure]
  · cases hr

end ops
end Go.Ve
end

section
set_option linter.unusedSimpArgs false

/- The engine, part 11: indexes, slicing, lengths. -/
namespace Go.Ve
variable [Syms]
variable {D : Kp}
variable {P : Program} {call : CallFn} {meth : String → List (TypeId × FuncId)}

section ops
variable {o : Oper} {vop : VOp} {tm : List Vl} {k : Nat} {p : Pth} {m : Mem} {r : OR} {g : Gh} {w : World} {a : Act} {c : Nat}

/-- A bound that is passed ends in a run-time panic. -/
theorem rtp_bounds {kd : IntKind} {x y : Int} {code : BoundsCode} (hi : Inv g m w)
    (hrun : (execOp a.eval o).run P w = ((boundsPanic kd x y code : Sem Value).run P w).andThen fun v w => .ok (.value v) w)
    (hr : r = .pan .rt m) : OpOk P o a g m w (k :: p) r := by
  obtain ⟨v, w', h1, h2⟩ := run_bounds (P := P) kd x y code w
  exact .rtp hi (by rw [hrun, h1]; rfl) hr h2 (.inl rfl)

theorem cellsOf_size {t : TypeId} {i : TypeInfo} (h : P.info? t = some i) : P.cellsOf t = i.size := by simp [Program.cellsOf, h]

theorem ok_idxSl {t e : TypeId} {ie : TypeInfo} {x i : Operand} {x' i' : VOpd} (he : o.op = .indexAddr t x i) (hu : P.underlying t = some (.slice e)) (hie : P.info? e = some ie)
    (hx : co x = some x') (hii : co i = some i') (hr : evalB call tm (k :: p) m (.idxSl ie.size x' i') = some r)
    (hi : Inv g m w) (ha : AR D (ctx g m w) tm a) : OpOk P o a g m w (k :: p) r := by
  have h1 := opd_R ha hx
  have h2 := opd_R ha hii
  have hsz := run_sizeOf w hie
  rw [cellsOf_size hie] at hsz
  simp only [evalB] at hr
  split at hr
  · rename_i tok es kd n hq hn
    rw [hq] at h1; rw [hn] at h2
    cases hey : a.eval i <;> rw [hey] at h2 <;> cases h2
    obtain ⟨b, ob, cap, sz, f, hex, h0, h1, h2, h3, h4⟩ := h1.sl_inv
    split at hr
    · rename_i hc
      split at hr
      · rename_i el hel
        split at hr
        · rename_i hcs
          have hmem : el ∈ es := List.mem_of_getElem? hel
          have hsze : sz = ie.size := by rw [← (h1 el hmem).2, hcs]
          subst hsze
          refine .pure hi (x := .pointer (some ⟨b, ob + n.toNat * ie.size + 0, none⟩)) ?_ (Option.some.inj hr).symm
            (.eptr _ 0 b (ob + n.toNat * ie.size) (f n.toNat) (h1 el hmem).1.2 (fun j v hv => h2 _ el j v hel hv) (fun j v hv => h3 _ el j v hel hv))
          simp [execOp, he, hex, hey, Instr.indexAt, asIntOf, run_underlying hu, hc, hsz, add_eq]
        · cases hr
      · cases hr
    · rename_i hc
      refine rtp_bounds (kd := kd) (x := n) (y := es.length) (code := .index) hi ?_ (Option.some.inj hr).symm
      simp [execOp, he, hex, hey, Instr.indexAt, asIntOf, run_underlying hu, hc, hsz]
  · rename_i kd n hq hn
    rw [hq] at h1; rw [hn] at h2
    cases hey : a.eval i <;> rw [hey] at h2 <;> cases h2
    cases hex : a.eval x <;> rw [hex] at h1 <;> cases h1
    refine rtp_bounds (kd := kd) (x := n) (y := 0) (code := .index) hi ?_ (Option.some.inj hr).symm
    simp [execOp, he, hex, hey, Instr.indexAt, asIntOf, run_underlying hu, hsz]
  · rename_i kd n hq hn
    rw [hq] at h1; rw [hn] at h2
    cases hey : a.eval i <;> rw [hey] at h2 <;> cases h2
    cases hex : a.eval x <;> rw [hex] at h1 <;> cases h1
    refine rtp_bounds (kd := kd) (x := n) (y := 0) (code := .index) hi ?_ (Option.some.inj hr).symm
    have : ¬ (0 ≤ n ∧ n < 0) := by omega
    simp [execOp, he, hex, hey, Instr.indexAt, asIntOf, run_underlying hu, hsz, this]
  · cases hr

theorem ok_idxArr {t e : TypeId} {nn : Nat} {ie : TypeInfo} {x i : Operand} {x' i' : VOpd} (he : o.op = .indexAddr t x i) (hu : P.underlying t = some (.array nn e)) (hie : P.info? e = some ie)
    (hx : co x = some x') (hii : co i = some i') (hr : evalB call tm (k :: p) m (.idxArr nn ie.size x' i') = some r)
    (hi : Inv g m w) (ha : AR D (ctx g m w) tm a) : OpOk P o a g m w (k :: p) r := by
  have h1 := opd_R ha hx
  have h2 := opd_R ha hii
  have hsz := run_sizeOf w hie
  rw [cellsOf_size hie] at hsz
  have hrun : ∀ b off kd n, a.eval x = .pointer (some ⟨b, off, none⟩) → a.eval i = .int kd n → 0 ≤ n ∧ n < nn →
      (execOp a.eval o).run P w = .ok (.value (.pointer (some ⟨b, off + n.toNat * ie.size, none⟩))) w := fun b off kd n hex hey hc => by
    simp [execOp, he, hex, hey, Instr.indexAt, asIntOf, run_underlying hu, hc, hsz, add_eq, Instr.sureAddr]
  simp only [evalB] at hr
  split at hr
  · rename_i q off kd n hq hn
    rw [hq] at h1; rw [hn] at h2
    cases hey : a.eval i <;> rw [hey] at h2 <;> cases h2
    cases hex : a.eval x <;> rw [hex] at h1 <;> cases h1
    rename_i b base hb
    split at hr
    · rename_i hc
      refine .pure hi (hrun _ _ _ _ hex hey hc) (Option.some.inj hr).symm ?_
      rw [Nat.add_assoc]; exact .ptr _ _ _ _ hb
    · cases hr
  · rename_i cs off kd n hq hn
    rw [hq] at h1; rw [hn] at h2
    cases hey : a.eval i <;> rw [hey] at h2 <;> cases h2
    cases hex : a.eval x <;> rw [hex] at h1 <;> cases h1
    rename_i b ob f h1 h2 h3
    split at hr
    · rename_i hc
      refine .pure hi (hrun _ _ _ _ hex hey hc) (Option.some.inj hr).symm ?_
      rw [Nat.add_assoc]; exact .eptr _ _ _ _ _ h1 h2 h3
    · cases hr
  · cases hr

theorem ok_idxStr {t : TypeId} {x i : Operand} {x' i' : VOpd} (he : o.op = .index t x i) (hu : P.underlying t = some .string)
    (hx : co x = some x') (hii : co i = some i') (hr : evalB call tm (k :: p) m (.idxStr x' i') = some r)
    (hi : Inv g m w) (ha : AR D (ctx g m w) tm a) : OpOk P o a g m w (k :: p) r := by
  have h1 := opd_R ha hx
  have h2 := opd_R ha hii
  simp only [evalB] at hr
  split at hr
  · rename_i s kd n hq hn
    rw [hq] at h1; rw [hn] at h2
    cases hey : a.eval i <;> rw [hey] at h2 <;> cases h2
    cases hex : a.eval x <;> rw [hex] at h1 <;> cases h1
    split at hr
    · rename_i hc
      split at hr
      · rename_i b hb
        refine .pure hi (x := .int .u8 b.toNat) ?_ (Option.some.inj hr).symm (.int _ _)
        simp [execOp, he, hex, hey, Instr.index, asIntOf, run_underlying hu, hc, ba_get, hb]
      · rename_i hb
        refine rtp_bounds (kd := kd) (x := n) (y := s.length) (code := .index) hi ?_ (Option.some.inj hr).symm
        simp [execOp, he, hex, hey, Instr.index, asIntOf, run_underlying hu, hc, ba_get, hb, ba_size]
    · rename_i hc
      refine rtp_bounds (kd := kd) (x := n) (y := s.length) (code := .index) hi ?_ (Option.some.inj hr).symm
      simp [execOp, he, hex, hey, Instr.index, asIntOf, run_underlying hu, hc, ba_get, ba_size]
  · cases hr

theorem ok_idxVal {t e : TypeId} {nn : Nat} {ag : Bool} {ie : TypeInfo} {x i : Operand} {x' i' : VOpd} (he : o.op = .index t x i) (hu : P.underlying t = some (.array nn e)) (hie : P.info? e = some ie)
    (hag : aggP P e = some ag) (hx : co x = some x') (hii : co i = some i') (hr : evalB call tm (k :: p) m (.idxVal ag nn ie.size x' i') = some r)
    (hi : Inv g m w) (ha : AR D (ctx g m w) tm a) : OpOk P o a g m w (k :: p) r := by
  have h1 := opd_R ha hx
  have h2 := opd_R ha hii
  have hsz := run_sizeOf w hie
  rw [cellsOf_size hie] at hsz
  simp only [evalB] at hr
  split at hr
  · rename_i cs kd n hq hn
    rw [hq] at h1; rw [hn] at h2
    cases hey : a.eval i <;> rw [hey] at h2 <;> cases h2
    cases hex : a.eval x <;> rw [hex] at h1 <;> cases h1
    rename_i xs h2 e' h3
    split at hr
    · rename_i hc
      have key : ∀ v, (if ag then (if n.toNat * ie.size + P.cellsOf e ≤ cs.length then some (Vl.agg (slcL cs (n.toNat * ie.size) (n.toNat * ie.size + P.cellsOf e))) else none) else cs[n.toNat * ie.size]?) = some v →
          r = .ok v m → OpOk P o a g m w (k :: p) r := fun v hv hrv => by
        obtain ⟨z, hz, hrz⟩ := run_part hag ⟨e', h3⟩ h2 hv w
        refine .pure hi ?_ hrv hrz
        simp [execOp, he, hex, hey, Instr.index, asIntOf, run_underlying hu, hc, hsz, hz]
      cases ag with
      | true =>
        simp only [if_true] at hr
        split at hr
        · rename_i hle; exact key _ (by simp only [if_true, cellsOf_size hie]; rw [if_pos hle]) (Option.some.inj hr).symm
        · cases hr
      | false =>
        simp only [Bool.false_eq_true, if_false] at hr
        split at hr
        · rename_i v hv; exact key v (by simpa using hv) (Option.some.inj hr).symm
        · cases hr
    · rename_i hc
      refine rtp_bounds (kd := kd) (x := n) (y := nn) (code := .index) hi ?_ (Option.some.inj hr).symm
      simp [execOp, he, hex, hey, Instr.index, asIntOf, run_underlying hu, hc]
  · cases hr

theorem call1 {c' : Call} {bi : Builtin} {x : Operand} {t : TypeId} (he : o.op = .call c') (hc : c'.callee = .builtin bi) (hargs : c'.args.toList = [x]) (htys : c'.argTypes.toList = [t]) :
    (execOp a.eval o).run P w = (builtin bi #[t] o.type (#[x].map fun | .const _ => true | _ => false) #[a.eval x]).run P w := by
  have e1 : c'.args = #[x] := by rw [← Array.toArray_toList (xs := c'.args), hargs]
  have e2 : c'.argTypes = #[t] := by rw [← Array.toArray_toList (xs := c'.argTypes), htys]
  simp [execOp, he, resolve, hc, e1, e2, invoke]
  rfl

theorem ok_len {c' : Call} {t : TypeId} {str : Bool} {x : Operand} {x' : VOpd} (he : o.op = .call c') (hc : c'.callee = .builtin .len) (hargs : c'.args.toList = [x]) (htys : c'.argTypes.toList = [t])
    (hu : if str then P.underlying t = some .string else ∃ e, P.underlying t = some (.slice e)) (hx : co x = some x') (hr : evalB call tm (k :: p) m (.len str x') = some r)
    (hi : Inv g m w) (ha : AR D (ctx g m w) tm a) : OpOk P o a g m w (k :: p) r := by
  have h1 := opd_R ha hx
  have hrun : ∀ X n, a.eval x = X → (Builtin.len_ #[t] o.type #[X]).run P w = .ok (.int .i64 n) w → (execOp a.eval o).run P w = .ok (.value (.int .i64 n)) w := fun X n hX hn => by
    subst hX
    rw [call1 he hc hargs htys]
    simp [builtin, hn]
  simp only [evalB] at hr
  cases str with
  | true =>
    simp only [if_true] at hr hu
    split at hr
    · rename_i s hq
      rw [hq] at h1
      cases hex : a.eval x <;> rw [hex] at h1 <;> cases h1
      exact .pure hi (hrun _ _ hex (by simp [Builtin.len_, run_underlying hu, goInt, ba_size])) (Option.some.inj hr).symm (.int _ _)
    · cases hr
  | false =>
    simp only [Bool.false_eq_true, if_false] at hr hu
    obtain ⟨e, hu⟩ := hu
    split at hr
    · rename_i tok es hq
      rw [hq] at h1
      obtain ⟨b, ob, cap, sz, f, hex, _⟩ := h1.sl_inv
      exact .pure hi (hrun _ _ hex (by simp [Builtin.len_, run_underlying hu, goInt])) (Option.some.inj hr).symm (.int _ _)
    · rename_i hq
      rw [hq] at h1
      cases hex : a.eval x <;> rw [hex] at h1 <;> cases h1
      exact .pure hi (hrun _ _ hex (by simp [Builtin.len_, run_underlying hu, goInt])) (Option.some.inj hr).symm (.int _ _)
    · rename_i hq
      rw [hq] at h1
      cases hex : a.eval x <;> rw [hex] at h1 <;> cases h1
      exact .pure hi (hrun _ _ hex (by simp [Builtin.len_, run_underlying hu, goInt])) (Option.some.inj hr).symm (.int _ _)
    · cases hr

theorem call2 {c' : Call} {bi : Builtin} {x y : Operand} (he : o.op = .call c') (hc : c'.callee = .builtin bi) (hargs : c'.args.toList = [x, y]) :
    (execOp a.eval o).run P w = (builtin bi c'.argTypes o.type (#[x, y].map fun | .const _ => true | _ => false) #[a.eval x, a.eval y]).run P w := by
  have e1 : c'.args = #[x, y] := by rw [← Array.toArray_toList (xs := c'.args), hargs]
  simp [execOp, he, resolve, hc, e1, invoke]
  rfl

theorem ok_mxn {c' : Call} {mx : Bool} {x y : Operand} {x' y' : VOpd} (he : o.op = .call c') (hc : c'.callee = .builtin (if mx then .max else .min)) (hargs : c'.args.toList = [x, y])
    (hx : co x = some x') (hy : co y = some y') (hr : evalB call tm (k :: p) m (.mxn mx x' y') = some r)
    (hi : Inv g m w) (ha : AR D (ctx g m w) tm a) : OpOk P o a g m w (k :: p) r := by
  have h1 := opd_R ha hx
  have h2 := opd_R ha hy
  simp only [evalB] at hr
  split at hr
  · rename_i k1 n1 k2 n2 hq1 hq2
    rw [hq1] at h1; rw [hq2] at h2
    cases hex : a.eval x <;> rw [hex] at h1 <;> cases h1
    cases hey : a.eval y <;> rw [hey] at h2 <;> cases h2
    refine .pure hi ?_ (Option.some.inj hr).symm (.int _ _)
    rw [call2 he hc hargs, hex, hey]
    cases mx <;> simp [builtin, Builtin.max_, Builtin.min_, Builtin.max2, Builtin.min2]
  · cases hr

/-- A bound of a slice expression. -/
theorem run_sliceBound (x : Value) (y : Nat) (code : BoundsCode) {cx : Ctx} {v : Vl} (h : R cx v x) {n : Int} (hn : asI v = some n) (w : World) :
    (0 ≤ n ∧ n ≤ y → (Instr.sliceBound x y code).run P w = .ok n.toNat w) ∧
    (¬ (0 ≤ n ∧ n ≤ y) → ∃ z w', (Instr.sliceBound x y code).run P w = .halt (.panic (.iface P.rt.boundsError z)) w' ∧ Hp w' w) := by
  cases v <;> simp [asI] at hn
  subst hn
  cases h
  rename_i kd n
  refine ⟨fun h => by simp [Instr.sliceBound, asIntOf, h], fun h => ?_⟩
  obtain ⟨z, w', h1, h2⟩ : ∃ v w', (boundsPanic kd n y code : Sem Nat).run P w = .halt (.panic (.iface P.rt.boundsError v)) w' ∧ Hp w' w := by
    unfold boundsPanic
    split
    · simp [run_choose, runtimePanic, Question.forced]
      exact ⟨_, _, ⟨rfl, rfl⟩, rfl, rfl, rfl⟩
    · simp [runtimePanic]
      exact ⟨_, _, ⟨rfl, rfl⟩, rfl, rfl, rfl⟩
  exact ⟨z, w', by simp [Instr.sliceBound, asIntOf, h, h1], h2⟩

end ops
end Go.Ve
end

section
set_option linter.unusedSimpArgs false

/- The engine, part 12: slicing, ranges over strings, calls. -/
namespace Go.Ve
variable [Syms]
variable {D : Kp}
variable {P : Program} {call : CallFn} {meth : String → List (TypeId × FuncId)}

section ops
variable {o : Oper} {vop : VOp} {tm : List Vl} {k : Nat} {p : Pth} {m : Mem} {r : OR} {g : Gh} {w : World} {a : Act} {c : Nat}

theorem coO_R {cx : Ctx} (ha : AR D cx tm a) {x : Option Operand} {y : Option VOpd} (h : coO x = some y) {d n : Int}
    (hn : bnd tm y d = some n) :
    (∃ u z, x = some u ∧ R cx z (a.eval u) ∧ asI z = some n) ∨ (x = none ∧ d = n) := by
  cases x with
  | none => simp [coO] at h; subst h; simp [bnd] at hn; exact .inr ⟨rfl, hn⟩
  | some u =>
    simp only [coO] at h
    split at h
    · rename_i y' hy; cases h; exact .inl ⟨u, _, rfl, opd_R ha hy, hn⟩
    · cases h

/-- The bounds of a slice expression without a third index. -/
theorem run_sliceBounds {cx : Ctx} (ha : AR D cx tm a) {isS : Bool} {len cap : Nat} (hcap : len ≤ cap) {lo hi : Option Operand} {lo' hi' : Option VOpd} (h1 : coO lo = some lo') (h2 : coO hi = some hi')
    {l h : Int} (hl : bnd tm lo' 0 = some l) (hh : bnd tm hi' len = some h) (w : World) :
    (0 ≤ h ∧ h ≤ len ∧ 0 ≤ l ∧ l ≤ h → (Instr.sliceBounds isS len cap (lo.map a.eval) (hi.map a.eval) none).run P w = .ok (l.toNat, h.toNat, cap) w) ∧
    (h < 0 ∨ (h ≤ len ∧ (l < 0 ∨ h < l)) ∨ (len = cap ∧ ¬ (0 ≤ h ∧ h ≤ len ∧ 0 ≤ l ∧ l ≤ h)) →
      ∃ z w', (Instr.sliceBounds isS len cap (lo.map a.eval) (hi.map a.eval) none).run P w = .halt (.panic (.iface P.rt.boundsError z)) w' ∧ Hp w' w) := by
  have hH := coO_R ha h2 hh
  have hL := coO_R ha h1 hl
  have hb1 : ∀ (y : Nat) (cd : BoundsCode), 0 ≤ l ∧ l ≤ y → (lo = none ∧ l = 0) ∨ ∃ u, lo = some u ∧ (Instr.sliceBound (a.eval u) y cd).run P w = .ok l.toNat w := fun y cd hc => by
    rcases hL with ⟨u, z, rfl, h3, h4⟩ | ⟨rfl, h4⟩
    · exact .inr ⟨u, rfl, (run_sliceBound _ y cd h3 h4 w).1 hc⟩
    · exact .inl ⟨rfl, h4.symm⟩
  have hb2 : ∀ (y : Nat) (cd : BoundsCode), ¬ (0 ≤ l ∧ l ≤ y) → ∃ u z w', lo = some u ∧ (Instr.sliceBound (a.eval u) y cd).run P w = .halt (.panic (.iface P.rt.boundsError z)) w' ∧ Hp w' w := fun y cd hc => by
    rcases hL with ⟨u, z, rfl, h3, h4⟩ | ⟨rfl, h4⟩
    · obtain ⟨z', w', h5, h6⟩ := (run_sliceBound (P := P) _ y cd h3 h4 w).2 hc
      exact ⟨u, z', w', rfl, h5, h6⟩
    · exact absurd ⟨by omega, by omega⟩ hc
  rcases hH with ⟨u, z, rfl, h3, h4⟩ | ⟨rfl, h4⟩
  · have e1 := fun hc => (run_sliceBound (P := P) _ cap (if isS = true then .sliceAcap else .sliceAlen) h3 h4 w).1 hc
    constructor
    · intro ⟨a1, a2, a3, a4⟩
      have e1 := e1 ⟨a1, by omega⟩
      rcases hb1 h.toNat .sliceB ⟨a3, by omega⟩ with ⟨rfl, rfl⟩ | ⟨u2, rfl, e2⟩
      · simp [Instr.sliceBounds, e1]
      · simp [Instr.sliceBounds, e1, e2]
    · intro hc
      by_cases hb : 0 ≤ h ∧ h ≤ cap
      · have e1 := e1 hb
        obtain ⟨u2, z2, w', rfl, e2, e3⟩ := hb2 h.toNat .sliceB (by omega)
        exact ⟨z2, w', by simp [Instr.sliceBounds, e1, e2], e3⟩
      · obtain ⟨z2, w', e2, e3⟩ := (run_sliceBound (P := P) _ cap (if isS = true then .sliceAcap else .sliceAlen) h3 h4 w).2 hb
        exact ⟨z2, w', by simp [Instr.sliceBounds, e2], e3⟩
  · constructor
    · intro ⟨a1, a2, a3, a4⟩
      have : h.toNat = len := by omega
      rcases hb1 len .sliceB ⟨a3, by omega⟩ with ⟨rfl, rfl⟩ | ⟨u2, rfl, e2⟩
      · simp [Instr.sliceBounds, this]
      · simp [Instr.sliceBounds, e2, this]
    · intro hc
      obtain ⟨u2, z2, w', rfl, e2, e3⟩ := hb2 len .sliceB (by omega)
      exact ⟨z2, w', by simp [Instr.sliceBounds, e2], e3⟩

theorem ok_slcStr {t : TypeId} {x : Operand} {lo hi : Option Operand} {x' : VOpd} {lo' hi' : Option VOpd} (he : o.op = .slice t x lo hi none) (hu : P.underlying t = some .string)
    (hx : co x = some x') (h1 : coO lo = some lo') (h2 : coO hi = some hi') (hr : evalB call tm (k :: p) m (.slcStr x' lo' hi') = some r)
    (hinv : Inv g m w) (ha : AR D (ctx g m w) tm a) : OpOk P o a g m w (k :: p) r := by
  have h3 := opd_R ha hx
  simp only [evalB] at hr
  split at hr
  · rename_i s l hq hl
    rw [hq] at h3
    cases hex : a.eval x <;> rw [hex] at h3 <;> cases h3
    split at hr
    · rename_i h hh
      obtain ⟨e1, e2⟩ := run_sliceBounds (P := P) ha (isS := false) (Nat.le_refl s.length) h1 h2 hl hh w
      split at hr
      · rename_i hc
        refine .pure hinv (x := .string ⟨(slcL s l.toNat h.toNat).toArray⟩) ?_ (Option.some.inj hr).symm (.str _)
        simp [execOp, he, hex, Instr.sliceAt, Instr.slice, run_underlying hu, ba_size, e1 hc, ba_extract]
      · rename_i hc
        obtain ⟨z, w', e3, e4⟩ := e2 (.inr (.inr ⟨rfl, hc⟩))
        refine .rtp hinv (t := P.rt.boundsError) (x := z) (w' := w') ?_ (Option.some.inj hr).symm e4 (.inl rfl)
        simp [execOp, he, hex, Instr.sliceAt, Instr.slice, run_underlying hu, ba_size, e3]
    · cases hr
  · cases hr

theorem sized_get {size sz : Nat} {es : List Vl} (h : sized size es = true) (h1 : ∀ e ∈ es, OkE e ∧ e.cells.length = sz) : es = [] ∨ sz = size := by
  cases es with
  | nil => exact .inl rfl
  | cons e l => right; simp [sized] at h; rw [← h, (h1 e (List.mem_cons_self)).2]

theorem ok_slcSl {t e : TypeId} {ie : TypeInfo} {x : Operand} {lo hi : Option Operand} {x' : VOpd} {lo' hi' : Option VOpd} (he : o.op = .slice t x lo hi none) (hu : P.underlying t = some (.slice e))
    (hie : P.info? e = some ie)
    (hx : co x = some x') (h1 : coO lo = some lo') (h2 : coO hi = some hi') (hr : evalB call tm (k :: p) m (.slcSl ie.size x' lo' hi') = some r)
    (hinv : Inv g m w) (ha : AR D (ctx g m w) tm a) : OpOk P o a g m w (k :: p) r := by
  have h3 := opd_R ha hx
  have hsz := run_sizeOf w hie
  rw [cellsOf_size hie] at hsz
  have none' : ∀ {av : Option Addr} {v : Vl}, a.eval x = .slice av 0 0 → (av = none ∨ ∃ b o, av = some ⟨b, o, none⟩) → ∀ {l h : Int}, bnd tm lo' 0 = some l → bnd tm hi' 0 = some h →
      (if h = 0 ∧ l = 0 then some (OR.ok v m) else some (.pan .rt m)) = some r → (R (ctx g m w) v (.slice av 0 0)) → OpOk P o a g m w (k :: p) r := fun {av v} hex hav {l h} hl hh hr hv => by
    obtain ⟨e1, e2⟩ := run_sliceBounds (P := P) ha (isS := true) (Nat.le_refl 0) h1 h2 hl hh w
    split at hr
    · rename_i hc
      refine .pure hinv (x := .slice av 0 0) ?_ (Option.some.inj hr).symm hv
      have := e1 (by simp [hc.1, hc.2])
      simp [execOp, he, hex, Instr.sliceAt, Instr.slice, run_underlying hu, this, hc.1, hc.2, hsz]
    · rename_i hc
      obtain ⟨z, w', e3, e4⟩ := e2 (.inr (.inr ⟨rfl, by simp; omega⟩))
      refine .rtp hinv (t := P.rt.boundsError) (x := z) (w' := w') ?_ (Option.some.inj hr).symm e4 (.inl rfl)
      simp [execOp, he, hex, Instr.sliceAt, Instr.slice, run_underlying hu, e3]
  simp only [evalB] at hr
  split at hr
  · rename_i tok es l hq hl
    rw [hq] at h3
    obtain ⟨b, ob, cap, sz, f, hex, g0, g1, g2, g3, g4⟩ := h3.sl_inv
    split at hr
    · rename_i h hh
      obtain ⟨e1, e2⟩ := run_sliceBounds (P := P) ha (isS := true) g0 h1 h2 hl hh w
      split at hr
      · rename_i hc
        split at hr
        · rename_i hsd
          have hrun := e1 hc
          have hlen : (slcL es l.toNat h.toNat).length = h.toNat - l.toNat := len_slcL _ _ _ (by omega)
          have hlu : (if cap = l.toNat then some (⟨b, ob, none⟩ : Addr) else (some (⟨b, ob, none⟩ : Addr)).map (·.add (l.toNat * ie.size))) = some ⟨b, if cap = l.toNat then ob else ob + l.toNat * ie.size, none⟩ := by
            split <;> simp [add_eq]
          refine .pure hinv (x := .slice (some ⟨b, if cap = l.toNat then ob else ob + l.toNat * ie.size, none⟩) (h.toNat - l.toNat) (cap - l.toNat)) ?_ (Option.some.inj hr).symm ?_
          · simp [execOp, he, hex, Instr.sliceAt, Instr.slice, run_underlying hu, hrun, hsz, add_eq]
            split <;> rfl
          · rw [← hlen]
            rcases sized_get hsd g1 with hnil | hsz'
            · subst hnil
              have : slcL ([] : List Vl) l.toNat h.toNat = [] := by simp [slcL]
              rw [this]
              have htk : (if h = ([] : List Vl).length ∧ l < h then tok else []) = [] := if_neg (by simp at hc ⊢; omega)
              rw [htk]
              exact .sl [] [] b _ _ sz f (by simp) (by simp) (by simp) (by simp) (.inl rfl)
            · subst hsz'; generalize ie.size = sz at *
              by_cases hcl : cap = l.toNat
              · have : slcL es l.toNat h.toNat = [] := List.eq_nil_of_length_eq_zero (by rw [hlen]; omega)
                rw [this]
                have htk : (if h = es.length ∧ l < h then tok else []) = [] := if_neg (by omega)
                rw [htk]
                exact .sl [] [] b _ _ sz f (by simp) (by simp) (by simp) (by simp) (.inl rfl)
              · rw [if_neg hcl]
                have hget : ∀ (i : Nat) (e : Vl), (slcL es l.toNat h.toNat)[i]? = some e → es[l.toNat + i]? = some e := fun i e hi => by
                  rw [get_slcL] at hi; split at hi
                  · exact hi
                  · cases hi
                refine .sl _ _ b _ _ sz (fun i j => f (l.toNat + i) j) (by rw [hlen]; omega) (fun e he' => ?_) (fun i e j v hi hv => ?_) (fun i e j v hi hv => g3 _ e j v (hget i e hi) hv) ?_
                · exact g1 e (by unfold slcL at he'; exact List.mem_of_mem_take (List.mem_of_mem_drop he'))
                · have := g2 _ e j v (hget i e hi) hv
                  rwa [show ob + (l.toNat + i) * sz + j = ob + l.toNat * sz + i * sz + j by rw [Nat.add_mul]; omega] at this
                · split
                  · rename_i hhl
                    rcases g4 with g4 | g4
                    · exact .inl g4
                    · right
                      rw [g4, hlen]
                      have e5 : ob + es.length * sz = ob + l.toNat * sz + (h.toNat - l.toNat) * sz := by
                        rw [Nat.add_assoc, ← Nat.add_mul]; congr 2; omega
                      have e6 : ob + cap * sz = ob + l.toNat * sz + (cap - l.toNat) * sz := by
                        rw [Nat.add_assoc, ← Nat.add_mul]; congr 2; omega
                      rw [e5, e6]
                  · exact .inl rfl
        · cases hr
      · rename_i hc
        split at hr
        · rename_i hc2
          obtain ⟨z, w', e3, e4⟩ := e2 (by rcases hc2 with h | h; exact .inl h; exact .inr (.inl h))
          refine .rtp hinv (t := P.rt.boundsError) (x := z) (w' := w') ?_ (Option.some.inj hr).symm e4 (.inl rfl)
          simp [execOp, he, hex, Instr.sliceAt, Instr.slice, run_underlying hu, e3]
        · cases hr
    · cases hr
  · rename_i l hq hl
    rw [hq] at h3
    cases hex : a.eval x <;> rw [hex] at h3 <;> cases h3
    split at hr
    · rename_i h hh
      exact none' hex (.inl rfl) hl hh hr .nils
    · cases hr
  · rename_i l hq hl
    rw [hq] at h3
    cases hex : a.eval x <;> rw [hex] at h3 <;> cases h3
    split at hr
    · rename_i h hh
      exact none' hex (.inr ⟨_, _, rfl⟩) hl hh hr (.sle _ _)
    · cases hr
  · cases hr

theorem ok_clip {t e : TypeId} {ie : TypeInfo} {x hi mx : Operand} {x' hi' mx' : VOpd} (he : o.op = .slice t x none (some hi) (some mx)) (hu : P.underlying t = some (.slice e)) (hie : P.info? e = some ie)
    (hx : co x = some x') (h1 : co hi = some hi') (h2 : co mx = some mx') (hr : evalB call tm (k :: p) m (.clip x' hi' mx') = some r) (hinv : Inv g m w) (ha : AR D (ctx g m w) tm a) : OpOk P o a g m w (k :: p) r := by
  have h3 := opd_R ha hx
  have h4 := opd_R ha h1
  have h5 := opd_R ha h2
  have hsz := run_sizeOf w hie
  rw [cellsOf_size hie] at hsz
  have run : ∀ {av : Option Addr} {n cap : Nat} {v v' : Vl}, a.eval x = .slice av n cap → n ≤ cap → R (ctx g m w) v (a.eval hi) → asI v = some (n : Int) → R (ctx g m w) v' (a.eval mx) → asI v' = some (n : Int) →
      (execOp a.eval o).run P w = .ok (.value (.slice (if n = 0 then av else av.map (·.add 0)) n n)) w := fun {av n cap v v'} hex hc r1 r2 r3 r4 => by
    have e1 := (run_sliceBound (P := P) _ cap .slice3Acap r3 r4 w).1 ⟨by omega, by omega⟩
    have e2 := (run_sliceBound (P := P) _ n .slice3B r1 r2 w).1 ⟨by omega, by omega⟩
    simp only [Int.toNat_natCast] at e1 e2
    simp [execOp, he, hex, Instr.sliceAt, Instr.slice, Instr.sliceBounds, run_underlying hu, e1, e2, hsz]
  simp only [evalB] at hr
  split at hr
  · rename_i tok es k1 h k2 n q1 q2 q3
    rw [q1] at h3; rw [q2] at h4; rw [q3] at h5
    split at hr
    · rename_i hc
      obtain ⟨rfl, rfl⟩ := hc
      obtain ⟨b, ob, cap, sz, f, hex, g0, g1, g2, g3, g4⟩ := h3.sl_inv
      have := run hex g0 h4 rfl h5 rfl
      refine .pure hinv (x := .slice (some ⟨b, ob, none⟩) es.length es.length) ?_ (Option.some.inj hr).symm (.sl [] es b ob _ sz f (Nat.le_refl _) g1 g2 g3 (.inl rfl))
      rw [this]
      split <;> simp [add_eq]
    · cases hr
  · rename_i k1 h k2 n q1 q2 q3
    rw [q1] at h3; rw [q2] at h4; rw [q3] at h5
    split at hr
    · rename_i hc
      obtain ⟨rfl, rfl⟩ := hc
      cases hex : a.eval x <;> rw [hex] at h3 <;> cases h3
      have := run hex (Nat.le_refl 0) h4 rfl h5 rfl
      exact .pure hinv (x := .slice none 0 0) (by rw [this]; rfl) (Option.some.inj hr).symm .nils
    · cases hr
  · rename_i k1 h k2 n q1 q2 q3
    rw [q1] at h3; rw [q2] at h4; rw [q3] at h5
    split at hr
    · rename_i hc
      obtain ⟨rfl, rfl⟩ := hc
      cases hex : a.eval x <;> rw [hex] at h3 <;> cases h3
      have := run hex (Nat.le_refl 0) h4 rfl h5 rfl
      exact .pure hinv (x := .slice (some _) 0 0) (by rw [this]; rfl) (Option.some.inj hr).symm (.sle _ _)
    · cases hr
  · cases hr

end ops
end Go.Ve
end

section
set_option linter.unusedSimpArgs false

/- The engine, part 13: ranges over strings, slices and structs that are built, appends. -/
namespace Go.Ve
variable [Syms]
variable {D : Kp}
variable {P : Program} {call : CallFn} {meth : String → List (TypeId × FuncId)}

section ops
variable {o : Oper} {vop : VOp} {tm : List Vl} {k : Nat} {p : Pth} {m : Mem} {r : OR} {g : Gh} {w : World} {a : Act} {c : Nat}

theorem ok_rng {t : TypeId} {x : Operand} {x' : VOpd} (he : o.op = .range t x) (hu : P.underlying t = some .string) (hx : co x = some x')
    (hr : evalB call tm (k :: p) m (.rng x') = some r) (hi : Inv g m w) (hf : FreshAt g (k :: p)) (ha : AR D (ctx g m w) tm a) : OpOk P o a g m w (k :: p) r := by
  have h1 := opd_R ha hx
  simp only [evalB] at hr
  split at hr
  · rename_i s hq
    rw [hq] at h1
    cases hex : a.eval x <;> rw [hex] at h1 <;> cases h1
    obtain ⟨g', e1, e2, e3, e4⟩ := hi.alloc hf.here.1 (.stringIter ⟨s.toArray⟩ 0) (.iter s 0) fun g' m' hev hb => ⟨w.heap.size, hb, by
      show (w.heap.push _)[w.heap.size]? = _
      simp⟩
    refine .val (x := .pointer (some ⟨w.heap.size, 0, none⟩)) ?_ (Option.some.inj hr).symm e1 e2 e3 (.ptr _ 0 _ 0 e4)
    simp [execOp, he, hex, Instr.range, run_underlying hu]
  · cases hr

/-- An iterator goes on. -/
theorem Inv.iter {q : Pth} {s : List UInt8} {pos pos' : Nat} (h : Inv g m w) (hp : (q, .iter s pos) ∈ m.bx) {b : Nat} (hb : g.bx q = some (b, 0)) :
    Inv g { m with bx := update q (.iter s pos') m.bx } { w with heap := w.heap.setIfInBounds b (.stringIter ⟨s.toArray⟩ pos') } ∧
    Ev g m w g { m with bx := update q (.iter s pos') m.bx } { w with heap := w.heap.setIfInBounds b (.stringIter ⟨s.toArray⟩ pos') } := by
  obtain ⟨b', hb', hh⟩ := h.box q _ hp
  rw [hb] at hb'; simp at hb'; subst hb'
  have hlt := heap_lt hh
  generalize hw' : ({ w with heap := w.heap.setIfInBounds b (.stringIter ⟨s.toArray⟩ pos') } : World) = w'
  have hheap : w'.heap = w.heap.setIfInBounds b (.stringIter ⟨s.toArray⟩ pos') := by rw [← hw']
  have hget : ∀ i, w'.heap[i]? = if b = i then some (.stringIter ⟨s.toArray⟩ pos') else w.heap[i]? := fun i => by
    rw [hheap, Array.getElem?_setIfInBounds]
    split
    · rename_i e; subst e; simp [hlt]
    · rfl
  have hsz : w'.heap.size = w.heap.size := by rw [hheap]; simp
  have hc : ∀ x, w'.cell? x = w.cell? x := fun x => by
    obtain ⟨xb, xo, xs⟩ := x
    simp only [World.cell?, hget]
    by_cases e : b = xb
    · subst e; rw [if_pos rfl, hh]
    · rw [if_neg e]
  have hz : ∀ x, w'.frozen? x = w.frozen? x := fun x => by
    obtain ⟨xb, xo, xs⟩ := x
    simp only [World.frozen?, hget]
    by_cases e : b = xb
    · subst e; rw [if_pos rfl, hh]
    · rw [if_neg e]
  generalize hm' : ({ m with bx := update q (.iter s pos') m.bx } : Mem) = m'
  have hbx' : m'.bx = update q (.iter s pos') m.bx := by rw [← hm']
  have htk' : m'.tk = m.tk := by rw [← hm']
  have how : ∀ k b' i, Ow g m' k b' i → Ow g m k b' i := fun k b' i hk => by
    obtain ⟨sd, q'⟩ := k
    cases sd with
    | false =>
      obtain ⟨ob, hq, ho⟩ := hk
      rw [hbx'] at hq
      rcases update_mem h.keys hq with ⟨rfl, rfl, _⟩ | ⟨hne, hq⟩
      · exact ⟨_, hp, ho⟩
      · exact ⟨ob, hq, ho⟩
    | true => simpa only [Ow, htk'] using hk
  have hev : Ev g m w g m' w' := ⟨fun _ _ h => h, fun _ _ h => h, by rw [hsz]; exact Nat.le_refl _, fun b' i _ hm => hm.imp (fun ⟨k, hk⟩ => ⟨k, how k b' i hk⟩) id, fun _ _ _ _ => hc _,
    fun b' => ⟨Iff.rfl, fun hr _ => by rw [hget, if_neg]; intro e; exact h.rs.1 (false, q) b 0 ⟨_, hp, hb⟩ (by rw [e]; exact hr)⟩, by rw [← hw'], by rw [← hw']⟩
  refine ⟨⟨fun q' ob hq => ?_, by rw [hbx', update_keys]; exact h.keys, by rw [htk']; exact h.toks, fun t ht => ?_, fun k k' b' i hk hk' => h.dis k k' b' i (how _ _ _ hk) (how _ _ _ hk'),
    fun k b' i hk => h.rs.1 k b' i (how _ _ _ hk), fun b' hr => by rw [hsz]; exact h.rs.2 b' hr⟩, hev⟩
  · rw [hbx'] at hq
    rcases update_mem h.keys hq with ⟨rfl, rfl, _⟩ | ⟨hne, hq⟩
    · exact ⟨b, hb, by rw [hget]; simp⟩
    · have hbk := h.box q' ob hq
      cases ob with
      | cells ver cs =>
        obtain ⟨b', base, e1, e2, e3, f, e4⟩ := hbk
        refine ⟨b', base, e1, by rw [hsz]; exact e2, e3, f, fun j v hv => ?_⟩
        rw [hc, hz]
        exact ⟨(e4 j v hv).1, hev.toR (e4 j v hv).2.1, (e4 j v hv).2.2⟩
      | iter s' pos'' =>
        obtain ⟨b', e1, e2⟩ := hbk
        refine ⟨b', e1, ?_⟩
        rw [hget]
        split
        · rename_i e
          subst e
          have := h.dis (false, q') (false, q) b 0 ⟨_, hq, e1⟩ ⟨_, hp, hb⟩
          exact absurd (Prod.mk.inj this).2 hne
        · exact e2
      | mp =>
        obtain ⟨b', e1, e2⟩ := hbk
        refine ⟨b', e1, ?_⟩
        rw [hget]
        split
        · rename_i e
          subst e
          have := h.dis (false, q') (false, q) b 0 ⟨_, hq, e1⟩ ⟨_, hp, hb⟩
          exact absurd (Prod.mk.inj this).2 hne
        · exact e2
  · rw [htk'] at ht
    obtain ⟨e1, b', lo, hi, e2, e3⟩ := h.tok t ht
    exact ⟨e1, b', lo, hi, e2, fun i h1 h2 => by rw [hc, hz]; exact e3 i h1 h2⟩

theorem two_R {cx : Ctx} {v u : Vl} {x y : Value} (h : R cx v x) (h' : R cx u y) : ∀ (j : Nat) (a : Vl) (b : Value), [v, u][j]? = some a → #[x, y][j]? = some b → R cx a b := fun j a b ha hb => by
  match j, ha, hb with
  | 0, ha, hb => simp at ha hb; subst ha; subst hb; exact h
  | 1, ha, hb => simp at ha hb; subst ha; subst hb; exact h'
  | j + 2, ha, hb => simp at ha

theorem three_R {cx : Ctx} {v u t : Vl} {x y z : Value} (h : R cx v x) (h' : R cx u y) (h'' : R cx t z) :
    ∀ (j : Nat) (a : Vl) (b : Value), [v, u, t][j]? = some a → #[x, y, z][j]? = some b → R cx a b := fun j a b ha hb => by
  match j, ha, hb with
  | 0, ha, hb => simp at ha hb; subst ha; subst hb; exact h
  | 1, ha, hb => simp at ha hb; subst ha; subst hb; exact h'
  | 2, ha, hb => simp at ha hb; subst ha; subst hb; exact h''
  | j + 3, ha, hb => simp at ha

theorem ok_nxt {x : Operand} {x' : VOpd} (he : o.op = .next x true) (hx : co x = some x')
    (hr : evalB call tm (k :: p) m (.nxt x') = some r) (hi : Inv g m w) (ha : AR D (ctx g m w) tm a) : OpOk P o a g m w (k :: p) r := by
  have h1 := opd_R ha hx
  simp only [evalB] at hr
  split at hr
  · rename_i q hq
    rw [hq] at h1
    cases hex : a.eval x <;> rw [hex] at h1 <;> cases h1
    rename_i b base hb
    split at hr
    · rename_i s pos hlk
      have hmem := lookup_mem hlk
      obtain ⟨b', hb', hh⟩ := hi.box q _ hmem
      have hb : g.bx q = some (b, base) := hb
      rw [hb] at hb'; simp at hb'; obtain ⟨rfl, rfl⟩ := hb'
      have hgo : ∀ {α : Type} (kk : Obj → Sem α), (getObj b >>= kk).run P w = (kk (.stringIter ⟨s.toArray⟩ pos)).run P w := fun kk => by
        simp only [Sem.run_bind, getObj, Sem.run, hh, Result.andThen_ok, Sem.run_pure']
      split at hr
      · rename_i hlt
        obtain ⟨e1, e2⟩ := hi.iter (pos' := pos + (Utf8.decode ⟨s.toArray⟩ pos).2) hmem hb
        refine .val (x := .tuple #[.bool true, .int .i64 pos, .int .i32 (Utf8.decode ⟨s.toArray⟩ pos).1]) ?_ (Option.some.inj hr).symm e2 e1 (NewAt.refl _ _)
          (.tup _ _ rfl (three_R (.bool _) (.int _ _) (.int _ _)))
        have hset : (setObj b (.stringIter ⟨s.toArray⟩ (pos + (Utf8.decode ⟨s.toArray⟩ pos).2))).run P w = .ok () { w with heap := w.heap.setIfInBounds b (.stringIter ⟨s.toArray⟩ (pos + (Utf8.decode ⟨s.toArray⟩ pos).2)) } := by
          simp only [setObj, Sem.run, hh]
        simp only [execOp, he, hex, Instr.next, Nat.add_zero]
        rw [Sem.run_bind, hgo]
        simp only [ba_size, hlt, if_true, Sem.run_bind, hset, Result.andThen_ok, Sem.run_pure, goInt]
      · rename_i hlt
        refine .pure hi (x := .tuple #[.bool false]) ?_ (Option.some.inj hr).symm (.tup _ _ rfl fun j a b ha hb => ?_)
        · simp only [execOp, he, hex, Instr.next, Nat.add_zero]
          rw [Sem.run_bind, hgo]
          simp only [ba_size, hlt, if_false, Sem.run_pure, Result.andThen_ok]
        · cases j with
          | zero => simp at ha hb; subst ha; subst hb; exact .bool _
          | succ j => simp at ha
    · cases hr
  · cases hr

end ops
end Go.Ve
end

section
set_option linter.unusedSimpArgs false

/- The engine, part 14: calls; slices and structs that are built. -/
namespace Go.Ve
variable [Syms]
variable {D : Kp}
variable {P : Program} {call : CallFn} {meth : String → List (TypeId × FuncId)}

section ops
variable {o : Oper} {vop : VOp} {tm : List Vl} {k : Nat} {p : Pth} {m : Mem} {r : OR} {g : Gh} {w : World} {a : Act} {c : Nat}

theorem run_callFunc {f : FuncId} {fn : Func} (h1 : P.funcs[f]? = some fn) (h2 : fn.body.isNone = false) (h3 : (fn.name == "runtime.NumGoroutine") = false) (xs : Array Value) (w : World) :
    (callFunc f xs).run P w = .ok (.enter f xs) w := by
  simp only [callFunc, Sem.run_bind, run_program, Result.andThen_ok, h1, h3, h2, Bool.false_eq_true, if_false, Sem.run_pure]

theorem Rl.append {cx : Ctx} {us vs : List Vl} {xs ys : Array Value} (h : Rl cx us xs) (h' : Rl cx vs ys) : Rl cx (us ++ vs) (xs ++ ys) := by
  refine ⟨by simp [h.1, h'.1], fun j v x hv hx => ?_⟩
  rw [List.getElem?_append] at hv
  rw [Array.getElem?_append] at hx
  rw [h.1] at hv
  split at hv
  · rename_i hj; rw [if_pos hj] at hx; exact h.2 j v x hv hx
  · rename_i hj; rw [if_neg hj] at hx; exact h'.2 _ v x hv hx

theorem Rl.cons {cx : Ctx} {v : Vl} {x : Value} {vs : List Vl} {ys : Array Value} (h : R cx v x) (h' : Rl cx vs ys) : Rl cx (v :: vs) (#[x] ++ ys) := by
  have : Rl cx [v] #[x] := ⟨rfl, fun j u y hu hy => by
    cases j with
    | zero => simp at hu hy; subst hu; subst hy; exact h
    | succ j => simp at hu⟩
  exact this.append h'

theorem args_R {cx : Ctx} (ha : AR D cx tm a) {xs : Array Operand} {ys : List VOpd} (h : cos xs.toList = some ys) : Rl cx (ys.map (opd tm)) (xs.map a.eval) := by
  have := opds_R ha h
  have e : (xs.toList.map a.eval).toArray = xs.map a.eval := by rw [← Array.toList_map, Array.toArray_toList]
  rwa [e] at this

theorem ok_callF {c' : Call} {f : FuncId} {args : List VOpd} (he : o.op = .call c') (hcl : c'.callee = .value (.func f)) (hargs : cos c'.args.toList = some args)
    (hc : CallOk P call) (hr : evalB call tm (k :: p) m (.callF f args) = some r) (hi : Inv g m w) (hf : FreshAt g (k :: p)) (ha : AR D (ctx g m w) tm a) :
    OpOk P o a g m w (k :: p) r := by
  simp only [evalB] at hr
  refine .ent (f := f) (xs := c'.args.map a.eval) hc hi hf.call (fun fn h1 h2 h3 => ?_) hr (args_R ha hargs)
  simp only [execOp, he, resolve, hcl, Act.eval, Deferred.ofValue, Sem.run_bind, Sem.run_pure, Result.andThen_ok, invoke]
  simpa using run_callFunc h1 h2 h3 (c'.args.map a.eval) w

theorem ok_callV {c' : Call} {x : Operand} {x' : VOpd} {args : List VOpd} (he : o.op = .call c') (hcl : c'.callee = .value x) (hx : co x = some x') (hargs : cos c'.args.toList = some args)
    (hc : CallOk P call) (hr : evalB call tm (k :: p) m (.callV x' args) = some r) (hi : Inv g m w) (hf : FreshAt g (k :: p)) (ha : AR D (ctx g m w) tm a) :
    OpOk P o a g m w (k :: p) r := by
  have h1 := opd_R ha hx
  simp only [evalB] at hr
  split at hr
  · rename_i f first captured hq
    rw [hq] at h1
    cases hex : a.eval x <;> rw [hex] at h1 <;> cases h1
    rename_i x1 x2 e1 r1 r2 e2
    have hR1 : Rl (ctx g m w) first x1 := ⟨by assumption, by assumption⟩
    have hR2 : Rl (ctx g m w) captured x2 := ⟨by assumption, by assumption⟩
    refine .ent (f := f) (xs := x1 ++ c'.args.map a.eval ++ x2) hc hi hf.call (fun fn h1 h2 h3 => ?_) hr ((hR1.append (args_R ha hargs)).append hR2)
    simp only [execOp, he, resolve, hcl, hex, Deferred.ofValue, Sem.run_bind, Sem.run_pure, Result.andThen_ok, invoke]
    exact run_callFunc h1 h2 h3 _ w
  · rename_i hq
    rw [hq] at h1
    cases hex : a.eval x <;> rw [hex] at h1 <;> cases h1
    refine .rtp hi (t := P.rt.errorString) (x := strVal "invalid memory address or nil pointer dereference") (w' := w) ?_ (Option.some.inj hr).symm ⟨rfl, rfl, rfl⟩ (.inr (.inl rfl))
    simp [execOp, he, resolve, hcl, hex, Deferred.ofValue, invoke, runtimePanic]
  · cases hr

theorem ok_invoke {c' : Call} {x : Operand} {x' : VOpd} {name : String} {args : List VOpd} (he : o.op = .call c') (hcl : c'.callee = .invoke x name) (hx : co x = some x') (hargs : cos c'.args.toList = some args)
    (hc : CallOk P call) (hm : MethOk P meth) (hr : evalB call tm (k :: p) m (.invoke x' (meth name) args) = some r) (hi : Inv g m w) (hf : FreshAt g (k :: p)) (ha : AR D (ctx g m w) tm a) :
    OpOk P o a g m w (k :: p) r := by
  have h1 := opd_R ha hx
  have e0 : (#[a.eval x] ++ c'.args.map a.eval)[0]? = some (a.eval x) := by rw [Array.getElem?_append_left (by simp)]; rfl
  have e1 : (#[a.eval x] ++ c'.args.map a.eval).extract 1 (#[a.eval x] ++ c'.args.map a.eval).size = c'.args.map a.eval := by
    simp [Array.extract_append]
  simp only [evalB] at hr
  split at hr
  · rename_i t v hq
    rw [hq] at h1
    cases hex : a.eval x <;> rw [hex] at h1 <;> cases h1
    rename_i xv hxv
    split at hr
    · rename_i f hfd
      refine .ent (f := f) (xs := #[xv] ++ c'.args.map a.eval) hc hi hf.call (fun fn h1 h2 h3 => ?_) hr (Rl.cons hxv (args_R ha hargs))
      simp only [execOp, he, resolve, hcl, Sem.run_bind, Sem.run_pure, Result.andThen_ok, invoke, e0, e1]
      rw [hex]
      simp only [callMethod, Sem.run_bind, run_program, Result.andThen_ok, hm name t f hfd xv w]
      exact run_callFunc h1 h2 h3 _ w
    · cases hr
  · rename_i hq
    rw [hq] at h1
    cases hex : a.eval x <;> rw [hex] at h1 <;> cases h1
    refine .rtp hi (t := P.rt.errorString) (x := strVal "invalid memory address or nil pointer dereference") (w' := w) ?_ (Option.some.inj hr).symm ⟨rfl, rfl, rfl⟩ (.inr (.inl rfl))
    simp only [execOp, he, resolve, hcl, Sem.run_bind, Sem.run_pure, Result.andThen_ok, invoke, e0, e1]
    rw [hex]
    simp [callMethod, runtimePanic]
  · cases hr

/-- Cells that are set one behind the other. -/
theorem fold_set (off : Nat) : ∀ (l : List Value) (n : Nat) (arr : Array Value),
    ((l.zipIdx n).foldl (fun cs (q : Value × Nat) => cs.setIfInBounds (off + q.2) q.1) arr).size = arr.size ∧
    ∀ j, ((l.zipIdx n).foldl (fun cs (q : Value × Nat) => cs.setIfInBounds (off + q.2) q.1) arr)[j]? =
      if off + n ≤ j ∧ j < off + n + l.length ∧ j < arr.size then l[j - (off + n)]? else arr[j]?
  | [], n, arr => ⟨rfl, fun j => by simp; omega⟩
  | x :: l, n, arr => by
    obtain ⟨h1, h2⟩ := fold_set off l (n + 1) (arr.setIfInBounds (off + n) x)
    simp only [List.zipIdx_cons, List.foldl_cons]
    refine ⟨by rw [h1]; simp, fun j => ?_⟩
    rw [h2, Array.size_setIfInBounds, Array.getElem?_setIfInBounds]
    by_cases hj : off + n = j
    · subst hj
      rw [if_neg (by omega), if_pos rfl]
      by_cases hs : off + n < arr.size
      · rw [if_pos hs, if_pos ⟨Nat.le_refl _, by simp, hs⟩]; simp
      · rw [if_neg hs, if_neg (by omega)]; simp [Array.getElem?_eq_none (Nat.le_of_not_lt hs)]
    · rw [if_neg hj]
      by_cases hc : off + n ≤ j ∧ j < off + n + (l.length + 1) ∧ j < arr.size
      · rw [if_pos (by omega), if_pos (by simpa using hc)]
        rw [show j - (off + n) = (j - (off + (n + 1))) + 1 by omega]; simp
      · rw [if_neg (by omega), if_neg (by simpa using hc)]

theorem fold_cells (off : Nat) (xs arr : Array Value) :
    (xs.zipIdx.foldl (fun cs (q : Value × Nat) => cs.setIfInBounds (off + q.2) q.1) arr).size = arr.size ∧
    ∀ j, (xs.zipIdx.foldl (fun cs (q : Value × Nat) => cs.setIfInBounds (off + q.2) q.1) arr)[j]? =
      if off ≤ j ∧ j < off + xs.size ∧ j < arr.size then xs[j - off]? else arr[j]? := by
  rw [← Array.foldl_toList, Array.toList_zipIdx]
  have := fold_set off xs.toList 0 arr
  simpa using this

theorem get_fill1 (z cs : List Vl) (off j : Nat) (h : off + cs.length ≤ z.length) :
    (z.take off ++ cs ++ z.drop (off + cs.length))[j]? = if off ≤ j ∧ j < off + cs.length then cs[j - off]? else z[j]? := by
  rcases Nat.lt_or_ge j off with h1 | h1
  · rw [if_neg (by omega), List.append_assoc, List.getElem?_append_left (by simp; omega), List.getElem?_take_of_lt h1]
  · rcases Nat.lt_or_ge j (off + cs.length) with h2 | h2
    · rw [if_pos ⟨h1, h2⟩, List.getElem?_append_left (by simp; omega), List.getElem?_append_right (by simp; omega)]
      rw [List.length_take, Nat.min_eq_left (by omega)]
    · rw [if_neg (by omega), List.getElem?_append_right (by simp; omega), List.getElem?_drop]
      congr 1
      simp; omega

theorem fill_R {cx : Ctx} (ha : AR D cx tm a) {plc : Nat → Option (Nat × Nat)} :
    ∀ {l : List (Nat × Operand)} {ps : List (Nat × Nat × VOpd)} {z : List Vl} {arr : Array Value}, partsS plc l = some ps → Rl cx z arr → (∀ v ∈ z, v.one = true) →
      ps.all (fun p => !(opd tm p.2.2).isTup && ((opd tm p.2.2).cells.length == p.2.1 && decide (p.1 + p.2.1 ≤ z.length))) = true →
      ∃ arr', Instr.fill plc arr (l.map fun q => (q.1, a.eval q.2)) = some arr' ∧ Rl cx (fillV z (ps.map fun p => (p.1, (opd tm p.2.2).cells))) arr' ∧
        ∀ v ∈ fillV z (ps.map fun p => (p.1, (opd tm p.2.2).cells)), v.one = true
  | [], ps, z, arr, h, hz, h1, _ => by cases h; exact ⟨arr, rfl, hz, h1⟩
  | (i, x) :: l, ps, z, arr, h, hz, h1, hall => by
    unfold partsS at h
    split at h
    · rename_i f y ys hf hy hys
      cases h
      simp only [List.all_cons, Bool.and_eq_true, Bool.not_eq_true', beq_iff_eq, decide_eq_true_eq] at hall
      obtain ⟨⟨h2, h3, h4⟩, h5⟩ := hall
      have hr := opd_R ha hy
      have hcs := hr.cells h2
      have hone := hr.okc h2
      have hxs : (a.eval x).cells.size = f.2 := by rw [← hcs.1, h3]
      obtain ⟨g1, g2⟩ := fold_cells f.1 (a.eval x).cells arr
      generalize hz' : z.take f.1 ++ (opd tm y).cells ++ z.drop (f.1 + (opd tm y).cells.length) = z' at *
      have hlz : z'.length = z.length := by rw [← hz']; simp; omega
      have hrl : Rl cx z' ((a.eval x).cells.zipIdx.foldl (fun cs (q : Value × Nat) => cs.setIfInBounds (f.1 + q.2) q.1) arr) := by
        refine ⟨by rw [hlz, g1, hz.1], fun j v w' hv hw => ?_⟩
        rw [← hz', get_fill1 z _ _ j (by rw [h3]; exact h4)] at hv
        rw [g2] at hw
        split at hv
        · rename_i hc
          rw [if_pos ⟨hc.1, by rw [hxs, ← h3]; exact hc.2, by rw [← hz.1]; omega⟩] at hw
          exact hcs.2 _ v w' hv hw
        · rename_i hc
          rw [if_neg (fun hh => hc ⟨hh.1, by rw [h3, ← hxs]; exact hh.2.1⟩)] at hw
          exact hz.2 j v w' hv hw
      have hone' : ∀ v ∈ z', v.one = true := fun v hv => by
        rw [← hz'] at hv
        rcases List.mem_append.1 hv with hv | hv
        · rcases List.mem_append.1 hv with hv | hv
          · exact h1 v (List.mem_of_mem_take hv)
          · exact hone v hv
        · exact h1 v (List.mem_of_mem_drop hv)
      obtain ⟨arr', e1, e2, e3⟩ := fill_R ha hys hrl hone' (by rw [hlz]; exact h5)
      refine ⟨arr', ?_, ?_, ?_⟩
      · simp only [List.map_cons, Instr.fill, hf]
        rw [if_neg (by simp [hxs]; rw [← hz.1]; omega)]
        exact e1
      · simp only [List.map_cons, fillV, hz']; exact e2
      · simp only [List.map_cons, fillV, hz']; exact e3
    · cases h

theorem run_mapM {α β : Type} {f : α → Sem β} {q : α → β} (w : World) : ∀ (l : List α), (∀ x ∈ l, (f x).run P w = .ok (q x) w) → (l.mapM f).run P w = .ok (l.map q) w
  | [], _ => by simp
  | x :: l, h => by
    rw [List.mapM_cons]
    simp only [Sem.run_bind, h x (List.mem_cons_self), Result.andThen_ok, run_mapM w l (fun y hy => h y (List.mem_cons_of_mem _ hy)), Sem.run_pure, List.map_cons]

theorem run_mapMA {α β : Type} {f : α → Sem β} {q : α → β} (w : World) (xs : Array α) (h : ∀ x ∈ xs, (f x).run P w = .ok (q x) w) : (xs.mapM f).run P w = .ok (xs.map q) w := by
  rw [Array.mapM_eq_mapM_toList, Sem.run_map, run_mapM w xs.toList (fun x hx => h x (by simpa using hx))]
  simp only [Result.andThen_ok]
  rw [← Array.toList_map, Array.toArray_toList]

theorem ok_build {t : TypeId} {parts : Array (Nat × Operand)} (he : o.op = .build t parts) (ho : cop P meth o.op = some vop) (hr : evalB call tm (k :: p) m vop = some r)
    (hi : Inv g m w) (ha : AR D (ctx g m w) tm a) : OpOk P o a g m w (k :: p) r := by
  rw [he] at ho; simp only [cop] at ho
  split at ho
  · rename_i fs z hu hz
    split at ho
    · rename_i hall
      split at ho
      · rename_i ps hps
        cases ho
        simp only [evalB] at hr
        split at hr
        · rename_i hchk
          obtain ⟨i, zx, z1, z2, z3⟩ := zeroP_R hz
          obtain ⟨z4, z5⟩ := ofV_R z3 (ctx g m w)
          obtain ⟨arr, e1, e2, e3⟩ := fill_R ha hps (z4.cells z5.1) z5.2 hchk
          refine .pure hi (x := .agg arr) ?_ (Option.some.inj hr).symm (.agg _ _ e2.1 e3 e2.2)
          have hmap : (fs.mapM fun f => do pure (f.offset, ← sizeOf f.type) : Sem (Array (Nat × Nat))).run P w = .ok (fs.map fun f => (f.offset, P.cellsOf f.type)) w := by
            refine run_mapMA w fs fun f hf => ?_
            rw [Array.all_eq_true_iff_forall_mem] at hall
            obtain ⟨ii, hii⟩ := Option.isSome_iff_exists.1 (hall f hf)
            simp [run_sizeOf w hii]
          simp only [execOp, he, Instr.build, Sem.run_bind, run_zeroValue z1 z2, run_underlying hu, Result.andThen_ok, hmap]
          have : (parts.map fun q : Nat × Operand => (q.1, a.eval q.2)).toList = parts.toList.map fun q => (q.1, a.eval q.2) := by simp
          rw [this, e1]
          rfl
        · cases hr
      · cases ho
    · cases ho
  · rename_i nn e z hu hz
    split at ho
    · rename_i ii hii
      split at ho
      · rename_i ps hps
        cases ho
        simp only [evalB] at hr
        split at hr
        · rename_i hchk
          obtain ⟨i, zx, z1, z2, z3⟩ := zeroP_R hz
          obtain ⟨z4, z5⟩ := ofV_R z3 (ctx g m w)
          obtain ⟨arr, e1, e2, e3⟩ := fill_R ha hps (z4.cells z5.1) z5.2 hchk
          refine .pure hi (x := .agg arr) ?_ (Option.some.inj hr).symm (.agg _ _ e2.1 e3 e2.2)
          simp only [execOp, he, Instr.build, Sem.run_bind, run_zeroValue z1 z2, run_underlying hu, Result.andThen_ok, run_sizeOf w hii]
          have : (parts.map fun q : Nat × Operand => (q.1, a.eval q.2)).toList = parts.toList.map fun q => (q.1, a.eval q.2) := by simp
          rw [this, e1]
          rfl
        · cases hr
      · cases ho
    · cases ho
  · cases ho

end ops
end Go.Ve
end

section
set_option linter.unusedSimpArgs false

/- The engine, part 15: slices that are built, appends. -/
namespace Go.Ve
variable [Syms]
variable {D : Kp}
variable {P : Program} {call : CallFn} {meth : String → List (TypeId × FuncId)}

/-- Elements that lie one behind the other. -/
structure Flat (cx : Ctx) (size : Nat) (es : List Vl) (arr : Array Value) : Prop where
  sz : arr.size = es.length * size
  ok : ∀ e ∈ es, OkE e ∧ e.cells.length = size
  r : ∀ (i : Nat) (e : Vl) (j : Nat) (v : Vl), es[i]? = some e → e.cells[j]? = some v → ∃ x, arr[i * size + j]? = some x ∧ R cx v x

theorem lt_cells {size i n j : Nat} (hi : i < n) (hj : j < size) : i * size + j < n * size := by
  have : (i + 1) * size ≤ n * size := Nat.mul_le_mul_right _ hi
  rw [Nat.add_mul] at this
  omega

theorem Flat.append {cx : Ctx} {size : Nat} {es fs : List Vl} {xs ys : Array Value} (h : Flat cx size es xs) (h' : Flat cx size fs ys) : Flat cx size (es ++ fs) (xs ++ ys) := by
  refine ⟨by simp [h.sz, h'.sz, Nat.add_mul], fun e he => ?_, fun i e j v hi hv => ?_⟩
  · rcases List.mem_append.1 he with he | he
    · exact h.ok e he
    · exact h'.ok e he
  · rw [List.getElem?_append] at hi
    split at hi
    · rename_i hlt
      obtain ⟨x, hx, hr⟩ := h.r i e j v hi hv
      refine ⟨x, ?_, hr⟩
      rw [Array.getElem?_append_left]
      · exact hx
      · rw [h.sz]
        have hj := lt_of_get hv
        rw [(h.ok e (List.mem_of_getElem? hi)).2] at hj
        exact lt_cells hlt hj
    · rename_i hge
      obtain ⟨x, hx, hr⟩ := h'.r _ e j v hi hv
      refine ⟨x, ?_, hr⟩
      have hmul : i * size = es.length * size + (i - es.length) * size := by rw [← Nat.add_mul]; congr 1; omega
      rw [Array.getElem?_append_right (by rw [h.sz, hmul]; omega), h.sz, hmul]
      rw [show es.length * size + (i - es.length) * size + j - es.length * size = (i - es.length) * size + j by omega]
      exact hx

theorem Flat.mono {cx d : Ctx} (hcd : cx.le d) {size : Nat} {es : List Vl} {xs : Array Value} (h : Flat cx size es xs) : Flat d size es xs :=
  ⟨h.sz, h.ok, fun i e j v hi hv => let ⟨x, hx, hr⟩ := h.r i e j v hi hv; ⟨x, hx, hr.mono hcd⟩⟩

theorem Flat.nil (cx : Ctx) (size : Nat) : Flat cx size [] #[] := ⟨by simp, by simp, by simp⟩

/-- A slice whose elements lie flat at the head of a block, or from a place on. -/
theorem Flat.toR {cx : Ctx} {size : Nat} {es : List Vl} {arr : Array Value} (h : Flat cx size es arr) {tok : Pth} {b o cap : Nat} (hcap : es.length ≤ cap)
    (him : ∀ q x, q < es.length * size → arr[q]? = some x → cx.im b (o + q) x) (htok : tok = [] ∨ cx.tl tok = some (b, o + es.length * size, o + cap * size)) :
    R cx (.sl tok es) (.slice (some ⟨b, o, none⟩) es.length cap) := by
  refine .sl tok es b o cap size (fun i j => arr.getD (i * size + j) undef) hcap h.ok (fun i e j v hi hv => ?_) (fun i e j v hi hv => ?_) htok
  · obtain ⟨x, hx, _⟩ := h.r i e j v hi hv
    have hj := lt_of_get hv
    rw [(h.ok e (List.mem_of_getElem? hi)).2] at hj
    have := him (i * size + j) x (lt_cells (lt_of_get hi) hj) hx
    rw [← Nat.add_assoc] at this
    simpa [Array.getD_eq_getD_getElem?, hx] using this
  · obtain ⟨x, hx, hr⟩ := h.r i e j v hi hv
    simpa [Array.getD_eq_getD_getElem?, hx] using hr

section ops
variable {o : Oper} {vop : VOp} {tm : List Vl} {k : Nat} {p : Pth} {m : Mem} {r : OR} {g : Gh} {w : World} {a : Act} {c : Nat}

/-- The cells of a slice, read. -/
theorem run_slice_cells {es : List Vl} {b ob sz : Nat} {f : Nat → Nat → Value} (g1 : ∀ e ∈ es, OkE e ∧ e.cells.length = sz)
    (g2 : ∀ (i : Nat) (e : Vl) (j : Nat) (v : Vl), es[i]? = some e → e.cells[j]? = some v → (ctx g m w).im b (ob + i * sz + j) (f i j))
    (g3 : ∀ (i : Nat) (e : Vl) (j : Nat) (v : Vl), es[i]? = some e → e.cells[j]? = some v → R (ctx g m w) v (f i j)) :
    ∃ arr, (∀ w1 : World, w1.heap = w.heap → (loadCells ⟨b, ob, none⟩ (es.length * sz)).run P w1 = .ok arr w1) ∧ Flat (ctx g m w) sz es arr ∧ ∀ x ∈ arr, x.oneCell' = true := by
  rcases Nat.eq_zero_or_pos sz with h0 | hpos
  · subst h0
    refine ⟨#[], fun _ _ => by simp [loadCells, loadCellsFrom], ⟨by simp, g1, fun i e j v hi hv => ?_⟩, by simp⟩
    have := lt_of_get hv
    rw [(g1 e (List.mem_of_getElem? hi)).2] at this
    omega
  · have key : ∀ q, q < es.length * sz → ∃ e v, es[q / sz]? = some e ∧ e.cells[q % sz]? = some v := fun q hq => by
      have hi : q / sz < es.length := (Nat.div_lt_iff_lt_mul hpos).2 hq
      have he := (g1 es[q / sz] (List.getElem_mem hi)).2
      have hj : q % sz < es[q / sz].cells.length := by rw [he]; exact Nat.mod_lt _ hpos
      exact ⟨es[q / sz], es[q / sz].cells[q % sz], by simp [hi], by simp [hj]⟩
    have hcell : ∀ q, q < es.length * sz → w.cell? ((⟨b, ob, none⟩ : Addr).add q) = some (f (q / sz) (q % sz)) := fun q hq => by
      obtain ⟨e, v, h1, h2⟩ := key q hq
      have := (g2 _ e _ v h1 h2).1
      rw [add_eq]
      rwa [Nat.add_assoc, show q / sz * sz + q % sz = q by rw [Nat.mul_comm]; exact Nat.div_add_mod q sz] at this
    refine ⟨_, fun w1 hw => run_loadCells w1 _ _ (fun q => f (q / sz) (q % sz)) (fun q hq => by simpa [World.cell?, hw] using hcell q hq), ⟨by simp, g1, fun i e j v hi hv => ?_⟩, fun x hx => ?_⟩
    · have hj := lt_of_get hv
      rw [(g1 e (List.mem_of_getElem? hi)).2] at hj
      have hlt := lt_cells (lt_of_get hi) hj
      refine ⟨f i j, ?_, g3 i e j v hi hv⟩
      have e1 : (i * sz + j) / sz = i := by rw [Nat.mul_comm, Nat.mul_add_div hpos, Nat.div_eq_of_lt hj, Nat.add_zero]
      have e2 : (i * sz + j) % sz = j := by rw [Nat.mul_comm, Nat.mul_add_mod, Nat.mod_eq_of_lt hj]
      simp [hlt, e1, e2]
    · simp only [List.mem_toArray, List.mem_map, List.mem_range] at hx
      obtain ⟨q, hq, rfl⟩ := hx
      obtain ⟨e, v, h1, h2⟩ := key q hq
      exact (g3 _ e _ v h1 h2).one ((g1 e (List.mem_of_getElem? h1)).1.2 v (List.mem_of_getElem? h2))

theorem getElem?_zeroCells (z : Array Value) (n : Nat) : (Builtin.zeroCells z n).size = n * z.size := by simp [Builtin.zeroCells]

theorem growBy_le (n : Nat) (hn : 256 ≤ n) : ∀ (rounds c : Nat), c ≤ 2 * n → Builtin.growBy n rounds c ≤ 2 * n
  | 0, c, h => h
  | k + 1, c, h => by
    unfold Builtin.growBy
    split
    · exact h
    · exact growBy_le n hn k _ (by omega)

theorem nextcap_le {need cap : Nat} (h : cap < need) : Builtin.nextslicecap need cap ≤ 2 * need := by
  unfold Builtin.nextslicecap
  split
  · omega
  · split
    · omega
    · exact growBy_le need (by omega) 4 cap (by omega)

/-- The run of an append of a slice, step by step. -/
theorem run_append {st xt e : TypeId} {ty : TypeId} {d : TypeId} {ie : TypeInfo} {zx : Value} (hs : P.underlying st = some (.slice e)) (ht : P.underlying xt = some (.slice d)) (hie : P.info? e = some ie)
    (hz : ie.zero = some zx) {base : Option Addr} {sLen sCap n c2 : Nat} {ya : Option Addr} {new : Array Value} (w : World)
    (hnew : (Builtin.firstCells ie.size n (.slice ya n c2)).run P w = .ok new w) :
    (sLen + n ≤ sCap → ∀ w', (∀ b, base = some b → (storeCells (b.add (sLen * ie.size)) new.toList).run P w = .ok () w') → (base = none → w' = w) →
      (Builtin.append_ #[st, xt] ty #[.slice base sLen sCap, .slice ya n c2]).run P w = .ok (.slice base (sLen + n) sCap) w') ∧
    (¬ sLen + n ≤ sCap → (sLen + n) * ie.bytes < 2 ^ 46 → sLen + n < 2 ^ 46 → ∀ old, (∀ w1 : World, w1.heap = w.heap → (Builtin.firstCells ie.size sLen (.slice base sLen sCap)).run P w1 = .ok old w1) →
      (∀ w1 : World, w1.heap = w.heap → (Builtin.firstCells ie.size n (.slice ya n c2)).run P w1 = .ok new w1) →
      ∃ (newCap : Nat) (w1 : World), sLen + n ≤ newCap ∧ Hp w1 w ∧
        (Builtin.append_ #[st, xt] ty #[.slice base sLen sCap, .slice ya n c2]).run P w =
          .ok (.slice (some ⟨w1.heap.size, 0, none⟩) (sLen + n) newCap) (w1.alloc (.cells (old ++ new ++ Builtin.zeroCells zx.cells (newCap - (sLen + n))) e))) := by
  have hsz := run_sizeOf w hie
  rw [cellsOf_size hie] at hsz
  constructor
  · intro hle w' hst hnone
    cases base with
    | none =>
      have := hnone rfl; subst this
      simp [Builtin.append_, run_underlying hs, run_underlying ht, hsz, Builtin.lenOf, hle, hnew]
    | some b =>
      have h1 := hst b rfl
      simp [Builtin.append_, run_underlying hs, run_underlying ht, hsz, Builtin.lenOf, hle, hnew, h1]
  · intro hgt hb hn old hold hnew'
    have hcapn : ¬ Builtin.nextslicecap (sLen + n) sCap * ie.bytes > 2 ^ 48 := by
      have h1 := nextcap_le (need := sLen + n) (cap := sCap) (by omega)
      have h2 := Nat.mul_le_mul_right ie.bytes h1
      rw [Nat.mul_assoc] at h2
      omega
    have hbig : ¬ (((sLen + n : Nat) : Int) > IntKind.i64.max ∧ ie.bytes = 0) := by
      have : IntKind.i64.max = 2 ^ 63 - 1 := by decide
      rw [this]; omega
    refine ⟨(sLen + n) + w.tape w.drawn (.appendCap (sLen + n) sCap e) % (2 ^ 63 - (sLen + n)), { w with drawn := w.drawn + 1 }, by omega, ⟨rfl, rfl, rfl⟩, ?_⟩
    have ho := hold { w with drawn := w.drawn + 1 } rfl
    have hn' := hnew' { w with drawn := w.drawn + 1 } rfl
    simp only [Builtin.append_, Sem.run_bind, run_underlying hs, run_underlying ht, Result.andThen_ok]
    simp only [Sem.run_bind, run_underlying hs, run_underlying ht, Result.andThen_ok, hsz, Builtin.lenOf, Sem.run_pure, run_typeInfo w hie,
      List.getElem?_toArray, List.getElem?_cons_zero, List.getElem?_cons_succ, Bool.false_eq_true, if_false, false_or, Sem.run_ite, hgt, hcapn, hbig, run_choose, Question.forced, Question.cut,
      run_typeInfo _ hie, run_askRoom, ho, hn', run_zeroValue hie hz, newRow, run_newObj, Bool.not_false, if_true]
    rfl

/-- What is appended, read. -/
theorem app_src {y : Vl} {Y : Value} {ys : List Vl} {size : Nat} (h : R (ctx g m w) y Y) (hy : elems y = some ys) (hsd : sized size ys = true) :
    ∃ ya c2 new, Y = .slice ya ys.length c2 ∧ Flat (ctx g m w) size ys new ∧ (∀ x ∈ new, x.oneCell' = true) ∧
      ∀ w1 : World, w1.heap = w.heap → (Builtin.firstCells size ys.length (.slice ya ys.length c2)).run P w1 = .ok new w1 := by
  cases y <;> simp [elems] at hy
  case nils => subst hy; cases h; exact ⟨none, 0, #[], rfl, Flat.nil _ _, by simp, fun w1 _ => by simp [Builtin.firstCells]⟩
  case sle => subst hy; cases h; exact ⟨_, 0, #[], rfl, Flat.nil _ _, by simp, fun w1 _ => by simp [Builtin.firstCells, loadCells, loadCellsFrom]⟩
  case sl tok es =>
    subst hy
    obtain ⟨b, ob, cap, sz, f, hex, g0, g1, g2, g3, g4⟩ := h.sl_inv
    rcases sized_get hsd g1 with hnil | rfl
    · subst hnil
      exact ⟨_, cap, #[], hex, Flat.nil _ _, by simp, fun w1 _ => by simp [Builtin.firstCells, loadCells, loadCellsFrom]⟩
    · obtain ⟨arr, h1, h2, h3⟩ := run_slice_cells (P := P) g1 g2 g3
      exact ⟨_, cap, arr, hex, h2, h3, fun w1 hw => by simpa [Builtin.firstCells] using h1 w1 hw⟩

theorem replicate_flat {cx : Ctx} {z : Vl} {zx : Value} (h : R cx z zx) (hok : OkE z) (n : Nat) :
    Flat cx z.cells.length (List.replicate n z) (((Array.range (n * z.cells.length)).map fun i => zx.cells[i % zx.cells.size]!)) := by
  have hcs := h.cells hok.1
  refine ⟨by simp, fun e he => by rw [List.eq_of_mem_replicate he]; exact ⟨hok, rfl⟩, fun i e j v hi hv => ?_⟩
  have hi' := lt_of_get hi
  rw [List.length_replicate] at hi'
  rw [List.getElem?_replicate] at hi
  rw [if_pos hi'] at hi
  cases hi
  have hj := lt_of_get hv
  obtain ⟨x, hx, hr⟩ := hcs.get hv
  refine ⟨x, ?_, hr⟩
  have hlt := lt_cells hi' hj
  have hm : (i * z.cells.length + j) % zx.cells.size = j := by rw [← hcs.1, Nat.mul_comm, Nat.mul_add_mod, Nat.mod_eq_of_lt hj]
  simp [hlt, hm]
  rw [getElem!_def, hx]

theorem fill_flat {cx : Ctx} (ha : AR D cx tm a) {size n : Nat} :
    ∀ {l : List (Nat × Operand)} {ps : List (Nat × VOpd)} {es : List Vl} {arr : Array Value}, partsL l = some ps → Flat cx size es arr → es.length = n →
      ps.all (fun p => decide (p.1 < n)) = true → ps.all (fun p => !(opd tm p.2).isTup && (opd tm p.2).cells.length == size) = true →
      ∃ arr', Instr.fill (fun i => some (i * size, size)) arr (l.map fun q => (q.1, a.eval q.2)) = some arr' ∧ Flat cx size (setV es (ps.map fun p => (p.1, opd tm p.2))) arr' ∧
        (setV es (ps.map fun p => (p.1, opd tm p.2))).length = n
  | [], ps, es, arr, h, hz, hn, _, _ => by cases h; exact ⟨arr, rfl, hz, hn⟩
  | (i, x) :: l, ps, es, arr, h, hz, hn, hall1, hall2 => by
    unfold partsL at h
    split at h
    · rename_i y ys hy hys
      cases h
      simp only [List.all_cons, Bool.and_eq_true, Bool.not_eq_true', beq_iff_eq, decide_eq_true_eq] at hall1 hall2
      obtain ⟨h1, h2⟩ := hall1
      obtain ⟨⟨h3, h4⟩, h5⟩ := hall2
      have hr := opd_R ha hy
      have hcs := hr.cells h3
      have hone := hr.okc h3
      have hxs : (a.eval x).cells.size = size := by rw [← hcs.1, h4]
      obtain ⟨g1, g2⟩ := fold_cells (i * size) (a.eval x).cells arr
      have hlt : i * size + size ≤ arr.size := by
        rw [hz.sz, hn]
        have : (i + 1) * size ≤ n * size := Nat.mul_le_mul_right _ h1
        rwa [Nat.add_mul, Nat.one_mul] at this
      have hrl : Flat cx size (es.set i (opd tm y)) ((a.eval x).cells.zipIdx.foldl (fun cs (q : Value × Nat) => cs.setIfInBounds (i * size + q.2) q.1) arr) := by
        refine ⟨by rw [g1, hz.sz]; simp, fun e he => ?_, fun i' e j v hi hv => ?_⟩
        · rcases List.mem_or_eq_of_mem_set he with he | rfl
          · exact hz.ok e he
          · exact ⟨⟨h3, hone⟩, h4⟩
        · rw [List.getElem?_set] at hi
          split at hi
          · rename_i e'
            subst e'
            split at hi
            · cases hi
              obtain ⟨z, hz1, hz2⟩ := hcs.get hv
              have hj := lt_of_get hv
              refine ⟨z, ?_, hz2⟩
              rw [g2, if_pos ⟨Nat.le_add_right _ _, by rw [hxs, ← h4]; omega, by rw [h4] at hj; omega⟩]
              rw [Nat.add_sub_cancel_left]; exact hz1
            · cases hi
          · rename_i hne
            obtain ⟨z, hz1, hz2⟩ := hz.r i' e j v hi hv
            have hj := lt_of_get hv
            rw [(hz.ok e (List.mem_of_getElem? hi)).2] at hj
            refine ⟨z, ?_, hz2⟩
            rw [g2, if_neg (fun hc => ?_)]
            · exact hz1
            · rw [hxs] at hc
              rcases Nat.lt_or_ge i i' with hl | hl
              · have : (i + 1) * size ≤ i' * size := Nat.mul_le_mul_right _ hl
                rw [Nat.add_mul] at this; omega
              · have : (i' + 1) * size ≤ i * size := Nat.mul_le_mul_right _ (by omega)
                rw [Nat.add_mul] at this; omega
      obtain ⟨arr', e1, e2, e3⟩ := fill_flat ha hys hrl (by simp [hn]) h2 h5
      refine ⟨arr', ?_, ?_, ?_⟩
      · simp only [List.map_cons, Instr.fill]
        rw [if_neg (by simp [hxs]; omega)]
        exact e1
      · simp only [List.map_cons, setV]; exact e2
      · simp only [List.map_cons, setV]; exact e3
    · cases h

theorem ok_bslice {t : TypeId} {n : Nat} {parts : Array (Nat × Operand)} (he : o.op = .buildSlice t n parts) (ho : cop P meth o.op = some vop) (hr : evalB call tm (k :: p) m vop = some r)
    (hi : Inv g m w) (hf : FreshAt g (k :: p)) (ha : AR D (ctx g m w) tm a) : OpOk P o a g m w (k :: p) r := by
  rw [he] at ho; simp only [cop] at ho
  split at ho
  · rename_i e hu
    split at ho
    · rename_i i z ps hie hz hps
      split at ho
      · rename_i hchk
        obtain ⟨hsz, h24, hpos, hall⟩ := hchk
        cases ho
        simp only [evalB] at hr
        split at hr
        · rename_i hall2
          obtain ⟨ii, zx, z1, z2, z3⟩ := zeroP_R hz
          rw [hie] at z1; cases z1
          obtain ⟨z4, z5⟩ := ofV_R z3 (ctx g m w)
          have hss := run_sizeOf w hie
          rw [cellsOf_size hie] at hss
          have hflat := replicate_flat z4 z5 n
          obtain ⟨arr, e1, e2, e3⟩ := fill_flat (a := a) ha hps hflat (by simp) hall hall2
          have hmap : (parts.map fun q : Nat × Operand => (q.1, a.eval q.2)).toList = parts.toList.map fun q => (q.1, a.eval q.2) := by simp
          have h24' : ¬ n * i.size > 2 ^ 24 := by omega
          have hrun : (execOp a.eval o).run P w = .ok (.value (.slice (some ⟨w.heap.size, 0, none⟩) n n)) (w.alloc (.cells arr e)) := by
            simp only [execOp, he, Instr.buildSlice, Sem.run_bind, run_underlying hu, Result.andThen_ok, hss, Sem.run_ite, h24', if_false]
            rw [hmap]
            by_cases hn : n * i.size = 0
            · have h0 : n = 0 := by
                rcases Nat.mul_eq_zero.1 hn with h | h
                · exact h
                · omega
              subst h0
              have hps0 : parts.toList = [] := by
                cases hp : parts.toList with
                | nil => rfl
                | cons q l =>
                  rw [hp] at hps
                  obtain ⟨q1, q2⟩ := q
                  unfold partsL at hps
                  split at hps
                  · cases hps; simp at hall
                  · cases hps
              rw [hps0] at e1 ⊢
              simp [Instr.fill] at e1 ⊢
              subst e1
              simp [newRow, show Array.range 0 = #[] from rfl]
            · simp only [hn, if_false, Sem.run_bind, run_zeroValue hie z2, Result.andThen_ok, Sem.run_pure]
              rw [hsz, e1]
              simp [newRow]
          split at hr
          · rename_i hn
            subst hn
            have hi' := hi.alloc (id := k :: p) hf.here.1 (.cells arr e) (.cells 0 []) fun g' m' hev hb => BoxOk.fresh hev hb (by simp) ⟨by
              have := e2.sz; rw [e3] at this; simpa using this.symm, by simp⟩
            obtain ⟨g', f1, f2, f3, f4⟩ := hi'
            obtain ⟨f5, f6⟩ := f2.sub (m' := m) (List.sublist_cons_self _ _) (List.Sublist.refl _)
            exact .val (x := .slice (some ⟨w.heap.size, 0, none⟩) 0 0) hrun (Option.some.inj hr).symm (f1.trans f6) f5 f3 (.sle _ _)
          · rename_i hn
            obtain ⟨g', f1, f2, f3, f4, f5⟩ := hi.newtok (id := k :: p) hf.here.2 (by simp) arr e arr.size
            refine .val (x := .slice (some ⟨w.heap.size, 0, none⟩) n n) hrun (Option.some.inj hr).symm f1 f2 f3 ?_
            have h6 := (e2.mono f1.ctx).toR (tok := k :: p) (b := w.heap.size) (o := 0) (cap := n) (Nat.le_of_eq e3) (fun q x hq hx => by
              rw [Nat.zero_add]; exact f5 q x (by rw [e2.sz]; exact hq) hx) (.inr (by
                show g'.tl _ = _
                rw [f4, e2.sz, e3]; simp))
            rwa [e3] at h6
        · cases hr
      · cases ho
    · cases ho
  · cases ho

end ops
end Go.Ve
end

section
set_option linter.unusedSimpArgs false

/- The engine, part 16: appends. -/
namespace Go.Ve
variable [Syms]
variable {D : Kp}
variable {P : Program} {call : CallFn} {meth : String → List (TypeId × FuncId)}

section ops
variable {o : Oper} {vop : VOp} {tm : List Vl} {k : Nat} {p : Pth} {m : Mem} {r : OR} {g : Gh} {w : World} {a : Act} {c : Nat}

/-- An append that makes a new block. -/
theorem app_new {base : Option Addr} {sCap : Nat} {es ys : List Vl} {size : Nat} {ie : TypeInfo} {zx : Value} {e : TypeId} {old new : Array Value} {ya : Option Addr} {c2 : Nat} {st xt d : TypeId}
    (hi : Inv g m w) (hf : FreshAt g (k :: p)) (hs : P.underlying st = some (.slice e)) (ht : P.underlying xt = some (.slice d)) (hie : P.info? e = some ie) (hz : ie.zero = some zx)
    (hsize : ie.size = size) (hzs : zx.cells.size = size) (hrunop : ∀ v w', (Builtin.append_ #[st, xt] o.type #[.slice base es.length sCap, .slice ya ys.length c2]).run P w = .ok v w' → (execOp a.eval o).run P w = .ok (.value v) w')
    (hold : Flat (ctx g m w) size es old) (hnew : Flat (ctx g m w) size ys new)
    (h1 : ∀ w1 : World, w1.heap = w.heap → (Builtin.firstCells size es.length (.slice base es.length sCap)).run P w1 = .ok old w1)
    (h2 : ∀ w1 : World, w1.heap = w.heap → (Builtin.firstCells size ys.length (.slice ya ys.length c2)).run P w1 = .ok new w1)
    (hgt : ¬ es.length + ys.length ≤ sCap) (hb : (es.length + ys.length) * ie.bytes < 2 ^ 46) (hn : es.length + ys.length < 2 ^ 46) {tks : List Pth} (htk : tks.Sublist m.tk)
    (hr : r = .ok (.sl (k :: p) (es ++ ys)) { m with tk := (k :: p) :: tks }) : OpOk P o a g m w (k :: p) r := by
  subst hsize
  obtain ⟨-, h3⟩ := run_append (P := P) (ty := o.type) hs ht hie hz (base := base) (sLen := es.length) (sCap := sCap) w (h2 w rfl)
  obtain ⟨newCap, w1, e1, e2, e3⟩ := h3 hgt hb hn old h1 h2
  obtain ⟨hi1, hev1⟩ := hi.heap e2
  obtain ⟨g', f1, f2, f3, f4, f5⟩ := hi1.newtok (id := k :: p) hf.here.2 (by simp) (old ++ new ++ Builtin.zeroCells zx.cells (newCap - (es.length + ys.length))) e ((es.length + ys.length) * ie.size)
  obtain ⟨f6, f7⟩ := f2.sub (m' := { m with tk := (k :: p) :: tks }) (List.Sublist.refl _) (htk.cons_cons _)
  have hev := hev1.trans (f1.trans f7)
  have hfl := (hold.append hnew).mono hev.ctx
  refine .val (hrunop _ _ e3) hr hev f6 f3 ?_
  have hlen : (es ++ ys).length = es.length + ys.length := by simp
  have hasz : (old ++ new ++ Builtin.zeroCells zx.cells (newCap - (es.length + ys.length))).size = newCap * ie.size := by
    simp only [Array.size_append, hold.sz, hnew.sz, getElem?_zeroCells, hzs]
    rw [← Nat.add_mul, ← Nat.add_mul]; congr 1; omega
  have := hfl.toR (tok := k :: p) (b := w1.heap.size) (o := 0) (cap := newCap) (by rw [hlen]; exact e1) (fun q x hq hx => ?_) (.inr (by
    show g'.tl _ = _
    rw [f4, hlen, hasz, Nat.zero_add, Nat.zero_add]))
  · rwa [hlen] at this
  · rw [Nat.zero_add]
    rw [hlen] at hq
    have hsz : (old ++ new).size = (es.length + ys.length) * ie.size := by rw [(hold.append hnew).sz, hlen]
    exact f7.ctx.im _ _ _ (f5 q x hq (by rw [Array.getElem?_append_left (by rw [hsz]; exact hq)]; exact hx))

theorem ok_app {c' : Call} {st xt e d : TypeId} {ie : TypeInfo} {z : Vl} {x y : Operand} {x' y' : VOpd} (he : o.op = .call c') (hcl : c'.callee = .builtin .append)
    (hargs : c'.args.toList = [x, y]) (htys : c'.argTypes.toList = [st, xt]) (hs : P.underlying st = some (.slice e)) (ht : P.underlying xt = some (.slice d)) (hie : P.info? e = some ie)
    (hz : zeroP P e = some z) (hzl : z.cells.length = ie.size) (hpos : ie.size ≠ 0) (hx : co x = some x') (hy : co y = some y') (hr : evalB call tm (k :: p) m (.app ie.size ie.bytes x' y') = some r)
    (hi : Inv g m w) (hf : FreshAt g (k :: p)) (ha : AR D (ctx g m w) tm a) : OpOk P o a g m w (k :: p) r := by
  have hX := opd_R ha hx
  have hY := opd_R ha hy
  obtain ⟨i', zx, z1, z2, z3⟩ := zeroP_R hz
  rw [hie] at z1; cases z1
  obtain ⟨z4, z5⟩ := ofV_R z3 (ctx g m w)
  have hzs : zx.cells.size = ie.size := by rw [← (z4.cells z5.1).1, hzl]
  have etys : c'.argTypes = #[st, xt] := by rw [← Array.toArray_toList (xs := c'.argTypes), htys]
  have hrunop : ∀ v w', (Builtin.append_ #[st, xt] o.type #[a.eval x, a.eval y]).run P w = .ok v w' → (execOp a.eval o).run P w = .ok (.value v) w' := fun v w' h => by
    rw [call2 he hcl hargs, etys]
    simp [builtin, h]
  simp only [evalB] at hr
  split at hr
  · cases hr
  · rename_i ys hys
    split at hr
    · rename_i hsd
      obtain ⟨ya, c2, new, hye, hnf, hn1, hnr⟩ := app_src (P := P) hY hys hsd
      rw [hye] at hrunop
      split at hr
      · rename_i hq
        rw [hq] at hX
        cases hex : a.eval x <;> rw [hex] at hX <;> cases hX
        rw [hex] at hrunop
        split at hr
        · rename_i hnil
          subst hnil
          refine .pure hi (x := .slice none 0 0) (hrunop _ _ ?_) (Option.some.inj hr).symm .nils
          obtain ⟨h3, -⟩ := run_append (P := P) (ty := o.type) hs ht hie z2 (base := none) (sLen := 0) (sCap := 0) w (hnr w rfl)
          exact h3 (by simp) w (by simp) (by simp)
        · rename_i hne
          split at hr
          · rename_i hb
            have hpl : 0 < ys.length := List.length_pos_iff.2 hne
            refine app_new (es := []) (base := none) (sCap := 0) hi hf hs ht hie z2 rfl hzs hrunop (Flat.nil _ _) hnf (fun w1 _ => by simp [Builtin.firstCells]) hnr (by simp; omega) (by simpa using hb.1) (by simpa using hb.2)
              (List.Sublist.refl _) (by simpa using (Option.some.inj hr).symm)
          · cases hr
      · rename_i hq
        rw [hq] at hX
        cases hex : a.eval x <;> rw [hex] at hX <;> cases hX
        rename_i b ob
        rw [hex] at hrunop
        split at hr
        · rename_i hnil
          subst hnil
          refine .pure hi (x := .slice (some ⟨b, ob, none⟩) 0 0) (hrunop _ _ ?_) (Option.some.inj hr).symm (.sle _ _)
          obtain ⟨h3, -⟩ := run_append (P := P) (ty := o.type) hs ht hie z2 (base := some ⟨b, ob, none⟩) (sLen := 0) (sCap := 0) w (hnr w rfl)
          have : new = #[] := by have := hnf.sz; simpa using this
          exact h3 (by simp) w (fun _ _ => by rw [this]; simp [storeCells]) (by simp)
        · rename_i hne
          split at hr
          · rename_i hb
            have hpl : 0 < ys.length := List.length_pos_iff.2 hne
            refine app_new (es := []) (base := some ⟨b, ob, none⟩) (sCap := 0) hi hf hs ht hie z2 rfl hzs hrunop (Flat.nil _ _) hnf (fun w1 _ => by simp [Builtin.firstCells, loadCells, loadCellsFrom]) hnr (by simp; omega) (by simpa using hb.1) (by simpa using hb.2)
              (List.Sublist.refl _) (by simpa using (Option.some.inj hr).symm)
          · cases hr
      · rename_i tok es hq
        rw [hq] at hX
        obtain ⟨b, ob, cap, sz, f, hex, g0, g1, g2, g3, g4⟩ := hX.sl_inv
        rw [hex] at hrunop
        split at hr
        · rename_i hnil
          subst hnil
          refine .pure hi (x := .slice (some ⟨b, ob, none⟩) es.length cap) (hrunop _ _ ?_) (Option.some.inj hr).symm (by rw [← hex]; exact hX)
          obtain ⟨h3, -⟩ := run_append (P := P) (ty := o.type) hs ht hie z2 (base := some ⟨b, ob, none⟩) (sLen := es.length) (sCap := cap) w (hnr w rfl)
          have : new = #[] := by have := hnf.sz; simpa using this
          exact h3 (by simpa using g0) w (fun _ _ => by rw [this]; simp [storeCells]) (by simp)
        · rename_i hne
          split at hr
          · rename_i hb
            obtain ⟨htok, hesne, hsd2, hb1, hb2⟩ := hb
            have hsz : sz = ie.size := (sized_get hsd2 g1).resolve_left hesne
            subst hsz
            have htl := g4.resolve_left (hi.tok tok htok).1
            obtain ⟨old, o1, o2, o3⟩ := run_slice_cells (P := P) g1 g2 g3
            have hor : ∀ w1 : World, w1.heap = w.heap → (Builtin.firstCells ie.size es.length (.slice (some ⟨b, ob, none⟩) es.length cap)).run P w1 = .ok old w1 := fun w1 hw => by
              simpa [Builtin.firstCells] using o1 w1 hw
            by_cases hle : es.length + ys.length ≤ cap
            · obtain ⟨h3, -⟩ := run_append (P := P) (ty := o.type) hs ht hie z2 (base := some ⟨b, ob, none⟩) (sLen := es.length) (sCap := cap) w (hnr w rfl)
              have hnl : new.toList.length = ys.length * ie.size := by rw [← hnf.sz]; simp
              obtain ⟨k1, g', f1, f2, f3, f4, f5⟩ := hi.intail (id := k :: p) hf.here.2 (by simp) htok htl new.toList (by
                rw [hnl, Nat.add_assoc, ← Nat.add_mul]
                exact Nat.add_le_add_left (Nat.mul_le_mul_right _ hle) _)
              have hst := run_storeCells_cells (P := P) b (ob + es.length * ie.size) new.toList 0 w (fun j hj => (k1 j hj).1) (fun j hj => (k1 j hj).2) (fun v hv => hn1 v (by simpa using hv))
              simp only [Nat.add_zero] at hst
              have hrun := h3 hle _ (fun bb hbb => by cases hbb; rw [add_eq]; exact hst) (by simp)
              refine .val (hrunop _ _ hrun) (Option.some.inj hr).symm f1 f2 f3 ?_
              have hfl := (o2.append hnf).mono f1.ctx
              have hlen : (es ++ ys).length = es.length + ys.length := by simp
              have := hfl.toR (tok := k :: p) (b := b) (o := ob) (cap := cap) (by rw [hlen]; exact hle) (fun q v hq hv => ?_) (.inr (by
                show g'.tl _ = _
                rw [f4, hnl, hlen, Nat.add_mul, Nat.add_assoc]))
              · rwa [hlen] at this
              · rw [Array.getElem?_append] at hv
                split at hv
                · rename_i hlt
                  have hq' : q < es.length * ie.size := by rw [← o2.sz]; exact hlt
                  have hp0 : 0 < ie.size := Nat.pos_of_ne_zero hpos
                  have hqi : q / ie.size < es.length := (Nat.div_lt_iff_lt_mul hp0).2 hq'
                  have hqe := (g1 es[q / ie.size] (List.getElem_mem hqi)).2
                  have hqj : q % ie.size < es[q / ie.size].cells.length := by rw [hqe]; exact Nat.mod_lt _ hp0
                  have him := g2 (q / ie.size) es[q / ie.size] (q % ie.size) es[q / ie.size].cells[q % ie.size] (by simp [hqi]) (by simp [hqj])
                  have hqq : q / ie.size * ie.size + q % ie.size = q := by rw [Nat.mul_comm]; exact Nat.div_add_mod q _
                  rw [Nat.add_assoc, hqq] at him
                  have hcell := o1 w rfl
                  have hvx : w.cell? ⟨b, ob + q, none⟩ = some v := by
                    have hc2 := run_loadCells (P := P) w ⟨b, ob, none⟩ (es.length * ie.size) (fun q => f (q / ie.size) (q % ie.size)) (fun q hq => by
                      have hqi : q / ie.size < es.length := (Nat.div_lt_iff_lt_mul hp0).2 hq
                      have hqe := (g1 es[q / ie.size] (List.getElem_mem hqi)).2
                      have hqj : q % ie.size < es[q / ie.size].cells.length := by rw [hqe]; exact Nat.mod_lt _ hp0
                      have him := (g2 (q / ie.size) es[q / ie.size] (q % ie.size) es[q / ie.size].cells[q % ie.size] (by simp [hqi]) (by simp [hqj])).1
                      have hqq : q / ie.size * ie.size + q % ie.size = q := by rw [Nat.mul_comm]; exact Nat.div_add_mod q _
                      rw [Nat.add_assoc, hqq] at him
                      rw [add_eq]; exact him)
                    rw [hcell] at hc2
                    have hoe := (Result.ok.inj hc2).1
                    rw [hoe] at hv
                    simp [hq'] at hv
                    rw [← hv]; exact him.1
                  exact f1.ctx.im _ _ _ ⟨hvx, him.2⟩
                · rename_i hge
                  rw [o2.sz] at hge hv
                  have := f5 (q - es.length * ie.size) v (by simpa using hv)
                  rwa [show ob + es.length * ie.size + (q - es.length * ie.size) = ob + q by omega] at this
            · exact app_new (es := es) (base := some ⟨b, ob, none⟩) (sCap := cap) hi hf hs ht hie z2 rfl hzs hrunop o2 hnf hor hnr hle hb1 hb2 List.erase_sublist (Option.some.inj hr).symm
          · cases hr
      · cases hr
    · cases hr

end ops
end Go.Ve
end

section
set_option linter.unusedSimpArgs false

/- The engine, part 16b: symbols. -/
namespace Go.Ve
variable [Syms]

mutual
theorem eqV_eq : ∀ (n : Nat) (x y : Vl), eqV n x y = true → x = y
  | 0, _, _, h => by simp [eqV] at h
  | n + 1, x, y, h => by
    unfold eqV at h
    split at h <;> (try simp only [Bool.and_eq_true, beq_iff_eq, Bool.false_eq_true] at h)
    · rw [h.1, h.2]
    · rw [h]
    · rw [h]
    · rfl
    · rw [h.1, h.2]
    · rw [h.1, eqVs_eq n _ _ h.2]
    · rfl
    · rfl
    · rw [h.1, eqVs_eq n _ _ h.2]
    · rfl
    · rw [h.1, eqV_eq n _ _ h.2]
    · rfl
    · rw [h.1.1, eqVs_eq n _ _ h.1.2, eqVs_eq n _ _ h.2]
    · rfl
    · rw [h]
    · rw [eqVs_eq n _ _ h]
    · rw [eqVs_eq n _ _ h]
    · rw [h.1, h.2]
    · rw [h]
theorem eqVs_eq : ∀ (n : Nat) (x y : List Vl), eqVs n x y = true → x = y
  | 0, _, _, h => by simp [eqVs] at h
  | n + 1, x, y, h => by
    unfold eqVs at h
    split at h <;> (try simp only [Bool.and_eq_true, Bool.false_eq_true] at h)
    · rfl
    · rw [eqV_eq n _ _ h.1, eqVs_eq n _ _ h.2]
end

/-- What a value is that bears symbols. -/
def den (v : Vl) : Vl := denV Syms.i Syms.s v

theorem R_den {c : Ctx} {v : Vl} {x : Value} : R c (den v) x ↔ R c v x := by
  cases v with
  | sym k i => exact ⟨fun h => by cases h; exact .sym k i, fun h => by cases h; exact .int k _⟩
  | symS i => exact ⟨fun h => by cases h; exact .symS i, fun h => by cases h; exact .str _⟩
  | _ => exact Iff.rfl

theorem AR.den {D : Kp} {c : Ctx} {tm : List Vl} {a : Act} (h : AR D c tm a) : AR D c (tm.map Ve.den) a := by
  refine ⟨⟨by simpa using h.1.1, fun j v x hv hx => ?_⟩, h.2⟩
  rw [List.getElem?_map] at hv
  cases hu : tm[j]? with
  | none => rw [hu] at hv; cases hv
  | some u =>
    rw [hu] at hv
    cases hv
    exact R_den.2 (h.1.2 j u x hu hx)

theorem opd_den {tm : List Vl} {x : VOpd} (h : x.plain = true) : opd (tm.map den) x = den (opd tm x) := by
  cases x with
  | t i =>
    simp only [opd, List.getD_eq_getElem?_getD, List.getElem?_map]
    cases tm[i]? <;> rfl
  | c v => cases v <;> first | rfl | simp [VOpd.plain, Vl.isSym] at h
  | f g => rfl

theorem pureB_eval {call : CallFn} {tm : List Vl} {id : Pth} {m : Mem} {op : VOp} {v : Vl} (h : pureB (opd tm) op = some v) : evalB call tm id m op = some (.ok v m) := by
  cases op <;> simp only [pureB] at h <;> try cases h
  case bin =>
    split at h
    · rename_i hb; cases h; simp only [evalB, hb]
    · cases h
  case eqb =>
    split at h
    · rename_i h1 h2; cases h; simp only [evalB, h1, h2]
    · cases h
  case un =>
    simp only [evalB]
    split at h <;> (try cases h) <;> first | rfl | (rename_i h1; rw [h1])
  case convI =>
    split at h
    · rename_i h1; cases h; simp only [evalB, h1]
    · cases h
  case convS =>
    split at h
    · rename_i h1; cases h; simp only [evalB, h1]
    · cases h
  case mxn =>
    split at h
    · rename_i h1 h2; cases h; simp only [evalB, h1, h2]
    · cases h
  case slcStr x lo hi =>
    split at h
    · rename_i s l h1 h2
      have e1 : bnd tm lo 0 = some l := by cases lo <;> simpa [bnd] using h2
      split at h
      · rename_i hh h3
        have e2 : bnd tm hi s.length = some hh := by cases hi <;> simpa [bnd] using h3
        split at h
        · rename_i h4; cases h; simp only [evalB, h1, e1, e2]; rw [if_pos h4]
        · cases h
      · cases h
    · cases h
  case len str x =>
    cases str with
    | false => cases h
    | true =>
      simp only at h
      split at h
      · rename_i h1; cases h; simp only [evalB, h1, if_true]
      · cases h
  case idxStr x i =>
    split at h
    · rename_i h1 h2
      split at h
      · rename_i h0
        split at h
        · rename_i h3; cases h; simp only [evalB, h1, h2, h0, if_true, h3]
        · cases h
      · cases h
    · cases h

theorem sameX_eq {tm : List Vl} {x y : VOpd} (h : sameX tm x y = true) : opd (tm.map den) x = den (opd [] y) := by
  unfold sameX at h
  rw [Bool.and_eq_true] at h
  rw [opd_den h.1, eqV_eq _ _ _ h.2]

theorem sameO_eq {tm : List Vl} {x y : Option VOpd} (h : sameO tm x y = true) : (x = none ∧ y = none) ∨ ∃ a b, x = some a ∧ y = some b ∧ opd (tm.map den) a = den (opd [] b) := by
  cases x <;> cases y <;> simp [sameO] at h
  · exact .inl ⟨rfl, rfl⟩
  · exact .inr ⟨_, _, rfl, rfl, sameX_eq h⟩

theorem pureB_same {tm : List Vl} {op op' : VOp} (h : sameOp tm op op' = true) : pureB (opd (tm.map den)) op = pureB (fun x => den (opd [] x)) op' := by
  unfold sameOp at h
  split at h
  · simp only [Bool.and_eq_true, beq_iff_eq] at h
    obtain ⟨⟨rfl, h1⟩, h2⟩ := h
    simp only [pureB, sameX_eq h1, sameX_eq h2]
  · simp only [Bool.and_eq_true, beq_iff_eq] at h
    obtain ⟨⟨rfl, h1⟩, h2⟩ := h
    simp only [pureB, sameX_eq h1, sameX_eq h2]
  · simp only [Bool.and_eq_true, beq_iff_eq] at h
    obtain ⟨rfl, h1⟩ := h
    simp only [pureB, sameX_eq h1]
  · simp only [Bool.and_eq_true, beq_iff_eq] at h
    obtain ⟨rfl, h1⟩ := h
    simp only [pureB, sameX_eq h1]
  · simp only [pureB, sameX_eq h]
  · simp only [Bool.and_eq_true, beq_iff_eq] at h
    obtain ⟨⟨rfl, h1⟩, h2⟩ := h
    simp only [pureB, sameX_eq h1, sameX_eq h2]
  · simp only [Bool.and_eq_true] at h
    obtain ⟨⟨h1, h2⟩, h3⟩ := h
    rcases sameO_eq h2 with ⟨rfl, rfl⟩ | ⟨a, b, rfl, rfl, e2⟩ <;> rcases sameO_eq h3 with ⟨rfl, rfl⟩ | ⟨a', b', rfl, rfl, e3⟩ <;> simp only [pureB, sameX_eq h1] <;> simp only [*]
  · simp only [pureB, sameX_eq h]
  · rw [Bool.and_eq_true] at h
    simp only [pureB, sameX_eq h.1, sameX_eq h.2]
  · cases h

theorem factV_ok {tm : List Vl} {op : VOp} {v : Vl} : ∀ {l : List Fact}, (∀ f ∈ l, f ∈ Syms.fx) → factV tm op l = some v → pureB (opd (tm.map den)) op = some (den v)
  | [], _, h => by cases h
  | f :: l, hl, h => by
    unfold factV at h
    split at h
    · rename_i hs
      cases h
      rw [pureB_same hs]
      exact Syms.ok f (hl f (.head _))
    · exact factV_ok (fun f hf => hl f (.tail _ hf)) h

theorem evalOp_cases {call : CallFn} {tm : List Vl} {id : Pth} {m : Mem} {op : VOp} {r : OR} (h : evalOp call tm id m op = some r) :
    evalB call tm id m op = some r ∨ ∃ v, r = .ok v m ∧ factV tm op Syms.fx = some v := by
  unfold evalOp at h
  split at h
  · left; rename_i hb; rw [hb]; exact h
  · split at h
    · rename_i v hv; cases h; exact .inr ⟨v, rfl, hv⟩
    · cases h

theorem evalOp_B {call : CallFn} {tm : List Vl} {id : Pth} {m : Mem} {op : VOp} {r : OR} (h : evalOp call tm id m op = some r) (hp : ∀ ev, pureB ev op = none) : evalB call tm id m op = some r := by
  rcases evalOp_cases h with h1 | ⟨v, _, h1⟩
  · exact h1
  · have := factV_ok (fun _ hf => hf) h1
    rw [hp] at this
    cases this

end Go.Ve
end

section
set_option linter.unusedSimpArgs false

/- The engine, part 17: what V says of a code and of a call is so. -/
namespace Go.Ve
variable [Syms]
variable {D : Kp}
variable {P : Program} {call : CallFn} {meth : String → List (TypeId × FuncId)}

theorem cos_one {l : List Operand} {y : VOpd} (h : cos l = some [y]) : ∃ x, l = [x] ∧ co x = some y := by
  cases l with
  | nil => cases h
  | cons x l =>
    simp only [cos] at h
    split at h
    · rename_i z zs hx hxs
      cases h
      cases l with
      | nil => exact ⟨x, rfl, hx⟩
      | cons x2 l =>
        simp only [cos] at hxs
        split at hxs <;> cases hxs
    · cases h

theorem cos_two {l : List Operand} {y1 y2 : VOpd} (h : cos l = some [y1, y2]) : ∃ x1 x2, l = [x1, x2] ∧ co x1 = some y1 ∧ co x2 = some y2 := by
  cases l with
  | nil => cases h
  | cons x l =>
    simp only [cos] at h
    split at h
    · rename_i z zs hx hxs
      cases h
      obtain ⟨x2, rfl, hx2⟩ := cos_one hxs
      exact ⟨x, x2, rfl, hx, hx2⟩
    · cases h

section ops
variable {o : Oper} {vop : VOp} {tm : List Vl} {k : Nat} {p : Pth} {m : Mem} {r : OR} {g : Gh} {w : World} {a : Act} {c : Nat}

theorem op_okB (hc : CallOk P call) (hm : MethOk P meth) (ho : cop P meth o.op = some vop) (hr : evalB call tm (k :: p) m vop = some r)
    (hi : Inv g m w) (hf : FreshAt g (k :: p)) (ha : AR D (ctx g m w) tm a) : OpOk P o a g m w (k :: p) r := by
  cases hop : o.op with
  | move x => exact ok_move (.inl hop) ho hr hi ha
  | assign x => exact ok_move (.inr hop) ho hr hi ha
  | pick x y z => exact ok_pick hop ho hr hi ha
  | alloc t => exact ok_alloc hop ho hr hi hf
  | box t x => exact ok_box hop ho hr hi hf ha
  | build t ps => exact ok_build hop ho hr hi ha
  | buildSlice t n ps => exact ok_bslice hop ho hr hi hf ha
  | load t x => exact ok_load hop ho hr hi ha
  | store t x y => exact ok_store hop ho hr hi ha
  | nilCheck x => exact ok_nilck hop ho hr hi ha
  | binOp op t x y u =>
    rw [hop] at ho; simp only [cop, cbin] at ho
    split at ho
    · rename_i hx hy; cases ho; exact ok_bin hop hx hy hr hi ha
    · rename_i hx hy; cases ho; exact ok_bin hop hx hy hr hi ha
    · rename_i hu hx hy
      split at ho
      · cases ho; exact ok_eqb hop rfl hu hx hy hr hi ha
      · cases ho; exact ok_eqb hop rfl hu hx hy hr hi ha
      · cases ho
    · rename_i hu hx hy
      split at ho
      · rename_i kd hkd
        split at ho
        · cases ho; exact ok_eqi hop rfl hu hx hkd hr hi ha
        · cases ho; exact ok_eqi hop rfl hu hx hkd hr hi ha
        · cases ho
      · cases ho
    · cases ho
  | unOp op t x => exact ok_un hop ho hr hi ha
  | convert s d x => exact ok_conv hop ho hr hi ha
  | makeInterface t x => exact ok_mkI hop ho hr hi ha
  | makeFunc f xs ys => exact ok_mkF hop ho hr hi ha
  | makeMap t x => exact ok_mkM hop ho hr hi hf
  | slice t x lo hi' mx =>
    cases mx with
    | some mx =>
      rw [hop] at ho
      cases lo with
      | some lo => simp [cop] at ho
      | none =>
        cases hi' with
        | none => simp [cop] at ho
        | some hi' =>
          simp only [cop] at ho
          split at ho
          · rename_i hu hx h1 h2
            split at ho
            · rename_i hie; cases ho; exact ok_clip hop hu hie hx h1 h2 hr hi ha
            · cases ho
          · cases ho
    | none =>
      rw [hop] at ho; simp only [cop] at ho
      split at ho
      · rename_i hu hx h1 h2; cases ho; exact ok_slcStr hop hu hx h1 h2 hr hi ha
      · rename_i hu hx h1 h2
        split at ho
        · rename_i hie; cases ho; exact ok_slcSl hop hu hie hx h1 h2 hr hi ha
        · cases ho
      · cases ho
  | fieldAddr s x f => exact ok_fieldAddr hop ho hr hi ha
  | field s x f => exact ok_field hop ho hr hi ha
  | indexAddr t x i =>
    rw [hop] at ho; simp only [cop] at ho
    split at ho
    · rename_i hu hx h1
      split at ho
      · rename_i hie; cases ho; exact ok_idxSl hop hu hie hx h1 hr hi ha
      · cases ho
    · rename_i hu hx h1
      split at ho
      · rename_i hie
        split at ho
        · cases ho
        · cases ho; exact ok_idxArr hop hu hie hx h1 hr hi ha
      · cases ho
    · cases ho
  | index t x i =>
    rw [hop] at ho; simp only [cop] at ho
    split at ho
    · rename_i hu hx h1; cases ho; exact ok_idxStr hop hu hx h1 hr hi ha
    · rename_i hu hx h1
      split at ho
      · rename_i hie hag; cases ho; exact ok_idxVal hop hu hie hag hx h1 hr hi ha
      · cases ho
    · cases ho
  | typeAssert x u t ok => exact ok_tas hop ho hr hi ha
  | extract x i => exact ok_extract hop ho hr hi ha
  | call c' =>
    rw [hop] at ho; simp only [cop, ccall] at ho
    split at ho
    · cases ho
    · rename_i args hargs
      split at ho
      · rename_i f hcl; cases ho; exact ok_callF hop hcl hargs hc hr hi hf ha
      · rename_i x hn hcl
        split at ho
        · rename_i y hy; cases ho; exact ok_callV hop hcl hy hargs hc hr hi hf ha
        · cases ho
      · rename_i x name hcl
        split at ho
        · rename_i y hy; cases ho; exact ok_invoke hop hcl hy hargs hc hm hr hi hf ha
        · cases ho
      · rename_i hcl
        split at ho
        · rename_i t y htys
          obtain ⟨x, hal, hx⟩ := cos_one hargs
          split at ho
          · rename_i hu; cases ho; exact ok_len hop hcl hal htys (by simpa using hu) hx hr hi ha
          · rename_i e hu; cases ho; exact ok_len hop hcl hal htys (by simpa using ⟨e, hu⟩) hx hr hi ha
          · cases ho
        · cases ho
      · rename_i hcl
        split at ho
        · rename_i t u y1 y2 htys
          have hal := cos_two hargs
          obtain ⟨x1, x2, hal, hx1, hx2⟩ := hal
          split at ho
          · rename_i e d hu1 hu2
            split at ho
            · rename_i i z hie hz
              split at ho
              · cases ho
              · rename_i hcond
                cases ho
                exact ok_app hop hcl hal htys hu1 hu2 hie hz (Decidable.not_not.1 fun h => hcond (.inr h)) (fun h => hcond (.inl h)) hx1 hx2 hr hi hf ha
            · cases ho
          · cases ho
        · cases ho
      · rename_i hcl
        split at ho
        · rename_i y1 y2
          obtain ⟨x1, x2, hal, hx1, hx2⟩ := cos_two hargs
          cases ho
          exact ok_mxn (mx := true) hop hcl hal hx1 hx2 hr hi ha
        · cases ho
      · rename_i hcl
        split at ho
        · rename_i y1 y2
          obtain ⟨x1, x2, hal, hx1, hx2⟩ := cos_two hargs
          cases ho
          exact ok_mxn (mx := false) hop hcl hal hx1 hx2 hr hi ha
        · cases ho
      · cases ho
  | panic x => exact ok_panic hop ho hr hi ha
  | range t x =>
    rw [hop] at ho; simp only [cop] at ho
    split at ho
    · rename_i hu hx; cases ho; exact ok_rng hop hu hx hr hi hf ha
    · cases ho
  | next x b =>
    cases b with
    | false => rw [hop] at ho; simp [cop] at ho
    | true =>
      rw [hop] at ho; simp only [cop] at ho
      split at ho
      · rename_i hx; cases ho; exact ok_nxt hop hx hr hi ha
      · cases ho
  | _ => rw [hop] at ho; simp [cop] at ho

theorem op_ok (hc : CallOk P call) (hm : MethOk P meth) (ho : cop P meth o.op = some vop) (hr : evalOp call tm (k :: p) m vop = some r)
    (hi : Inv g m w) (hf : FreshAt g (k :: p)) (ha : AR D (ctx g m w) tm a) : OpOk P o a g m w (k :: p) r := by
  rcases evalOp_cases hr with h | ⟨v, rfl, h⟩
  · exact op_okB hc hm ho h hi hf ha
  · have h1 := pureB_eval (call := call) (id := k :: p) (m := m) (factV_ok (fun _ h => h) h)
    exact fun K Q hK hQ => op_okB hc hm ho h1 hi hf ha.den K Q (fun v' m' g' w' x hr he hi hn hR => by cases hr; exact hK v m g' w' x rfl he hi hn (R_den.1 hR)) (fun pv m' g' w' ch hr => by cases hr)

theorem op_okN (hc : CallOk P call) (hm : MethOk P meth) (ho : copN P meth o.op = some vop) (hr : evalOp call tm (k :: p) m vop = some r)
    (hi : Inv g m w) (hf : FreshAt g (k :: p)) (ha : AR D (ctx g m w) tm a) : OpOk P o a g m w (k :: p) r := by
  unfold copN at ho
  split at ho
  · rename_i v hv
    cases ho
    exact op_ok hc hm hv hr hi hf ha
  · cases ho
    rcases evalOp_cases hr with h | ⟨v, rfl, h⟩
    · cases h
    · have := factV_ok (fun _ h => h) h
      cases this

theorem wanted_ok {all : Array Oper} {o : Oper} {gd : Option (Nat × Bool)} (hg : (o.guard = none ∧ gd = none) ∨ ∃ j b oj s, o.guard = some (j, b) ∧ all[j]? = some oj ∧ oj.dst = some s ∧ gd = some (s, b))
    {cx : Ctx} (ha : AR D cx tm a) : Region.wanted o (yielded all a.tmps) = wantedV tm gd := by
  rcases hg with ⟨h1, h2⟩ | ⟨j, b, oj, s, h1, h2, h3, h4⟩
  · simp [Region.wanted, h1, h2, wantedV]
  · subst h4
    simp only [Region.wanted, h1, wantedV, yielded, h2, Option.bind_some, h3]
    cases htv : tm[s]? with
    | none =>
      have : a.tmps[s]? = none := by
        rw [List.getElem?_eq_none_iff] at htv
        rw [Array.getElem?_eq_none_iff, ← ha.1.1]; exact htv
      simp [this]
    | some v =>
      obtain ⟨x, hx, hr⟩ := ha.1.get htv
      rw [hx]
      cases hr <;> simp

theorem ops_ok {all : Array Oper} (hc : CallOk P call) (hm : MethOk P meth) {base : Nat} {Q : Exit → Act → World → Prop} :
    ∀ (l : List Oper) (i : Nat) (vs : List VOper), copsV P meth all i l = some vs → ∀ {tm : List Vl} {m : Mem} {e : EX} {tm' : List Vl} {m' : Mem}, runOps call p base vs tm m = some (e, tm', m') →
      ∀ {g : Gh} {w : World} {a : Act}, Inv g m w → Fresh g p (base + i) → AR D (ctx g m w) tm a → (∀ o ∈ l, ∀ t, o.dst = some t → t ∉ D.sl) →
        (∀ g' w' a', e = .norm → Ev g m w g' m' w' → Inv g' m' w' → NewAt g g' p → Fresh g' p (base + i + l.length) → AR D (ctx g' m' w') tm' a' → Q .normal a' w') →
        (∀ pv g' w' a' ch, e = .pan pv → Ev g m w g' m' w' → Inv g' m' w' → NewAt g g' p → RP P (ctx g' m' w') pv ch → D.ok a' → Q (.panic ch) a' w') →
        wpList P all Q l a w
  | [], i, vs, hcv, tm, m, e, tm', m', hrun, g, w, a, hi, hf, ha, _, hok, _ => by
    cases hcv
    simp only [runOps, Option.some.injEq, Prod.mk.injEq] at hrun
    obtain ⟨rfl, rfl, rfl⟩ := hrun
    exact hok g w a rfl (Ev.refl _ _ _) hi (NewAt.refl _ _) hf ha
  | o :: l, i, vs, hcv, tm, m, e, tm', m', hrun, g, w, a, hi, hf, ha, hcl, hok, hpan => by
    simp only [copsV] at hcv
    split at hcv
    · rename_i v vs' hv hvs
      have hgd : ∃ gd, vs = ⟨i, o.dst, v, gd⟩ :: vs' ∧ ((o.guard = none ∧ gd = none) ∨ ∃ j b oj s, o.guard = some (j, b) ∧ all[j]? = some oj ∧ oj.dst = some s ∧ gd = some (s, b)) := by
        split at hcv
        · rename_i hg; cases hcv; exact ⟨none, rfl, .inl ⟨hg, rfl⟩⟩
        · rename_i j b hg
          split at hcv
          · rename_i oj hj
            split at hcv
            · rename_i s hs; cases hcv; exact ⟨some (s, b), rfl, .inr ⟨j, b, oj, s, hg, hj, hs, rfl⟩⟩
            · cases hcv
          · cases hcv
      obtain ⟨gd, rfl, hgd⟩ := hgd
      have hw := wanted_ok (all := all) hgd ha
      simp only [runOps] at hrun
      unfold wpList
      by_cases hwt : wantedV tm gd = true
      · rw [hw, if_pos hwt]
        rw [if_pos hwt] at hrun
        left
        split at hrun
        · rename_i x m1 hx
          refine op_okN hc hm hv hx hi (hf.at (Nat.le_refl _)) ha _ _ (fun u m2 g1 w1 y he hev hinv hnew hr => ?_) (fun pv m2 g1 w1 ch he => by cases he)
          cases he
          have hf1 := hf.next hnew
          rw [Nat.max_eq_right (by omega)] at hf1
          refine ops_ok hc hm l (i + 1) vs' hvs hrun hinv hf1 ((ha.mono hev.ctx).put hr _ (hcl o (.head _))) (fun o ho => hcl o (.tail _ ho)) (fun g' w' a' h1 h2 h3 h4 h5 h6 => ?_) (fun pv g' w' a' ch h1 h2 h3 h4 h5 h6 => ?_)
          · exact hok g' w' a' h1 (hev.trans h2) h3 (hnew.up.trans h4) (by simpa [Nat.add_assoc, Nat.add_comm 1] using h5) h6
          · exact hpan pv g' w' a' ch h1 (hev.trans h2) h3 (hnew.up.trans h4) h5 h6
        · rename_i pv m1 hx
          simp only [Option.some.injEq, Prod.mk.injEq] at hrun
          obtain ⟨rfl, rfl, rfl⟩ := hrun
          refine op_okN hc hm hv hx hi (hf.at (Nat.le_refl _)) ha _ _ (fun u m2 g1 w1 y he => by cases he) (fun pv' m2 g1 w1 ch he hev hinv hnew hr => ?_)
          cases he
          exact hpan pv g1 w1 a ch rfl hev hinv hnew.up hr ha.2
        · cases hrun
      · rw [hw, if_neg hwt]
        rw [if_neg hwt] at hrun
        refine ops_ok hc hm l (i + 1) vs' hvs hrun hi (hf.le (by omega)) (ha.put (undef_R _) _ (hcl o (.head _))) (fun o ho => hcl o (.tail _ ho)) (fun g' w' a' h1 h2 h3 h4 h5 h6 => ?_) hpan
        exact hok g' w' a' h1 h2 h3 h4 (by simpa [Nat.add_assoc, Nat.add_comm 1] using h5) h6
    · cases hcv

end ops
end Go.Ve
end

