/- The abstract machine: abstract values, and an evaluator of the model's code over them (definitions only). -/
import Derived.OrdersIn
import Derived.RangeFuncLeaves
import Derived.RangeFuncRecord
import Derived.KernelRfl
namespace Go.AI
set_option linter.unusedVariables false
set_option linter.unusedSimpArgs false
open Go

/-- Abstract values: slices are lists, structs are lists of cells; no memory. 'any' stands for whatever value. -/
inductive AV where
  | any
  | int (k : IntKind) (n : Int)
  | bool (b : Bool)
  | str (s : ByteArray)
  | nilp
  | ptr (id off : Nat)
  | iptr (cells : List AV)
  | slice (sz : Nat) (elems : List AV)
  | nilFunc
  | func (g : FuncId) (first cap : List AV)
  | yield (id : Nat)
  | nilIface
  | iface (t : TypeId) (v : AV)
  | nilMap
  | agg (cells : List AV)
  | tuple (vs : List AV)
  deriving Inhabited

def AV.cells : AV → List AV
  | .agg cs => cs
  | v => [v]

/-- It may stand in one cell, or is a struct. -/
def AV.okc : AV → Bool
  | .tuple _ => false
  | .any => false
  | _ => true

mutual
/-- No shared name is in it. -/
def AV.flat : AV → Bool
  | .ptr .. => false
  | .yield _ => false
  | .iptr cs => AV.flatL cs
  | .slice _ es => AV.flatL es
  | .func _ a b => AV.flatL a && AV.flatL b
  | .iface _ v => v.flat
  | .agg cs => AV.flatL cs
  | .tuple cs => AV.flatL cs
  | _ => true
def AV.flatL : List AV → Bool
  | [] => true
  | v :: r => v.flat && AV.flatL r
end

/-- What a temporary of a frame holds: a value with the places of it that may be appended to; a private box; a pointer into a private box of this frame; a slice in a private row; its first h elements. -/
inductive Slot where
  | none
  | val (v : AV) (ow : List Nat)
  | loc (cs : List AV) (ow : List Nat)
  | lptr (s off : Nat)
  | arr (sz : Nat) (es : List AV)
  | larr (s h : Nat)
  deriving Inhabited

abbrev Env := Nat → Slot

structure ALoop where
  fn : FuncId
  env : Env
  params : Array Tmp
  assign : Code
  body : Code
  state : LoopState
  pending : Option Code

inductive AObj where
  | box (cs : List AV) (ow : List Nat)
  | loop (l : ALoop)

abbrev Sig := List AObj

structure Ann where
  /-- slots that live on at a region's end -/
  vars : List Nat
  /-- slots that hold a private box -/
  loc : List Nat
  /-- temporaries that are appended to -/
  own : List Nat
  /-- temporaries that point into a private box, and whose it is -/
  into : List (Nat × Nat)
  /-- temporaries that point into what never changes -/
  imp : List Nat
  /-- regions that draw, in which each call leaves the shared boxes as they are -/
  quiet : List Nat
  keep : Bool
  ntmps : Nat
  /-- regions that draw, append an element and fill it where it stands -/
  pen : List Nat := []
  /-- regions, and the slots that live on at their ends -/
  lo : List (Nat × List Nat) := []
  /-- loops, by their first region: the slots that live at their heads, and behind each of their exits -/
  lh : List (Nat × List Nat × List (Option Nat × List Nat)) := []

/-- What the evaluator is told of the program. -/
structure Prg where
  P : Program
  gl : Nat → Option AV
  imm : List TypeId
  ann : FuncId → Option Ann
  /-- functions that hand back their slice -/
  prim : List FuncId := []

structure EE where
  an : Ann
  fn : FuncId
  base : Nat
  round : Option Nat

inductive XExit where
  | normal
  | exit (id : Nat)
  | ret
  deriving DecidableEq

inductive Task where
  | call (g : FuncId) (args : List AV) (σ : Sig)
  | yield (l : Nat) (args : List AV) (σ : Sig)
  | loop (E : EE) (c : Code) (ρ : Env) (σ : Sig)

inductive Res where
  | ret (v : AV) (σ : Sig)
  | code (e : XExit) (ρ : Env) (σ : Sig)

/-! ### Types and constants -/

def aggT (P : Program) (t : TypeId) : Bool :=
  match P.underlying t with
  | some (.struct _) | some (.array ..) => true
  | _ => false

def tyOk (P : Program) (t : TypeId) : Bool := (P.underlying t).isSome && (P.info? t).isSome

def nav : Value → Option AV
  | .int k n => some (.int k n)
  | .bool b => some (.bool b)
  | .string s => some (.str s)
  | .pointer none => some .nilp
  | .nilFunc => some .nilFunc
  | .func (.func g) first cap => if first.size = 0 ∧ cap.size = 0 then some (.func g [] []) else none
  | .nilIface => some .nilIface
  | .map none => some .nilMap
  | _ => none

/-- A constant of a type, as cells. -/
def tcells (P : Program) : Nat → TypeId → Value → Option (List AV)
  | 0, _, _ => none
  | n + 1, t, v =>
    let part (t : TypeId) (cs : Array Value) (off : Nat) : Option (List AV) :=
      if aggT P t then tcells P n t (.agg (cs.extract off (off + P.cellsOf t))) else (cs[off]?).bind (tcells P n t)
    match P.underlying t, v with
    | some (.slice e), .slice none 0 0 => some [.slice (P.cellsOf e) []]
    | some (.slice _), _ => none
    | some (.struct fs), .agg cs =>
      (fs.toList.foldlM (fun acc f => if acc.length = f.offset then (part f.type cs f.offset).bind fun l => if l.length = P.cellsOf f.type then some (acc ++ l) else none else none) ([] : List AV)).bind
        fun l => if l.length = cs.size then some l else none
    | some (.array m e), .agg cs =>
      ((List.range m).foldlM (fun acc i => if acc.length = i * P.cellsOf e then (part e cs (i * P.cellsOf e)).bind fun l => if l.length = P.cellsOf e then some (acc ++ l) else none else none) ([] : List AV)).bind
        fun l => if l.length = cs.size then some l else none
    | some (.struct _), _ => none
    | some (.array ..), _ => none
    | _, v => (nav v).map ([·])

def joinC (agg : Bool) (cs : List AV) : Option AV :=
  if agg then some (.agg cs) else match cs with | [c] => (match c with | .agg _ => none | c => some c) | _ => none

def cval (P : Program) (t : TypeId) (v : Value) : Option AV :=
  match nav v with
  | some a => if aggT P t then none else some a
  | none => (tcells P 6 t v).bind (joinC (aggT P t))

def zeroC (P : Program) (t : TypeId) : Option (List AV) := ((P.info? t).bind (·.zero)).bind (tcells P 6 t)

def nils (cs : List AV) : List Nat := cs.zipIdx.filterMap fun (v, i) => match v with | .slice _ [] => some i | _ => none

/-! ### Operands -/

def opv (G : Prg) (ρ : Env) (t : TypeId) : Operand → Option AV
  | .tmp s => match ρ s with | .val v _ => some v | _ => none
  | .const v => cval G.P t v
  | .global g => G.gl g
  | .func f => some (.func f [] [])

def opo (ρ : Env) : Operand → List Nat
  | .tmp s => match ρ s with | .val _ ow => ow | _ => []
  | .const (.slice none 0 0) => [0]
  | _ => []

def clr (ρ : Env) : Operand → List (Nat × Slot)
  | .tmp s => match ρ s with | .val v _ => [(s, .val v [])] | _ => []
  | _ => []

inductive Ptr where
  | loc (s off : Nat)
  | sh (id off : Nat)
  | im (cs : List AV)

def ptrOf (G : Prg) (ρ : Env) : Operand → Option Ptr
  | .tmp s => match ρ s with
    | .loc _ _ => some (.loc s 0)
    | .lptr s' off => some (.loc s' off)
    | .val (.ptr id off) _ => some (.sh id off)
    | .val (.iptr cs) _ => some (.im cs)
    | _ => none
  | .global g => match G.gl g with | some (.iptr cs) => some (.im cs) | _ => none
  | _ => none

def arrOf (ρ : Env) : Operand → Option (Nat × Nat × List AV)
  | .tmp s => match ρ s with | .arr sz es => some (s, sz, es) | _ => none
  | _ => none

/-- Part of a private row: whose it is, its first elements' number. -/
def larrOf (ρ : Env) : Operand → Option (Nat × Nat)
  | .tmp t => match ρ t with | .larr s h => some (s, h) | _ => none
  | _ => none

def isTemp (an : Ann) (s : Nat) : Bool := !an.vars.contains s && !an.loc.contains s

/-- Is what the operand owns handed on? -/
def takes (an : Ann) (dst : Option Tmp) : Operand → Bool
  | .tmp s => (match dst with | some d => an.own.contains d | none => false) || isTemp an s
  | _ => true

def puts (dst : Option Tmp) (s : Slot) : List (Nat × Slot) := match dst with | some d => [(d, s)] | none => []

def upd (ρ : Env) (t : Nat) (s : Slot) : Env := fun t' => if t' = t then s else ρ t'
def apply (ups : List (Nat × Slot)) (ρ : Env) : Env := ups.foldl (fun ρ u => upd ρ u.1 u.2) ρ

def splice (cs : List AV) (off : Nat) (vs : List AV) : List AV := cs.take off ++ vs ++ cs.drop (off + vs.length)

/-- 'n' cells from 'off' on as a value of a type. -/
def cut (agg : Bool) (cs : List AV) (off n : Nat) : Option AV :=
  let l := (cs.drop off).take n
  if l.length = n then joinC agg l else none

/-- No pointer into the box of a slot is at hand. -/
def noInto (an : Ann) (ρ : Env) (d : Nat) : Bool := an.into.all fun p => p.2 != d || (match ρ p.1 with | .lptr .. => false | .larr .. => false | _ => true)

/-! ### Operators on numbers -/

def abin (op : BinOp) (x y : AV) : Option AV :=
  match op, x, y with
  | .add, .int k a, .int k' b => if k = k' then some (.int k (k.wrap (a + b))) else none
  | .sub, .int k a, .int k' b => if k = k' then some (.int k (k.wrap (a - b))) else none
  | .mul, .int k a, .int k' b => if k = k' then some (.int k (k.wrap (a * b))) else none
  | .rem, .int k a, .int k' b => if k = k' ∧ b ≠ 0 then some (.int k (a.tmod b)) else none
  | .quo, .int k a, .int k' b => if k = k' ∧ b ≠ 0 then some (.int k (k.wrap (a.tdiv b))) else none
  | .and, .int k a, .int k' b => if k = k' then some (.int k (k.wrap (BitVec.ofInt k.bits a &&& BitVec.ofInt k.bits b).toNat)) else none
  | .or, .int k a, .int k' b => if k = k' then some (.int k (k.wrap (BitVec.ofInt k.bits a ||| BitVec.ofInt k.bits b).toNat)) else none
  | .eql, .int k a, .int k' b => if k = k' then some (.bool (a == b)) else none
  | .neq, .int k a, .int k' b => if k = k' then some (.bool (a != b)) else none
  | .lss, .int k a, .int k' b => if k = k' then some (.bool (decide (a < b))) else none
  | .leq, .int k a, .int k' b => if k = k' then some (.bool (decide (a ≤ b))) else none
  | .gtr, .int k a, .int k' b => if k = k' then some (.bool (decide (b < a))) else none
  | .geq, .int k a, .int k' b => if k = k' then some (.bool (decide (b ≤ a))) else none
  | _, _, _ => none

/-! ### One operation -/

def isNil : AV → Option Bool
  | .nilp => some true
  | .iptr _ => some false
  | .ptr _ _ => some false
  | _ => none

/-- The operations that look at no box. -/
def core1 (G : Prg) (E : EE) (o : Oper) (ρ : Env) : Option (List (Nat × Slot)) :=
  let out (s : Slot) : Option (List (Nat × Slot)) := some (puts o.dst s)
  match o.op with
  | .move x | .assign x => do
    let v ← opv G ρ o.type x
    if takes E.an o.dst x then some (clr ρ x ++ puts o.dst (.val v (opo ρ x))) else out (.val v [])
  | .pick c a b => do
    match ← opv G ρ 0 c with
    | .bool b' => out (.val (← opv G ρ o.type (if b' then a else b)) [])
    | _ => none
  | .nilCheck x => do
    match ← opv G ρ 0 x with
    | .ptr id off => out (.val (.ptr id off) [])
    | .iptr cs => out (.val (.iptr cs) [])
    | _ => none
  | .binOp op t x y u => do
    let a ← opv G ρ t x
    let b ← opv G ρ u y
    match G.P.underlying t with
    | some .bool => match op, a, b with
      | .eql, .bool p, .bool q => out (.val (.bool (p == q)) [])
      | .neq, .bool p, .bool q => out (.val (.bool (p != q)) [])
      | _, _, _ => none
    | some (.pointer _) => match op, a, b with
      | .eql, p, .nilp => out (.val (.bool (← isNil p)) [])
      | .neq, p, .nilp => out (.val (.bool (!(← isNil p))) [])
      | _, _, _ => none
    | _ => out (.val (← abin op a b) [])
  | .unOp .not _ x => do
    match ← opv G ρ o.type x with
    | .bool b => out (.val (.bool (!b)) [])
    | _ => none
  | .convert s d x => do
    let v ← opv G ρ s x
    match G.P.underlying s, G.P.underlying d, v with
    | some _, some (.int k), .int _ n => out (.val (.int k (k.wrap n)) [])
    | _, _, _ => none
  | .makeInterface t x => do
    let v ← opv G ρ t x
    match G.P.underlying t with
    | some (.interface _) => none
    | none => none
    | _ => out (.val (.iface t v) [])
  | .makeFunc (.func g) first cap => do
    out (.val (.func g (← first.toList.mapM (opv G ρ 0)) (← cap.toList.mapM (opv G ρ 0))) [])
  | .slice t x lo hi mx => do
    match G.P.underlying t, ← opv G ρ t x with
    | some (.slice e), .slice sz es => do
      if sz ≠ G.P.cellsOf e ∨ sz = 0 then none else
      let num (y : Option Operand) (d : Nat) : Option Nat :=
        match y with
        | none => some d
        | some y => match opv G ρ 0 y with | some (.int _ n) => if 0 ≤ n then some n.toNat else none | _ => none
      let l ← num lo 0
      let h ← num hi es.length
      let m ← num mx h
      if l ≤ h ∧ h ≤ es.length ∧ m = h ∧ (mx.isSome = true → hi.isSome = true) then out (.val (.slice sz ((es.drop l).take (h - l))) (if mx.isSome then [0] else [])) else none
    | _, _ => none
  | .fieldAddr t x f => do
    match G.P.underlying t with
    | some (.struct fs) => do
      let fd ← fs[f]?
      if G.P.cellsOf fd.type = 0 then none else
      match ← ptrOf G ρ x with
      | .loc s off => out (.lptr s (off + fd.offset))
      | .sh id off => out (.val (.ptr id (off + fd.offset)) [])
      | .im cs => out (.val (.iptr (cs.drop fd.offset)) [])
    | _ => none
  | .field t x f => do
    match G.P.underlying t, ← opv G ρ t x with
    | some (.struct fs), .agg cs => do
      let fd ← fs[f]?
      if tyOk G.P fd.type = false then none else
      out (.val (← cut (aggT G.P fd.type) cs fd.offset (G.P.cellsOf fd.type)) [])
    | _, _ => none
  | .indexAddr t x i => do
    match ← opv G ρ 0 i with
    | .int _ n =>
      if n < 0 then none else
      match G.P.underlying t with
      | some (.slice e) => match ← opv G ρ t x with
        | .slice sz es => if sz ≠ G.P.cellsOf e ∨ sz = 0 then none else do out (.val (.iptr (← es[n.toNat]?).cells) [])
        | _ => none
      | some (.array len e) =>
        if n.toNat < len ∧ 1 < len ∧ 0 < G.P.cellsOf e then do
          match ← ptrOf G ρ x with
          | .loc s off => out (.lptr s (off + n.toNat * G.P.cellsOf e))
          | .sh id off => out (.val (.ptr id (off + n.toNat * G.P.cellsOf e)) [])
          | .im cs => out (.val (.iptr (cs.drop (n.toNat * G.P.cellsOf e))) [])
        else none
      | _ => none
    | _ => none
  | .index t x i => do
    match ← opv G ρ 0 i with
    | .int _ n =>
      if n < 0 then none else
      match G.P.underlying t, ← opv G ρ t x with
      | some (.array len e), .agg cs => if n.toNat < len ∧ tyOk G.P e = true then do out (.val (← cut (aggT G.P e) cs (n.toNat * G.P.cellsOf e) (G.P.cellsOf e)) []) else none
      | _, _ => none
    | _ => none
  | .build t parts => do
    let z ← zeroC G.P t
    match G.P.underlying t with
    | some (.struct fs) => do
      if (fs.all fun f => (G.P.info? f.type).isSome) = false then none else
      let (cs, ow) ← parts.toList.foldlM (fun (acc : List AV × List Nat) p => do
        let fd ← fs[p.1]?
        let v ← opv G ρ fd.type p.2
        let n := G.P.cellsOf fd.type
        if v.cells.length = n ∧ v.okc = true ∧ fd.offset + n ≤ acc.1.length then
          some (splice acc.1 fd.offset v.cells, acc.2.filter (fun i => i < fd.offset || fd.offset + n ≤ i))
        else none) (z, nils z)
      out (.val (.agg cs) ow)
    | some (.array len e) => do
      if (G.P.info? e).isSome = false then none else
      let cs ← parts.toList.foldlM (fun (acc : List AV) p => do
        let v ← opv G ρ e p.2
        let n := G.P.cellsOf e
        if v.cells.length = n ∧ v.okc = true ∧ p.1 < len ∧ p.1 * n + n ≤ acc.length then some (splice acc (p.1 * n) v.cells) else none) z
      out (.val (.agg cs) [])
    | _ => none
  | .buildSlice t len parts => do
    match G.P.underlying t with
    | some (.slice e) => do
      let n := G.P.cellsOf e
      let z ← joinC (aggT G.P e) (← zeroC G.P e)
      if z.cells.length ≠ n ∨ n = 0 ∨ len * n > 2 ^ 24 then none else
      let es ← parts.toList.foldlM (fun (acc : List AV) p => do
        let v ← opv G ρ e p.2
        if v.cells.length = n ∧ v.okc = true ∧ p.1 < len then some (acc.set p.1 v) else none) (List.replicate len z)
      out (.val (.slice n es) [0])
    | _ => none
  | .typeAssert x _ t ok => do
    match G.P.underlying t, ← opv G ρ 0 x with
    | some (.interface _), _ => none
    | some _, .iface t' v =>
      if t = t' then out (.val (if ok then .tuple [v, .bool true] else v) [])
      else if ok then do out (.val (.tuple [← joinC (aggT G.P t) (← zeroC G.P t), .bool false]) [])
      else none
    | _, _ => none
  | .extract x i => do
    match ← opv G ρ 0 x with
    | .tuple vs => do out (.val (← vs[i]?) [])
    | _ => none
  | .call { callee := .builtin .len, args, argTypes } => do
    let t ← argTypes[0]?
    match G.P.underlying t, ← opv G ρ t (← args[0]?) with
    | some (.slice _), .slice _ es => out (.val (.int .i64 es.length) [])
    | _, _ => none
  | .call { callee := .builtin .min, args, argTypes := _ } => do
    match args.toList with
    | [x, y] => match ← opv G ρ o.type x, ← opv G ρ o.type y with
      | .int k a, .int k' b => if k = k' then out (.val (.int k (if b < a then b else a)) []) else none
      | _, _ => none
    | _ => none
  | .call { callee := .builtin .max, args, argTypes := _ } => do
    match args.toList with
    | [x, y] => match ← opv G ρ o.type x, ← opv G ρ o.type y with
      | .int k a, .int k' b => if k = k' then out (.val (.int k (if a < b then b else a)) []) else none
      | _, _ => none
    | _ => none
  | .call { callee := .builtin .append, args, argTypes } => do
    match args.toList, argTypes.toList with
    | [x, y], [tx, ty] => do
      match G.P.underlying tx, G.P.underlying ty with
      | some (.slice e), some (.slice _) => do
        match ← opv G ρ tx x, ← opv G ρ ty y with
        | .slice sz es, .slice sz' es' =>
          if tx = ty ∧ sz = G.P.cellsOf e ∧ sz' = sz ∧ 0 < sz ∧ (opo ρ x).contains 0 ∧ es.length + es'.length ≤ 4294967296 ∧ ((G.P.info? e).map (·.bytes)).getD 0 ≤ 1024 ∧ 0 < ((G.P.info? e).map (·.bytes)).getD 0
              ∧ ((zeroC G.P e).map (·.length)) = some sz then
            some (clr ρ x ++ puts o.dst (.val (.slice sz (es ++ es')) [0]))
          else none
        | _, _ => none
      | _, _ => none
    | _, _ => none
  | _ => none

/-- The operations on a slice in a private row ('none': it is none of these). -/
def arrOp (G : Prg) (E : EE) (o : Oper) (ρ : Env) : Option (Option (List (Nat × Slot))) :=
  let out (s : Slot) : Option (Option (List (Nat × Slot))) := some (some (puts o.dst s))
  match o.op with
  | .move x | .assign x =>
    match arrOf ρ x with
    | some (s, sz, es) => match o.dst with
      | some d => if E.an.loc.contains d then (if s ≠ d ∧ noInto E.an ρ d = true ∧ noInto E.an ρ s = true then some (some [(s, .none), (d, .arr sz es)]) else some none) else some (some [(d, .larr s es.length)])
      | none => some none
    | none => match larrOf ρ x with
      | some (s, h) => out (.larr s h)
      | none => none
  | .buildSlice t len parts => match o.dst with
    | some d => if E.an.loc.contains d then some (do
      match G.P.underlying t with
      | some (.slice e) => do
        let n := G.P.cellsOf e
        let z ← joinC (aggT G.P e) (← zeroC G.P e)
        if z.cells.length ≠ n ∨ n = 0 ∨ len * n > 2 ^ 24 ∨ len = 0 ∨ noInto E.an ρ d = false then none else
        let es ← parts.toList.foldlM (fun (acc : List AV) p => do
          let v ← opv G ρ e p.2
          if v.cells.length = n ∧ v.okc = true ∧ p.1 < len then some (acc.set p.1 v) else none) (List.replicate len z)
        some [(d, .arr n es)]
      | _ => none) else none
    | none => none
  | .indexAddr t x i => match larrOf ρ x with
    | some (s, h) => some (do
      match ρ s, G.P.underlying t, ← opv G ρ 0 i with
      | .arr sz _, some (.slice e), .int _ n => if 0 ≤ n ∧ n.toNat < h ∧ sz = G.P.cellsOf e ∧ sz ≠ 0 then some (puts o.dst (.lptr s (n.toNat * sz))) else none
      | _, _, _ => none)
    | none => none
  | .slice t x lo hi mx => match larrOf ρ x with
    | some (s, h) => some (do
      match ρ s, G.P.underlying t, lo, hi, mx with
      | .arr sz _, some (.slice e), none, some y, none => do
        match ← opv G ρ 0 y with
        | .int _ n => if 0 ≤ n ∧ n.toNat ≤ h ∧ sz = G.P.cellsOf e ∧ sz ≠ 0 then some (puts o.dst (.larr s n.toNat)) else none
        | _ => none
      | _, _, _, _, _ => none)
    | none => none
  | .load t a => match ptrOf G ρ a with
    | some (.loc s off) => match ρ s with
      | .arr _ es => some (if tyOk G.P t = false then none else (cut (aggT G.P t) (es.flatMap AV.cells) off (G.P.cellsOf t)).map fun v => puts o.dst (.val v []))
      | _ => none
    | _ => none
  | .call { callee := .builtin .len, args, argTypes } => match args[0]? with
    | some x => match larrOf ρ x with
      | some (_, h) => some (match (argTypes[0]?).bind G.P.underlying with
        | some (.slice _) => some (puts o.dst (.val (.int .i64 h) []))
        | _ => none)
      | none => none
    | none => none
  | .call { callee := .builtin .append, args, argTypes } => match args.toList, argTypes.toList with
    | [x, y], [tx, ty] => match larrOf ρ x with
      | some (s, h) => some (do
        match ρ s, o.dst, G.P.underlying tx, ← opv G ρ ty y with
        | .arr sz es, some d, some (.slice e), .slice sz' es' =>
          if (E.an.into.all fun p => !E.an.loc.contains p.1) = true ∧ E.an.loc.contains d = true ∧ d ≠ s ∧ noInto E.an ρ d = true ∧ h ≤ es.length ∧ tx = ty ∧ sz = G.P.cellsOf e ∧ sz' = sz ∧ 0 < sz ∧ h + es'.length ≤ 4294967296 ∧ ((G.P.info? e).map (·.bytes)).getD 0 ≤ 1024 ∧ 0 < ((G.P.info? e).map (·.bytes)).getD 0
              ∧ ((zeroC G.P e).map (·.length)) = some sz then
            some ((E.an.into.filter (·.2 == s)).map (fun p => (p.1, Slot.none)) ++ [(s, .none), (d, .arr sz (es.take h ++ es'))])
          else none
        | _, _, _, _ => none)
      | none => none
    | _, _ => none
  | _ => none

/-- One operation, calls aside; 'σ' is handed through. -/
def core (G : Prg) (E : EE) (o : Oper) (ρ : Env) (σ : Sig) : Option (List (Nat × Slot) × Sig) :=
  let out (s : Slot) : Option (List (Nat × Slot) × Sig) := some (puts o.dst s, σ)
  match o.op with
  | .alloc t => do
    let cs ← zeroC G.P t
    let d ← o.dst
    if E.an.loc.contains d then (if noInto E.an ρ d then out (.loc cs (nils cs)) else none) else some (puts o.dst (.val (.ptr σ.length 0) []), σ ++ [.box cs (nils cs)])
  | .box t x => do
    let v ← opv G ρ t x
    let d ← o.dst
    if v.okc = false then none else
    if E.an.loc.contains d then (if noInto E.an ρ d then out (.loc v.cells []) else none)
    else if G.imm.contains t then out (.val (.iptr v.cells) [])
    else some (puts o.dst (.val (.ptr σ.length 0) []), σ ++ [.box v.cells []])
  | .load t a => do
    if tyOk G.P t = false then none else
    let n := G.P.cellsOf t
    match ← ptrOf G ρ a with
    | .im cs => out (.val (← cut (aggT G.P t) cs 0 n) [])
    | .loc s off => match ρ s with
      | .loc cs ow => do
        let v ← cut (aggT G.P t) cs off n
        let d ← o.dst
        if E.an.own.contains d ∧ ow.contains off ∧ n = 1 then some ([(s, .loc cs (ow.filter (· != off)))] ++ puts o.dst (.val v [0]), σ) else out (.val v [])
      | _ => none
    | .sh id off => match σ[id]? with
      | some (.box cs ow) => do
        let v ← cut (aggT G.P t) cs off n
        let d ← o.dst
        if E.an.own.contains d ∧ ow.contains off ∧ n = 1 then some (puts o.dst (.val v [0]), σ.set id (.box cs (ow.filter (· != off)))) else out (.val v [])
      | _ => none
  | .store t a x => do
    let v ← opv G ρ t x
    let n := G.P.cellsOf t
    if v.cells.length ≠ n ∨ v.okc = false ∨ (G.P.info? t).isSome = false then none else
    let new := if takes E.an none x then (opo ρ x).filter (· < n) else []
    let cl := if takes E.an none x then clr ρ x else []
    match ← ptrOf G ρ a with
    | .im _ => none
    | .loc s off => match ρ s with
      | .loc cs ow => if off + n ≤ cs.length then some (cl ++ [(s, .loc (splice cs off v.cells) (ow.filter (fun i => i < off || off + n ≤ i) ++ new.map (off + ·)))] ++ puts o.dst (.val (.tuple []) []), σ) else none
      | _ => none
    | .sh id off => match σ[id]? with
      | some (.box cs ow) =>
        if off + n ≤ cs.length ∧ (E.base ≤ id ∨ v.flat = true) then
          some (cl ++ puts o.dst (.val (.tuple []) []), σ.set id (.box (splice cs off v.cells) (ow.filter (fun i => i < off || off + n ≤ i) ++ new.map (off + ·))))
        else none
      | _ => none
  | _ => (core1 G E o ρ).map fun u => (u, σ)

/-- The function that a method of an interface value is. -/
def methodOf (P : Program) (t : TypeId) (name : String) : Option FuncId :=
  match (P.info? t).bind (·.methods.find? (·.name == name)) with
  | some m => if m.path.size = 0 then (match m.func, P.underlying t with
      | some (f, true), some (.pointer _) => some f
      | some (f, false), some (.struct _) => some f
      | _, _ => none) else none
  | none => none

/-- Whom an operation calls, and with what. -/
def callOf (G : Prg) (ρ : Env) (o : Oper) : Option (Sum FuncId Nat × List AV) :=
  match o.op with
  | .call c => do
    let args ← (c.args.toList.zip c.argTypes.toList).mapM fun (x, t) => opv G ρ t x
    if c.args.size ≠ c.argTypes.size then none else
    match c.callee with
    | .value f => match ← opv G ρ 0 f with
      | .func g first cap => some (.inl g, first ++ args ++ cap)
      | .yield l => some (.inr l, args)
      | _ => none
    | .invoke r name => match ← opv G ρ 0 r with
      | .iface t v => do some (.inl (← methodOf G.P t name), v :: args)
      | _ => none
    | .builtin _ => none
  | _ => none

def isCall (o : Oper) : Bool :=
  match o.op with
  | .call { callee := .builtin _, .. } => false
  | .call _ => true
  | _ => false

inductive SMode where
  | no | read | write
  deriving DecidableEq

def intoOf (an : Ann) : Operand → List Nat
  | .tmp t => if an.loc.contains t then [t] else ((an.into.lookup t).toList)
  | _ => []

def gslot (ops : Array Oper) (o : Oper) : List Nat :=
  match o.guard with
  | none => []
  | some (j, _) => (((ops[j]?).bind (·.dst))).toList

/-- The slots that an operation looks at. -/
def rdOf (an : Ann) (ops : Array Oper) (o : Oper) : List Nat :=
  gslot ops o ++ (match o.op, o.dst with
    | .alloc _, some d | .box _ _, some d | .buildSlice _ _ _, some d => (an.into.filter (·.2 == d)).map (·.1)
    | .move x, some d | .assign x, some d => if an.loc.contains d then ((an.into.filter fun p => p.2 == d || (match x with | .tmp s => p.2 == s | _ => false)).map (·.1)) else []
    | .call { callee := .builtin .append, args := _, argTypes := _ }, some d => if an.loc.contains d then (an.into.filter (·.2 == d)).map (·.1) else []
    | _, _ => []) ++ (o.op.operands.toList.flatMap fun x => (match x with | .tmp t => [t] | _ => []) ++ intoOf an x)

/-- The slots that it may write. -/
def wrOf (an : Ann) (o : Oper) : List Nat :=
  o.dst.toList ++ (match o.op with
  | .move x | .assign x => match x with | .tmp s => if takes an o.dst x || (an.loc.contains s && (match o.dst with | some d => an.loc.contains d | none => false)) then [s] else [] | _ => []
  | .load _ a => match o.dst with | some d => if an.own.contains d then intoOf an a else [] | none => []
  | .store _ a x => intoOf an a ++ (match x with | .tmp s => if takes an none x then [s] else [] | _ => [])
  | .call { callee := .builtin .append, args, argTypes := _ } => match (args[0]? : Option Operand) with | some (Operand.tmp s) => [s] ++ (match o.dst with | some d => if an.loc.contains d then (match an.into.lookup s with | some q => [q] ++ (an.into.filter (·.2 == q)).map (·.1) | none => []) else [] | none => []) | _ => []
  | _ => [])

def modeOf (G : Prg) (an : Ann) (quiet : Bool) (o : Oper) : SMode :=
  match o.op with
  | .load _ a => match intoOf an a, o.dst with
    | _ :: _, _ => .no
    | [], d => if (match a with | .tmp t => an.imp.contains t | _ => false) then .no else match d with | some d => if an.own.contains d then .write else .read | none => .read
  | .store _ a _ => match intoOf an a with | [] => .write | _ => .no
  | .alloc _ => match o.dst with | some d => if an.loc.contains d then .no else .write | none => .no
  | .box t _ => match o.dst with | some d => if an.loc.contains d || G.imm.contains t then .no else .write | none => .no
  | .call { callee := .builtin _, .. } => .no
  | .call _ => if quiet then .no else .write
  | _ => .no

def want (ρ : Env) (ops : Array Oper) (o : Oper) : Option Bool :=
  match o.guard with
  | none => some true
  | some (j, w) => match (ops[j]?).bind (·.dst) with
    | none => none
    | some d => match ρ d with
      | .val (.bool b) _ => some (b == w)
      | .val (.tuple []) _ => some false
      | _ => none

def retOf : Option Res → Option (AV × Sig)
  | some (.ret v σ) => some (v, σ)
  | _ => none

def stepOp (G : Prg) (E : EE) (O : Task → Option Res) (ops : Array Oper) (quiet : Bool) (o : Oper) (ρ : Env) (σ : Sig) : Option (List (Nat × Slot) × Sig) :=
  match want ρ ops o with
  | none => none
  | some false => some (puts o.dst (.val (.tuple []) []), σ)
  | some true =>
    if isCall o then
      match callOf G ρ o with
      | none => none
      | some (.inl g, args) =>
        match (if AV.flatL args then retOf (O (.call g args [])) else none) with
        | some (v, []) => some (puts o.dst (.val v []), σ)
        | _ =>
          if quiet then none else
          match retOf (O (.call g args σ)) with
          | some (v, σ') => some (puts o.dst (.val v []), σ')
          | none => none
      | some (.inr l, args) =>
        if quiet then none else
        match retOf (O (.yield l args σ)) with
        | some (v, σ') => some (puts o.dst (.val v []), σ')
        | none => none
    else match arrOp G E o ρ with
      | some r => r.map fun u => (u, σ)
      | none => core G E o ρ σ

/-- Private boxes stand in their own slots, pointers into them in theirs. -/
def fitsSlot (an : Ann) (t : Nat) : Slot → Bool
  | .loc _ _ => an.loc.contains t
  | .lptr s _ => an.loc.contains s && (an.into.lookup t == some s) && !an.loc.contains t
  | .larr s _ => an.loc.contains s && (an.into.lookup t == some s) && !an.loc.contains t
  | .arr _ _ => an.loc.contains t
  | .none => true
  | _ => !an.loc.contains t

def mask (l : List Nat) (ρ : Env) : Env := fun t => if l.contains t then ρ t else .none

def aop (G : Prg) (E : EE) (O : Task → Option Res) (ops : Array Oper) (quiet : Bool) (o : Oper) (ρ : Env) (σ : Sig) : Option (Env × Sig) :=
  match stepOp G E O ops quiet o (mask (rdOf E.an ops o) ρ) (if modeOf G E.an quiet o = .no then [] else σ) with
  | none => none
  | some (ups, σ') =>
    if ups.all (fun u => (wrOf E.an o).contains u.1 && decide (u.1 < E.an.ntmps) && fitsSlot E.an u.1 u.2) then
      some (apply ups ρ, if modeOf G E.an quiet o = .write then σ' else σ)
    else none

/-! ### Regions that draw their order -/

/-- A load that takes over what the box owns: it changes nothing else. -/
def isTake (G : Prg) (an : Ann) (quiet : Bool) (o : Oper) : Bool :=
  (match o.op with | .load _ _ => true | _ => false) && decide (modeOf G an quiet o = .write)

def indep (G : Prg) (an : Ann) (quiet : Bool) (ops : Array Oper) (p o : Oper) : Bool :=
  (wrOf an p).all (fun t => !(rdOf an ops o).contains t && !(wrOf an o).contains t) && (wrOf an o).all (fun t => !(rdOf an ops p).contains t) &&
  (match modeOf G an quiet p, modeOf G an quiet o with
   | .no, _ => true
   | _, .no => true
   | .read, .read => true
   | .read, .write => isTake G an quiet o
   | .write, .read => isTake G an quiet p
   | _, _ => false)

/-- Is operation i made before operation j in whatever order? -/
def bef (ops : Array Oper) : Nat → Nat → Nat → Bool
  | 0, _, _ => false
  | f + 1, i, j => match ops[j]? with
    | none => false
    | some o => o.after.toList.any fun e => Region.binds .any e && (e.on == i || bef ops f i e.on)

def regionOK (G : Prg) (an : Ann) (quiet : Bool) (ops : Array Oper) : Bool :=
  (List.range ops.size).all fun j => match ops[j]? with
    | none => true
    | some o => (o.after.toList.all fun e => !Region.binds .any e || decide (e.on < j)) &&
      (List.range j).all fun i => match ops[i]? with
        | none => true
        | some p => bef ops 8 i j || indep G an quiet ops p o

/-- Such a region: what comes first, the append, the element's address, what is stored there, where the slice is stored. -/
def penParts (ops : Array Oper) : Option (List Oper × Oper × Oper × Oper × Oper) :=
  match ops.toList.drop (ops.size - 4) with
  | [A, I, S, B] => some (ops.toList.take (ops.size - 4), A, I, S, B)
  | _ => none

def apart2 (d q : Nat) : Operand → Bool
  | .tmp t => t != d && t != q
  | _ => true

/-- What the append, the address and the store of the element come to together. -/
def penUps (G : Prg) (E : EE) (A I S B : Oper) (ρ : Env) : Option (List (Nat × Slot)) :=
  match A.op, I.op, S.op, B.op with
  | .call { callee := .builtin .append, args, argTypes }, .indexAddr ti (.tmp d1) ii, .store ts (.tmp q1) vs, .store _ pb (.tmp d2) =>
    match args.toList, argTypes.toList, A.dst, I.dst, S.dst, B.dst with
    | [x, y], [tx, ty], some d, some q, none, none =>
      match G.P.underlying tx, opv G ρ tx x, opv G ρ ty y, opv G ρ 0 ii, opv G ρ ts vs with
      | some (.slice e), some (.slice sz es), some (.slice sz' es'), some (.int _ n), some v =>
        if (d1 = d ∧ d2 = d ∧ q1 = q ∧ d ≠ q ∧ tx = ty ∧ ti = tx ∧ d < E.an.ntmps ∧ q < E.an.ntmps) ∧
            (E.an.loc.contains d = false ∧ E.an.loc.contains q = false ∧ apart2 d q x = true ∧ apart2 d q ii = true ∧ apart2 d q vs = true ∧ apart2 d q pb = true) ∧
            (A.guard.isNone = true ∧ I.guard.isNone = true ∧ S.guard.isNone = true ∧ B.guard.isNone = true) ∧
            (sz = G.P.cellsOf e ∧ sz' = sz ∧ 0 < sz ∧ es'.length = 1 ∧ (opo ρ x).contains 0 = true ∧ ((G.P.info? e).map (·.bytes)).getD 0 ≤ 1024 ∧ 0 < ((G.P.info? e).map (·.bytes)).getD 0 ∧ ((zeroC G.P e).map (·.length)) = some sz) ∧
            (G.P.cellsOf ts = sz ∧ v.cells.length = sz ∧ v.okc = true ∧ (G.P.info? ts).isSome = true) ∧ (n = (es.length : Int) ∧ es.length + 1 ≤ 4294967296) then
          some (clr ρ x ++ [(d, .val (.slice sz (es ++ [v])) [0]), (q, .val .any [])])
        else none
      | _, _, _, _, _ => none
    | _, _, _, _, _, _ => none
  | _, _, _, _ => none

/-- Such a region in whatever order. -/
def penOK (G : Prg) (an : Ann) (quiet : Bool) (ops : Array Oper) : Bool :=
  let m := ops.size - 4
  decide (4 ≤ ops.size) &&
  ((List.range ops.size).all fun j => match ops[j]? with
    | none => true
    | some o => (o.after.toList.all fun e => !Region.binds .any e || decide (e.on < j)) &&
      (decide (m ≤ j) || ((List.range j).all fun i => match ops[i]? with
        | none => true
        | some p => bef ops 8 i j || indep G an quiet ops p o))) &&
  ((List.range m).all fun i => bef ops 8 i m) && bef ops 8 m (m + 1) && bef ops 8 m (m + 3) && bef ops 8 (m + 1) (m + 2)

def regionsOK (G : Prg) (an : Ann) : Code → Bool
  | .seq a b => regionsOK G an a && regionsOK G an b
  | .cond _ a b => regionsOK G an a && regionsOK G an b
  | .block _ b => regionsOK G an b
  | .loop b => regionsOK G an b
  | .region id ops draw => !draw || (if an.pen.contains id then penOK G an (draw && an.quiet.contains id) ops else regionOK G an (draw && an.quiet.contains id) ops)
  | .rangeFunc _ _ a b => regionsOK G an a && regionsOK G an b
  | _ => true

def aops (G : Prg) (E : EE) (O : Task → Option Res) (ops : Array Oper) (quiet : Bool) : List Oper → Env → Sig → Option (Env × Sig)
  | [], ρ, σ => some (ρ, σ)
  | o :: r, ρ, σ => match aop G E O ops quiet o ρ σ with
    | none => none
    | some (ρ', σ') => aops G E O ops quiet r ρ' σ'

def aregion (G : Prg) (E : EE) (O : Task → Option Res) (id : Nat) (ops : Array Oper) (draw : Bool) (ρ : Env) (σ : Sig) : Option (Env × Sig) :=
  if draw && E.an.pen.contains id then
    match penParts ops with
    | some (front, A, I, S, B) => match aops G E O ops (draw && E.an.quiet.contains id) front ρ σ with
      | some (ρ1, σ1) => match penUps G E A I S B ρ1 with
        | some ups => aop G E O ops (draw && E.an.quiet.contains id) B (apply ups ρ1) σ1
        | none => none
      | none => none
    | none => none
  else aops G E O ops (draw && E.an.quiet.contains id) ops.toList ρ σ

def clean : Slot → Slot
  | .lptr _ _ => .none
  | .larr _ _ => .none
  | s => s

def mkEnv : List (Nat × Slot) → Env
  | [], _ => .none
  | (k, s) :: r, t => if t = k then s else mkEnv r t

def forget (vars : List Nat) (ρ : Env) : Env := mkEnv (vars.map fun t => (t, clean (ρ t)))

/-- What a round of a range over a function sees of the frame. -/
def roundEnv (ρ : Env) : Env := fun t => match ρ t with
  | .val v _ => .val v []
  | _ => .none

/-- The first region of a code. -/
def headId : Code → Option Nat
  | .seq a b => match headId a with | some n => some n | none => headId b
  | .cond _ a b => match headId a with | some n => some n | none => headId b
  | .block _ b => headId b
  | .loop b => headId b
  | .region id _ _ => some id
  | _ => none

def Ann.outOf (an : Ann) (id : Nat) : List Nat := (an.lo.lookup id).getD an.vars
def Ann.headOf (an : Ann) (b : Code) : List Nat := match (headId b).bind (an.lh.lookup ·) with | some x => x.1 | none => an.vars
def XExit.key : XExit → Option Nat
  | .exit id => some id
  | _ => none
def Ann.exitOf (an : Ann) (b : Code) (e : XExit) : List Nat := match (headId b).bind (an.lh.lookup ·) with | some x => (x.2.lookup e.key).getD an.vars | none => an.vars

/-- A round's loop is at hand. -/
def roundOk (E : EE) (σ : Sig) : Bool := match E.round with | none => true | some l => (match σ[l]? with | some (.loop _) => true | _ => false)

def execC (G : Prg) (E : EE) (O : Task → Option Res) : Code → Env → Sig → Option (XExit × Env × Sig)
  | .skip, ρ, σ => some (.normal, ρ, σ)
  | .ret, ρ, σ => some (.ret, ρ, σ)
  | .exit id, ρ, σ => some (.exit id, ρ, σ)
  | .seq a b, ρ, σ => match execC G E O a ρ σ with
    | some (.normal, ρ', σ') => execC G E O b ρ' σ'
    | r => r
  | .cond c a b, ρ, σ => match opv G ρ 0 c with
    | some (.bool true) => execC G E O a ρ σ
    | some (.bool false) => execC G E O b ρ σ
    | _ => none
  | .block id b, ρ, σ => match execC G E O b ρ σ with
    | some (.exit id', ρ', σ') => some (if id' = id then .normal else .exit id', ρ', σ')
    | r => r
  | .loop b, ρ, σ => match execC G E O b (forget (E.an.headOf b) ρ) σ with
    | some (.normal, ρ', σ') => match O (.loop E (.loop b) (forget (E.an.headOf b) ρ') σ') with
      | some (.code e ρ'' σ'') => some (e, forget (E.an.exitOf b e) ρ'', σ'')
      | _ => none
    | some (e, ρ', σ') => some (e, forget (E.an.exitOf b e) ρ', σ')
    | none => none
  | .region id ops draw, ρ, σ => match aregion G E O id ops draw ρ σ with
    | some (ρ', σ') => some (.normal, forget (E.an.outOf id) ρ', σ')
    | none => none
  | .rangeFunc f ps assign body, ρ, σ => match opv G ρ 0 f with
    | some (.func g first cap) =>
      if roundOk E σ = false then none else
      if (ps.toList.all fun t => decide (t < E.an.ntmps) && !E.an.loc.contains t) = false then none else
      let L : ALoop := { fn := E.fn, env := roundEnv ρ, params := ps, assign, body, state := .ready, pending := none }
      match retOf (O (.call g (first ++ [.yield σ.length] ++ cap) (σ ++ [.loop L]))) with
      | some (_, σ2) => match σ2[σ.length]? with
        | some (.loop L') =>
          if L'.state = .busy then none else
          let σ3 := σ2.set σ.length (.loop { L' with state := .exhausted })
          match L'.pending with
          | none => some (.normal, ρ, σ3)
          | some .ret => some (.ret, ρ, σ3)
          | some (.exit id) => some (.exit id, ρ, σ3)
          | _ => none
        | _ => none
      | none => none
    | _ => none
  | _, _, _ => none

def resOf (G : Prg) (ρ : Env) (σ : Sig) : ResultVar → Option AV
  | .tmp t => match ρ t with | .val v _ => some v | _ => none
  | .cell a t => if tyOk G.P t = false then none else match ρ a with
    | .loc cs _ => cut (aggT G.P t) cs 0 (G.P.cellsOf t)
    | .val (.ptr id off) _ => match σ[id]? with | some (.box cs _) => cut (aggT G.P t) cs off (G.P.cellsOf t) | _ => none
    | _ => none

def startEnv (an : Ann) (args : List AV) : Env := fun t => if an.loc.contains t then .none else match args[t]? with
  | some v => .val v []
  | none => if t < an.ntmps then .val (.tuple []) [] else .none

def results1 (vs : List AV) : AV := match vs with | [v] => v | vs => .tuple vs

/-- What a function that hands back its slice does. -/
def primOf (args : List AV) : Option AV :=
  match args with
  | [.slice sz es] => if sz = 1 ∧ es.length ≤ 4294967296 then some (.slice sz es) else none
  | _ => none

def stepT (G : Prg) (O : Task → Option Res) : Task → Option Res
  | .call g args σ => if G.prim.contains g then (primOf args).map fun v => .ret v σ else match G.ann g, G.P.funcs[g]? with
    | some an, some fn => match fn.body with
      | some c =>
        if args.length ≤ an.ntmps then
        match execC G { an, fn := g, base := σ.length, round := none } O c (startEnv an args) σ with
        | some (.exit _, _, _) => none
        | some (_, ρ', σ') => match fn.results.toList.mapM (resOf G ρ' σ') with
          | some vs =>
            if σ'.length ≤ σ.length || an.keep then some (.ret (results1 vs) σ')
            else if (results1 vs).flat then some (.ret (results1 vs) (σ'.take σ.length))
            else none
          | none => none
        | none => none
        else none
      | none => none
    | _, _ => none
  | .yield l args σ => match σ[l]? with
    | some (.loop L) => match G.ann L.fn with
      | some an =>
        if L.state = .ready ∧ args.length = L.params.size then
          let E : EE := { an, fn := L.fn, base := σ.length, round := some l }
          match execC G E O L.assign (apply ((L.params.toList.zip args).map fun (t, v) => (t, .val v [])) L.env) σ with
          | some (.normal, ρ1, σ1) => match σ1[l]? with
            | some (.loop L1) => if L1.state = .ready then
              match execC G E O L.body ρ1 (σ1.set l (.loop { L1 with state := .busy })) with
              | some (e, _, σ2) => match σ2[l]? with
                | some (.loop L2) => match e with
                  | .normal => some (.ret (.bool true) (σ2.set l (.loop { L2 with state := .ready, pending := none })))
                  | .ret => some (.ret (.bool false) (σ2.set l (.loop { L2 with state := .done, pending := some .ret })))
                  | .exit id => some (.ret (.bool false) (σ2.set l (.loop { L2 with state := .done, pending := some (.exit id) })))
                | _ => none
              | none => none
              else none
            | _ => none
          | _ => none
        else none
      | none => none
    | _ => none
  | .loop E c ρ σ => match c with
    | .loop _ => match execC G E O c ρ σ with
      | some (e, ρ', σ') => some (.code e ρ' σ')
      | none => none
    | _ => none

/-- The evaluator with a bound on the depth of calls and rounds. -/
def F (G : Prg) : Nat → Task → Option Res
  | 0, _ => none
  | n + 1, t => stepT G (F G n) t

end Go.AI

