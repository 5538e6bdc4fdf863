/- The abstract machine as a tree of questions: whatever stands on an unknown value is asked; a script answers; what it answered is owed. -/
import Derived.Test.YtdpamhejneicdaaGreatDoorZAI1
namespace Go.AI
set_option linter.unusedVariables false
set_option linter.unusedSimpArgs false
open Go

inductive Tree where
  | done (r : Option Res)
  | ask (b : Bool) (k : Bool → Tree)
  | nat (n : Int) (k : Nat → Tree)
  | get (ty : TypeId) (es : List AV) (i : Nat) (k : AV → Tree)
  | chk (p : Bool) (k : Tree)
  | box (σ : Sig) (id : Nat) (k : List AV → List Nat → Tree)
  | lp (σ : Sig) (id : Nat) (k : ALoop → Tree)
  | cutq (ty : TypeId) (agg : Bool) (cs : List AV) (off n : Nat) (k : AV → Tree)
  | call (ty : TypeId) (g : FuncId) (args : List AV) (σ : Sig) (quiet : Bool) (k : AV → Sig → Tree)
  | yield (ty : TypeId) (l : Nat) (args : List AV) (σ : Sig) (k : AV → Sig → Tree)
  | loopc (E : EE) (b : Code) (ρ : Env) (σ : Sig) (k : XExit → Env → Sig → Tree)
  | loopo (E : EE) (b : Code) (ρ : Env) (σ : Sig) (k : XExit → Env → Sig → Tree)

def callRes (O : Task → Option Res) (g : FuncId) (args : List AV) (σ : Sig) (quiet : Bool) : Option (AV × Sig) :=
  match (if AV.flatL args then retOf (O (.call g args [])) else none) with
  | some (v, []) => some (v, σ)
  | _ => if quiet then none else retOf (O (.call g args σ))

def codeOf : Option Res → Option (XExit × Env × Sig)
  | some (.code e ρ σ) => some (e, ρ, σ)
  | _ => none

def Tree.run (G : Prg) (O : Task → Option Res) : Tree → Option Res
  | .done r => r
  | .ask b k => (k b).run G O
  | .nat n k => if 0 ≤ n then (k n.toNat).run G O else none
  | .get _ es i k => match es[i]? with | some a => (k a).run G O | none => none
  | .chk p k => if p then k.run G O else none
  | .box σ id k => match σ[id]? with | some (.box cs ow) => (k cs ow).run G O | _ => none
  | .lp σ id k => match σ[id]? with | some (.loop L) => (k L).run G O | _ => none
  | .cutq _ agg cs off n k => match cut agg cs off n with | some v => (k v).run G O | none => none
  | .call _ g args σ quiet k => match callRes O g args σ quiet with | some (v, σ') => (k v σ').run G O | none => none
  | .yield _ l args σ k => match retOf (O (.yield l args σ)) with | some (v, σ') => (k v σ').run G O | none => none
  | .loopc E b ρ σ k => match execC G E O (.loop b) ρ σ with | some (e, ρ', σ') => (k e ρ' σ').run G O | none => none
  | .loopo E b ρ σ k => match codeOf (O (.loop E (.loop b) ρ σ)) with | some (e, ρ', σ') => (k e ρ' σ').run G O | none => none

/-! ### One operation -/

/-- An operation that calls nothing, as the evaluator has it. -/
def stepNC (G : Prg) (E : EE) (o : Oper) (ρ : Env) (σ : Sig) : Option (List (Nat × Slot) × Sig) :=
  match arrOp G E o ρ with
  | some r => r.map fun u => (u, σ)
  | none => core G E o ρ σ

def dfltT (G : Prg) (E : EE) (o : Oper) (ρ : Env) (σ : Sig) (k : List (Nat × Slot) → Sig → Tree) : Tree :=
  match stepNC G E o ρ σ with
  | some (u, s) => k u s
  | none => .done none

def natOf (G : Prg) (ρ : Env) (y : Option Operand) (d : Nat) (k : Nat → Tree) : Tree :=
  match y with
  | none => k d
  | some y => match opv G ρ 0 y with
    | some (.int _ n) => .nat n k
    | _ => .done none

def opT (G : Prg) (E : EE) (o : Oper) (ρ : Env) (σ : Sig) (k : List (Nat × Slot) → Sig → Tree) : Tree :=
  match o.op with
  | .pick c a b => match opv G ρ 0 c with
    | some (.bool b') => .ask b' fun c' => match opv G ρ o.type (if c' then a else b) with
      | some v => k (puts o.dst (.val v [])) σ
      | none => .done none
    | _ => dfltT G E o ρ σ k
  | .binOp .rem t x y u => match opv G ρ u y with
    | some (.int _ b) => .chk (decide (b ≠ 0)) (match opv G ρ t x, opv G ρ u y, G.P.underlying t with
      | some (.int i a), some (.int i' b), some (.int _) => if i = i' then k (puts o.dst (.val (.int i (a.tmod b)) [])) σ else .done none
      | _, _, _ => dfltT G E o ρ σ k)
    | _ => dfltT G E o ρ σ k
  | .indexAddr t x i => match larrOf ρ x with
    | some (s, h) => match ρ s, G.P.underlying t, opv G ρ 0 i with
      | .arr sz _, some (.slice e), some (.int _ n) => if sz = G.P.cellsOf e ∧ sz ≠ 0 then .nat n fun m => .chk (decide (m < h)) (k (puts o.dst (.lptr s (m * sz))) σ) else .done none
      | _, _, _ => dfltT G E o ρ σ k
    | none => match G.P.underlying t, opv G ρ 0 i with
      | some (.slice e), some (.int _ n) => match opv G ρ t x with
        | some (.slice sz es) => if sz ≠ G.P.cellsOf e ∨ sz = 0 then .done none else .nat n fun m => .get e es m fun a => k (puts o.dst (.val (.iptr a.cells) [])) σ
        | _ => dfltT G E o ρ σ k
      | _, _ => dfltT G E o ρ σ k
  | .slice t x lo hi mx => match larrOf ρ x with
    | some (s, h) => match ρ s, G.P.underlying t, lo, hi, mx with
      | .arr sz _, some (.slice e), none, some y, none => match opv G ρ 0 y with
        | some (.int _ n) => if sz = G.P.cellsOf e ∧ sz ≠ 0 then .nat n fun m => .chk (decide (m ≤ h)) (k (puts o.dst (.larr s m)) σ) else .done none
        | _ => .done none
      | _, _, _, _, _ => .done none
    | none => match G.P.underlying t, opv G ρ t x with
      | some (.slice e), some (.slice sz es) =>
        if sz ≠ G.P.cellsOf e ∨ sz = 0 then .done none else
        natOf G ρ lo 0 fun l => natOf G ρ hi es.length fun h => natOf G ρ mx h fun m =>
          .chk (decide (l ≤ h) && decide (h ≤ es.length) && decide (m = h)) (if mx.isSome = true → hi.isSome = true then k (puts o.dst (.val (.slice sz ((es.drop l).take (h - l))) (if mx.isSome then [0] else []))) σ else .done none)
      | _, _ => dfltT G E o ρ σ k
  | .load t a => match ptrOf G ρ a with
    | some (.loc s off) => match ρ s with
      | .arr _ es => if tyOk G.P t = false then .done none else .cutq t (aggT G.P t) (es.flatMap AV.cells) off (G.P.cellsOf t) fun v => k (puts o.dst (.val v [])) σ
      | _ => dfltT G E o ρ σ k
    | some (.sh id off) => if tyOk G.P t = false then .done none else .box σ id fun cs ow => match cut (aggT G.P t) cs off (G.P.cellsOf t), o.dst with
      | some v, some d => if E.an.own.contains d ∧ ow.contains off ∧ G.P.cellsOf t = 1 then k (puts o.dst (.val v [0])) (σ.set id (.box cs (ow.filter (· != off)))) else k (puts o.dst (.val v [])) σ
      | _, _ => .done none
    | _ => dfltT G E o ρ σ k
  | .store t a x => match ptrOf G ρ a with
    | some (.sh id off) => match opv G ρ t x with
      | some v => if v.cells.length ≠ G.P.cellsOf t ∨ v.okc = false ∨ (G.P.info? t).isSome = false then .done none else
        .box σ id fun cs ow => if off + G.P.cellsOf t ≤ cs.length then .chk (decide (E.base ≤ id) || v.flat)
          (k ((if takes E.an none x then clr ρ x else []) ++ puts o.dst (.val (.tuple []) [])) (σ.set id (.box (splice cs off v.cells) (ow.filter (fun i => i < off || off + G.P.cellsOf t ≤ i) ++ (if takes E.an none x then (opo ρ x).filter (· < G.P.cellsOf t) else []).map (off + ·))))) else .done none
      | none => .done none
    | _ => dfltT G E o ρ σ k
  | .call { callee := .builtin .append, args, argTypes } =>
    match args.toList, argTypes.toList with
    | [x, y], [tx, ty] => match larrOf ρ x with
      | some (s, h) => match ρ s, o.dst, G.P.underlying tx, opv G ρ ty y with
        | .arr sz es, some d, some (.slice e), some (.slice sz' es') =>
          .chk (decide (h ≤ es.length) && decide (h + es'.length ≤ 4294967296))
            (if (E.an.into.all fun p => !E.an.loc.contains p.1) = true ∧ E.an.loc.contains d = true ∧ d ≠ s ∧ noInto E.an ρ d = true ∧ tx = ty ∧ sz = G.P.cellsOf e ∧ sz' = sz ∧ 0 < sz ∧ ((G.P.info? e).map (·.bytes)).getD 0 ≤ 1024 ∧ 0 < ((G.P.info? e).map (·.bytes)).getD 0
                ∧ ((zeroC G.P e).map (·.length)) = some sz then
              k ((E.an.into.filter (·.2 == s)).map (fun p => (p.1, Slot.none)) ++ [(s, .none), (d, .arr sz (es.take h ++ es'))]) σ
            else .done none)
        | _, _, _, _ => dfltT G E o ρ σ k
      | none => match G.P.underlying tx, G.P.underlying ty, opv G ρ tx x, opv G ρ ty y with
        | some (.slice e), some (.slice _), some (.slice sz es), some (.slice sz' es') =>
          .chk (decide (es.length + es'.length ≤ 4294967296))
            (if tx = ty ∧ sz = G.P.cellsOf e ∧ sz' = sz ∧ 0 < sz ∧ (opo ρ x).contains 0 ∧ ((G.P.info? e).map (·.bytes)).getD 0 ≤ 1024 ∧ 0 < ((G.P.info? e).map (·.bytes)).getD 0
                ∧ ((zeroC G.P e).map (·.length)) = some sz then
              k (clr ρ x ++ puts o.dst (.val (.slice sz (es ++ es')) [0])) σ
            else .done none)
        | _, _, _, _ => dfltT G E o ρ σ k
    | _, _ => dfltT G E o ρ σ k
  | _ => dfltT G E o ρ σ k

def stepOpT (G : Prg) (E : EE) (ops : Array Oper) (quiet : Bool) (o : Oper) (ρ : Env) (σ : Sig) (k : List (Nat × Slot) → Sig → Tree) : Tree :=
  let go : Tree :=
    if isCall o then
      match callOf G ρ o with
      | none => .done none
      | some (.inl g, args) => .call o.type g args σ quiet fun v σ' => k (puts o.dst (.val v [])) σ'
      | some (.inr l, args) => if quiet then .done none else .yield o.type l args σ fun v σ' => k (puts o.dst (.val v [])) σ'
    else opT G E o ρ σ k
  match o.guard with
  | none => go
  | some (j, w) => match (ops[j]?).bind (·.dst) with
    | none => .done none
    | some d => match ρ d with
      | .val (.bool b) _ => .ask b fun c => if c == w then go else k (puts o.dst (.val (.tuple []) [])) σ
      | .val (.tuple []) _ => k (puts o.dst (.val (.tuple []) [])) σ
      | _ => .done none

def aopT (G : Prg) (E : EE) (ops : Array Oper) (quiet : Bool) (o : Oper) (ρ : Env) (σ : Sig) (k : Env → Sig → Tree) : Tree :=
  stepOpT G E ops quiet o (mask (rdOf E.an ops o) ρ) (if modeOf G E.an quiet o = .no then [] else σ) fun ups σ' =>
    if ups.all (fun u => (wrOf E.an o).contains u.1 && decide (u.1 < E.an.ntmps) && fitsSlot E.an u.1 u.2) then
      k (apply ups ρ) (if modeOf G E.an quiet o = .write then σ' else σ)
    else .done none

def aopsT (G : Prg) (E : EE) (ops : Array Oper) (quiet : Bool) : List Oper → Env → Sig → (Env → Sig → Tree) → Tree
  | [], ρ, σ, k => k ρ σ
  | o :: r, ρ, σ, k => aopT G E ops quiet o ρ σ fun ρ' σ' => aopsT G E ops quiet r ρ' σ' k

def penT (G : Prg) (E : EE) (A I S B : Oper) (ρ : Env) (k : List (Nat × Slot) → Tree) : Tree :=
  match A.op, I.op, S.op, B.op with
  | .call { callee := .builtin .append, args, argTypes }, .indexAddr ti (.tmp d1) ii, .store ts (.tmp q1) vs, .store _ pb (.tmp d2) =>
    match args.toList, argTypes.toList, A.dst, I.dst, S.dst, B.dst with
    | [x, y], [tx, ty], some d, some q, none, none =>
      match G.P.underlying tx, opv G ρ tx x, opv G ρ ty y, opv G ρ 0 ii, opv G ρ ts vs with
      | some (.slice e), some (.slice sz es), some (.slice sz' es'), some (.int _ n), some v =>
        .chk (decide (n = (es.length : Int)) && decide (es.length + 1 ≤ 4294967296))
        (if (d1 = d ∧ d2 = d ∧ q1 = q ∧ d ≠ q ∧ tx = ty ∧ ti = tx ∧ d < E.an.ntmps ∧ q < E.an.ntmps) ∧
            (E.an.loc.contains d = false ∧ E.an.loc.contains q = false ∧ apart2 d q x = true ∧ apart2 d q ii = true ∧ apart2 d q vs = true ∧ apart2 d q pb = true) ∧
            (A.guard.isNone = true ∧ I.guard.isNone = true ∧ S.guard.isNone = true ∧ B.guard.isNone = true) ∧
            (sz = G.P.cellsOf e ∧ sz' = sz ∧ 0 < sz ∧ es'.length = 1 ∧ (opo ρ x).contains 0 = true ∧ ((G.P.info? e).map (·.bytes)).getD 0 ≤ 1024 ∧ 0 < ((G.P.info? e).map (·.bytes)).getD 0 ∧ ((zeroC G.P e).map (·.length)) = some sz) ∧
            (G.P.cellsOf ts = sz ∧ v.cells.length = sz ∧ v.okc = true ∧ (G.P.info? ts).isSome = true) then
          k (clr ρ x ++ [(d, .val (.slice sz (es ++ [v])) [0]), (q, .val .any [])])
        else .done none)
      | _, _, _, _, _ => .done none
    | _, _, _, _, _, _ => .done none
  | _, _, _, _ => .done none

def regionT (G : Prg) (E : EE) (id : Nat) (ops : Array Oper) (draw : Bool) (ρ : Env) (σ : Sig) (k : Env → Sig → Tree) : Tree :=
  if draw && E.an.pen.contains id then
    match penParts ops with
    | some (front, A, I, S, B) => aopsT G E ops (draw && E.an.quiet.contains id) front ρ σ fun ρ1 σ1 => penT G E A I S B ρ1 fun ups => aopT G E ops (draw && E.an.quiet.contains id) B (apply ups ρ1) σ1 k
    | none => .done none
  else aopsT G E ops (draw && E.an.quiet.contains id) ops.toList ρ σ k

def execT (G : Prg) (E : EE) : Code → Env → Sig → (XExit → Env → Sig → Tree) → Tree
  | .skip, ρ, σ, k => k .normal ρ σ
  | .ret, ρ, σ, k => k .ret ρ σ
  | .exit id, ρ, σ, k => k (.exit id) ρ σ
  | .seq a b, ρ, σ, k => execT G E a ρ σ fun e ρ' σ' => match e with
    | .normal => execT G E b ρ' σ' k
    | e => k e ρ' σ'
  | .cond c a b, ρ, σ, k => match opv G ρ 0 c with
    | some (.bool b') => .ask b' fun c' => if c' then execT G E a ρ σ k else execT G E b ρ σ k
    | _ => .done none
  | .block id b, ρ, σ, k => execT G E b ρ σ fun e ρ' σ' => match e with
    | .exit id' => k (if id' = id then .normal else .exit id') ρ' σ'
    | e => k e ρ' σ'
  | .loop b, ρ, σ, k => .loopc E b (forget (E.an.headOf b) ρ) σ k
  | .region id ops draw, ρ, σ, k => regionT G E id ops draw ρ σ fun ρ' σ' => k .normal (forget (E.an.outOf id) ρ') σ'
  | .rangeFunc f ps assign body, ρ, σ, k => match opv G ρ 0 f with
    | some (.func g first cap) =>
      let go : Tree :=
        if (ps.toList.all fun t => decide (t < E.an.ntmps) && !E.an.loc.contains t) = false then .done none else
        .call 0 g (first ++ [.yield σ.length] ++ cap) (σ ++ [.loop { fn := E.fn, env := roundEnv ρ, params := ps, assign, body, state := .ready, pending := none }]) false fun _ σ2 =>
          .lp σ2 σ.length fun L' => if L'.state = .busy then .done none else
            match L'.pending with
            | none => k .normal ρ (σ2.set σ.length (.loop { L' with state := .exhausted }))
            | some .ret => k .ret ρ (σ2.set σ.length (.loop { L' with state := .exhausted }))
            | some (.exit id) => k (.exit id) ρ (σ2.set σ.length (.loop { L' with state := .exhausted }))
            | _ => .done none
      match E.round with
      | none => go
      | some l => .lp σ l fun _ => go
    | _ => .done none
  | _, _, _, _ => .done none

def treeT (G : Prg) : Task → Tree
  | .call g args σ => if G.prim.contains g then (match args with
      | [.slice sz es] => if sz = 1 then .chk (decide (es.length ≤ 4294967296)) (.done (some (.ret (.slice sz es) σ))) else .done none
      | _ => .done none) else match G.ann g, G.P.funcs[g]? with
    | some an, some fn => match fn.body with
      | some c =>
        if args.length ≤ an.ntmps then
          execT G { an, fn := g, base := σ.length, round := none } c (startEnv an args) σ fun e ρ' σ' =>
            match e with
            | .exit _ => .done none
            | _ => match fn.results.toList.mapM (resOf G ρ' σ') with
              | some vs => .ask (decide (σ'.length ≤ σ.length) || an.keep) fun b =>
                if b then .done (some (.ret (results1 vs) σ')) else .chk (results1 vs).flat (.done (some (.ret (results1 vs) (σ'.take σ.length))))
              | none => .done none
        else .done none
      | none => .done none
    | _, _ => .done none
  | .yield l args σ => .lp σ l fun L => match G.ann L.fn with
    | some an => if L.state = .ready ∧ args.length = L.params.size then
        execT G { an, fn := L.fn, base := σ.length, round := some l } L.assign (apply ((L.params.toList.zip args).map fun (t, v) => (t, .val v [])) L.env) σ fun e ρ1 σ1 =>
          match e with
          | .normal => .lp σ1 l fun L1 => if L1.state = .ready then
              execT G { an, fn := L.fn, base := σ.length, round := some l } L.body ρ1 (σ1.set l (.loop { L1 with state := .busy })) fun e _ σ2 =>
                .lp σ2 l fun L2 => match e with
                  | .normal => .done (some (.ret (.bool true) (σ2.set l (.loop { L2 with state := .ready, pending := none }))))
                  | .ret => .done (some (.ret (.bool false) (σ2.set l (.loop { L2 with state := .done, pending := some .ret }))))
                  | .exit id => .done (some (.ret (.bool false) (σ2.set l (.loop { L2 with state := .done, pending := some (.exit id) }))))
            else .done none
          | _ => .done none
      else .done none
    | none => .done none
  | .loop E c ρ σ => match c with
    | .loop b => execT G E b (forget (E.an.headOf b) ρ) σ fun e ρ' σ' => match e with
      | .normal => .loopo E b (forget (E.an.headOf b) ρ') σ' fun e'' ρ'' σ'' => .done (some (.code e'' (forget (E.an.exitOf b e'') ρ'') σ''))
      | e => .done (some (.code e (forget (E.an.exitOf b e) ρ') σ'))
    | _ => .done none

end Go.AI
