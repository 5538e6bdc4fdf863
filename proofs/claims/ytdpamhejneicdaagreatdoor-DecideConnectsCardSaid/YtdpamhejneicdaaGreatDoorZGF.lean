/- The abstract machine as a tree of questions: whatever stands on an unknown value is asked; a script answers; what it answered is owed. -/
import Derived.Test.YtdpamhejneicdaaGreatDoorZAI1
namespace Go.AI
set_option linter.unusedVariables false
set_option linter.unusedSimpArgs false
open Go

inductive Tree where
  | done (r : Option Res)
  | ask (b : Bool) (k : Bool → Tree)
  | nat (n : Int) (k : Nat → Tree)
  | get (ty : TypeId) (es : List AV) (i : Nat) (k : AV → Tree)
  | chk (p : Bool) (k : Tree)
  | box (σ : Sig) (id : Nat) (k : List AV → List Nat → Tree)
  | lp (σ : Sig) (id : Nat) (k : ALoop → Tree)
  | cutq (ty : TypeId) (agg : Bool) (cs : List AV) (off n : Nat) (k : AV → Tree)
  | call (ty : TypeId) (g : FuncId) (args : List AV) (σ : Sig) (quiet : Bool) (k : AV → Sig → Tree)
  | yield (ty : TypeId) (l : Nat) (args : List AV) (σ : Sig) (k : AV → Sig → Tree)
  | loopc (E : EE) (b : Code) (ρ : Env) (σ : Sig) (k : XExit → Env → Sig → Tree)
  | loopo (E : EE) (b : Code) (ρ : Env) (σ : Sig) (k : XExit → Env → Sig → Tree)
  | lett (x : Int) (k : Int → Tree)
  | letb (x : Bool) (k : Bool → Tree)
  | mth (o : Option FuncId) (k : FuncId → Tree)

def callRes (O : Task → Option Res) (g : FuncId) (args : List AV) (σ : Sig) (quiet : Bool) : Option (AV × Sig) :=
  match (if AV.flatL args then retOf (O (.call g args [])) else none) with
  | some (v, []) => some (v, σ)
  | _ => if quiet then none else retOf (O (.call g args σ))

def codeOf : Option Res → Option (XExit × Env × Sig)
  | some (.code e ρ σ) => some (e, ρ, σ)
  | _ => none

def Tree.run (G : Prg) (O : Task → Option Res) : Tree → Option Res
  | .done r => r
  | .ask b k => (k b).run G O
  | .nat n k => if 0 ≤ n then (k n.toNat).run G O else none
  | .get _ es i k => match es[i]? with | some a => (k a).run G O | none => none
  | .chk p k => if p then k.run G O else none
  | .box σ id k => match σ[id]? with | some (.box cs ow) => (k cs ow).run G O | _ => none
  | .lp σ id k => match σ[id]? with | some (.loop L) => (k L).run G O | _ => none
  | .cutq _ agg cs off n k => match cut agg cs off n with | some v => (k v).run G O | none => none
  | .call _ g args σ quiet k => match callRes O g args σ quiet with | some (v, σ') => (k v σ').run G O | none => none
  | .yield _ l args σ k => match retOf (O (.yield l args σ)) with | some (v, σ') => (k v σ').run G O | none => none
  | .loopc E b ρ σ k => match execC G E O (.loop b) ρ σ with | some (e, ρ', σ') => (k e ρ' σ').run G O | none => none
  | .loopo E b ρ σ k => match codeOf (O (.loop E (.loop b) ρ σ)) with | some (e, ρ', σ') => (k e ρ' σ').run G O | none => none
  | .lett x k => (k x).run G O
  | .letb x k => (k x).run G O
  | .mth o k => match o with | some g => (k g).run G O | none => none

/-! ### One operation -/

/-- An operation that calls nothing, as the evaluator has it. -/
def stepNC (G : Prg) (E : EE) (o : Oper) (ρ : Env) (σ : Sig) : Option (List (Nat × Slot) × Sig) :=
  match arrOp G E o ρ with
  | some r => r.map fun u => (u, σ)
  | none => core G E o ρ σ

def dfltT (G : Prg) (E : EE) (o : Oper) (ρ : Env) (σ : Sig) (k : List (Nat × Slot) → Sig → Tree) : Tree :=
  match stepNC G E o ρ σ with
  | some (u, s) => k u s
  | none => .done none

def natOf (G : Prg) (ρ : Env) (y : Option Operand) (d : Nat) (k : Nat → Tree) : Tree :=
  match y with
  | none => k d
  | some y => match opv G ρ 0 y with
    | some (.int _ n) => .nat n k
    | _ => .done none

def opT (G : Prg) (E : EE) (o : Oper) (ρ : Env) (σ : Sig) (k : List (Nat × Slot) → Sig → Tree) : Tree :=
  match o.op with
  | .pick c a b => match opv G ρ 0 c with
    | some (.bool b') => .ask b' fun c' => match opv G ρ o.type (if c' then a else b) with
      | some v => k (puts o.dst (.val v [])) σ
      | none => .done none
    | _ => dfltT G E o ρ σ k
  | .binOp .rem t x y u => match opv G ρ u y with
    | some (.int _ b) => .chk (decide (b ≠ 0)) (match opv G ρ t x, opv G ρ u y, G.P.underlying t with
      | some (.int i a), some (.int i' b), some (.int _) => if i = i' then k (puts o.dst (.val (.int i (a.tmod b)) [])) σ else .done none
      | _, _, _ => dfltT G E o ρ σ k)
    | _ => dfltT G E o ρ σ k
  | .binOp op t x y u => match opv G ρ t x, opv G ρ u y, G.P.underlying t with
    | some (.int i a), some (.int i' b), some (.int _) => if i = i' then match op with
        | .add => .lett (i.wrap (a + b)) fun z => k (puts o.dst (.val (.int i z) [])) σ
        | .sub => .lett (i.wrap (a - b)) fun z => k (puts o.dst (.val (.int i z) [])) σ
        | .mul => .lett (i.wrap (a * b)) fun z => k (puts o.dst (.val (.int i z) [])) σ
        | .eql => .letb (a == b) fun z => k (puts o.dst (.val (.bool z) [])) σ
        | .neq => .letb (a != b) fun z => k (puts o.dst (.val (.bool z) [])) σ
        | .lss => .letb (decide (a < b)) fun z => k (puts o.dst (.val (.bool z) [])) σ
        | .leq => .letb (decide (a ≤ b)) fun z => k (puts o.dst (.val (.bool z) [])) σ
        | .gtr => .letb (decide (b < a)) fun z => k (puts o.dst (.val (.bool z) [])) σ
        | .geq => .letb (decide (b ≤ a)) fun z => k (puts o.dst (.val (.bool z) [])) σ
        | _ => dfltT G E o ρ σ k
      else dfltT G E o ρ σ k
    | _, _, _ => dfltT G E o ρ σ k
  | .indexAddr t x i => match larrOf ρ x with
    | some (s, h) => match ρ s, G.P.underlying t, opv G ρ 0 i with
      | .arr sz _, some (.slice e), some (.int _ n) => if sz = G.P.cellsOf e ∧ sz ≠ 0 then .nat n fun m => .chk (decide (m < h)) (k (puts o.dst (.lptr s (m * sz))) σ) else .done none
      | _, _, _ => dfltT G E o ρ σ k
    | none => match G.P.underlying t, opv G ρ 0 i with
      | some (.slice e), some (.int _ n) => match opv G ρ t x with
        | some (.slice sz es) => if sz ≠ G.P.cellsOf e ∨ sz = 0 then .done none else .nat n fun m => .get e es m fun a => k (puts o.dst (.val (.iptr a.cells) [])) σ
        | _ => dfltT G E o ρ σ k
      | _, _ => dfltT G E o ρ σ k
  | .slice t x lo hi mx => match larrOf ρ x with
    | some (s, h) => match ρ s, G.P.underlying t, lo, hi, mx with
      | .arr sz _, some (.slice e), none, some y, none => match opv G ρ 0 y with
        | some (.int _ n) => if sz = G.P.cellsOf e ∧ sz ≠ 0 then .nat n fun m => .chk (decide (m ≤ h)) (k (puts o.dst (.larr s m)) σ) else .done none
        | _ => .done none
      | _, _, _, _, _ => .done none
    | none => match G.P.underlying t, opv G ρ t x with
      | some (.slice e), some (.slice sz es) =>
        if sz ≠ G.P.cellsOf e ∨ sz = 0 then .done none else
        natOf G ρ lo 0 fun l => natOf G ρ hi es.length fun h => natOf G ρ mx h fun m =>
          .chk (decide (l ≤ h) && decide (h ≤ es.length) && decide (m = h)) (if mx.isSome = true → hi.isSome = true then k (puts o.dst (.val (.slice sz ((es.drop l).take (h - l))) (if mx.isSome then [0] else []))) σ else .done none)
      | _, _ => dfltT G E o ρ σ k
  | .load t a => match ptrOf G ρ a with
    | some (.loc s off) => match ρ s with
      | .arr _ es => if tyOk G.P t = false then .done none else .cutq t (aggT G.P t) (es.flatMap AV.cells) off (G.P.cellsOf t) fun v => k (puts o.dst (.val v [])) σ
      | _ => dfltT G E o ρ σ k
    | some (.sh id off) => if tyOk G.P t = false then .done none else .box σ id fun cs ow => match cut (aggT G.P t) cs off (G.P.cellsOf t), o.dst with
      | some v, some d => if E.an.own.contains d ∧ ow.contains off ∧ G.P.cellsOf t = 1 then k (puts o.dst (.val v [0])) (σ.set id (.box cs (ow.filter (· != off)))) else k (puts o.dst (.val v [])) σ
      | _, _ => .done none
    | _ => dfltT G E o ρ σ k
  | .store t a x => match ptrOf G ρ a with
    | some (.sh id off) => match opv G ρ t x with
      | some v => if v.cells.length ≠ G.P.cellsOf t ∨ v.okc = false ∨ (G.P.info? t).isSome = false then .done none else
        .box σ id fun cs ow => if off + G.P.cellsOf t ≤ cs.length then .chk (decide (E.base ≤ id) || v.flat)
          (k ((if takes E.an none x then clr ρ x else []) ++ puts o.dst (.val (.tuple []) [])) (σ.set id (.box (splice cs off v.cells) (ow.filter (fun i => i < off || off + G.P.cellsOf t ≤ i) ++ (if takes E.an none x then (opo ρ x).filter (· < G.P.cellsOf t) else []).map (off + ·))))) else .done none
      | none => .done none
    | _ => dfltT G E o ρ σ k
  | .call { callee := .builtin .append, args, argTypes } =>
    match args.toList, argTypes.toList with
    | [x, y], [tx, ty] => match larrOf ρ x with
      | some (s, h) => match ρ s, o.dst, G.P.underlying tx, opv G ρ ty y with
        | .arr sz es, some d, some (.slice e), some (.slice sz' es') =>
          .chk (decide (h ≤ es.length) && decide (h + es'.length ≤ 4294967296))
            (if (E.an.into.all fun p => !E.an.loc.contains p.1) = true ∧ E.an.loc.contains d = true ∧ d ≠ s ∧ noInto E.an ρ d = true ∧ tx = ty ∧ sz = G.P.cellsOf e ∧ sz' = sz ∧ 0 < sz ∧ ((G.P.info? e).map (·.bytes)).getD 0 ≤ 1024 ∧ 0 < ((G.P.info? e).map (·.bytes)).getD 0
                ∧ ((zeroC G.P e).map (·.length)) = some sz then
              k ((E.an.into.filter (·.2 == s)).map (fun p => (p.1, Slot.none)) ++ [(s, .none), (d, .arr sz (es.take h ++ es'))]) σ
            else .done none)
        | _, _, _, _ => dfltT G E o ρ σ k
      | none => match G.P.underlying tx, G.P.underlying ty, opv G ρ tx x, opv G ρ ty y with
        | some (.slice e), some (.slice _), some (.slice sz es), some (.slice sz' es') =>
          .chk (decide (es.length + es'.length ≤ 4294967296))
            (if tx = ty ∧ sz = G.P.cellsOf e ∧ sz' = sz ∧ 0 < sz ∧ (opo ρ x).contains 0 ∧ ((G.P.info? e).map (·.bytes)).getD 0 ≤ 1024 ∧ 0 < ((G.P.info? e).map (·.bytes)).getD 0
                ∧ ((zeroC G.P e).map (·.length)) = some sz then
              k (clr ρ x ++ puts o.dst (.val (.slice sz (es ++ es')) [0])) σ
            else .done none)
        | _, _, _, _ => dfltT G E o ρ σ k
    | _, _ => dfltT G E o ρ σ k
  | _ => dfltT G E o ρ σ k

/-- Whose method is called, and with what. -/
def invOf (G : Prg) (ρ : Env) (o : Oper) : Option (TypeId × String × List AV) :=
  match o.op with
  | .call c => match c.callee with
    | .invoke r name => match (c.args.toList.zip c.argTypes.toList).mapM fun (x, t) => opv G ρ t x with
      | some args => if c.args.size ≠ c.argTypes.size then none else match opv G ρ 0 r with
        | some (.iface t v) => some (t, name, v :: args)
        | _ => none
      | none => none
    | _ => none
  | _ => none

theorem invOf_call {G : Prg} {ρ : Env} {o : Oper} {t : TypeId} {name : String} {args : List AV} {g : FuncId} (h : invOf G ρ o = some (t, name, args)) (hg : methodOf G.P t name = some g) : callOf G ρ o = some (.inl g, args) := by
  unfold invOf at h
  split at h
  · rename_i c hc
    split at h
    · rename_i r nm hr
      split at h
      · rename_i as has
        split at h
        · cases h
        · rename_i hsz
          split at h
          · rename_i t' v hv
            simp only [Option.some.injEq, Prod.mk.injEq] at h
            obtain ⟨rfl, rfl, rfl⟩ := h
            simp only [callOf, hc, has, hr, hv, hg, Option.bind_eq_bind, Option.bind_some]
            rw [if_neg hsz]
          · cases h
      · cases h
    · cases h
  · cases h

def stepOpT (G : Prg) (E : EE) (ops : Array Oper) (quiet : Bool) (o : Oper) (ρ : Env) (σ : Sig) (k : List (Nat × Slot) → Sig → Tree) : Tree :=
  let go : Tree :=
    if isCall o then
      match invOf G ρ o with
      | some (t, name, args) => .mth (methodOf G.P t name) fun g => .call o.type g args σ quiet fun v σ' => k (puts o.dst (.val v [])) σ'
      | none => match callOf G ρ o with
        | none => .done none
        | some (.inl g, args) => .call o.type g args σ quiet fun v σ' => k (puts o.dst (.val v [])) σ'
        | some (.inr l, args) => if quiet then .done none else .yield o.type l args σ fun v σ' => k (puts o.dst (.val v [])) σ'
    else opT G E o ρ σ k
  match o.guard with
  | none => go
  | some (j, w) => match (ops[j]?).bind (·.dst) with
    | none => .done none
    | some d => match ρ d with
      | .val (.bool b) _ => .ask b fun c => if c == w then go else k (puts o.dst (.val (.tuple []) [])) σ
      | .val (.tuple []) _ => k (puts o.dst (.val (.tuple []) [])) σ
      | _ => .done none

def aopT (G : Prg) (E : EE) (ops : Array Oper) (quiet : Bool) (o : Oper) (ρ : Env) (σ : Sig) (k : Env → Sig → Tree) : Tree :=
  stepOpT G E ops quiet o (mask (rdOf E.an ops o) ρ) (if modeOf G E.an quiet o = .no then [] else σ) fun ups σ' =>
    if ups.all (fun u => (wrOf E.an o).contains u.1 && decide (u.1 < E.an.ntmps) && fitsSlot E.an u.1 u.2) then
      k (apply ups ρ) (if modeOf G E.an quiet o = .write then σ' else σ)
    else .done none

def aopsT (G : Prg) (E : EE) (ops : Array Oper) (quiet : Bool) : List Oper → Env → Sig → (Env → Sig → Tree) → Tree
  | [], ρ, σ, k => k ρ σ
  | o :: r, ρ, σ, k => aopT G E ops quiet o ρ σ fun ρ' σ' => aopsT G E ops quiet r ρ' σ' k

def penT (G : Prg) (E : EE) (A I S B : Oper) (ρ : Env) (k : List (Nat × Slot) → Tree) : Tree :=
  match A.op, I.op, S.op, B.op with
  | .call { callee := .builtin .append, args, argTypes }, .indexAddr ti (.tmp d1) ii, .store ts (.tmp q1) vs, .store _ pb (.tmp d2) =>
    match args.toList, argTypes.toList, A.dst, I.dst, S.dst, B.dst with
    | [x, y], [tx, ty], some d, some q, none, none =>
      match G.P.underlying tx, opv G ρ tx x, opv G ρ ty y, opv G ρ 0 ii, opv G ρ ts vs with
      | some (.slice e), some (.slice sz es), some (.slice sz' es'), some (.int _ n), some v =>
        .chk (decide (n = (es.length : Int)) && decide (es.length + 1 ≤ 4294967296))
        (if (d1 = d ∧ d2 = d ∧ q1 = q ∧ d ≠ q ∧ tx = ty ∧ ti = tx ∧ d < E.an.ntmps ∧ q < E.an.ntmps) ∧
            (E.an.loc.contains d = false ∧ E.an.loc.contains q = false ∧ apart2 d q x = true ∧ apart2 d q ii = true ∧ apart2 d q vs = true ∧ apart2 d q pb = true) ∧
            (A.guard.isNone = true ∧ I.guard.isNone = true ∧ S.guard.isNone = true ∧ B.guard.isNone = true) ∧
            (sz = G.P.cellsOf e ∧ sz' = sz ∧ 0 < sz ∧ es'.length = 1 ∧ (opo ρ x).contains 0 = true ∧ ((G.P.info? e).map (·.bytes)).getD 0 ≤ 1024 ∧ 0 < ((G.P.info? e).map (·.bytes)).getD 0 ∧ ((zeroC G.P e).map (·.length)) = some sz) ∧
            (G.P.cellsOf ts = sz ∧ v.cells.length = sz ∧ v.okc = true ∧ (G.P.info? ts).isSome = true) then
          k (clr ρ x ++ [(d, .val (.slice sz (es ++ [v])) [0]), (q, .val .any [])])
        else .done none)
      | _, _, _, _, _ => .done none
    | _, _, _, _, _, _ => .done none
  | _, _, _, _ => .done none

def regionT (G : Prg) (E : EE) (id : Nat) (ops : Array Oper) (draw : Bool) (ρ : Env) (σ : Sig) (k : Env → Sig → Tree) : Tree :=
  if draw && E.an.pen.contains id then
    match penParts ops with
    | some (front, A, I, S, B) => aopsT G E ops (draw && E.an.quiet.contains id) front ρ σ fun ρ1 σ1 => penT G E A I S B ρ1 fun ups => aopT G E ops (draw && E.an.quiet.contains id) B (apply ups ρ1) σ1 k
    | none => .done none
  else aopsT G E ops (draw && E.an.quiet.contains id) ops.toList ρ σ k

def execT (G : Prg) (E : EE) : Code → Env → Sig → (XExit → Env → Sig → Tree) → Tree
  | .skip, ρ, σ, k => k .normal ρ σ
  | .ret, ρ, σ, k => k .ret ρ σ
  | .exit id, ρ, σ, k => k (.exit id) ρ σ
  | .seq a b, ρ, σ, k => execT G E a ρ σ fun e ρ' σ' => match e with
    | .normal => execT G E b ρ' σ' k
    | e => k e ρ' σ'
  | .cond c a b, ρ, σ, k => match opv G ρ 0 c with
    | some (.bool b') => .ask b' fun c' => if c' then execT G E a ρ σ k else execT G E b ρ σ k
    | _ => .done none
  | .block id b, ρ, σ, k => execT G E b ρ σ fun e ρ' σ' => match e with
    | .exit id' => k (if id' = id then .normal else .exit id') ρ' σ'
    | e => k e ρ' σ'
  | .loop b, ρ, σ, k => .loopc E b (forget (E.an.headOf b) ρ) σ k
  | .region id ops draw, ρ, σ, k => regionT G E id ops draw ρ σ fun ρ' σ' => k .normal (forget (E.an.outOf id) ρ') σ'
  | .rangeFunc f ps assign body, ρ, σ, k => match opv G ρ 0 f with
    | some (.func g first cap) =>
      let go : Tree :=
        if (ps.toList.all fun t => decide (t < E.an.ntmps) && !E.an.loc.contains t) = false then .done none else
        .call 0 g (first ++ [.yield σ.length] ++ cap) (σ ++ [.loop { fn := E.fn, env := roundEnv ρ, params := ps, assign, body, state := .ready, pending := none }]) false fun _ σ2 =>
          .lp σ2 σ.length fun L' => if L'.state = .busy then .done none else
            match L'.pending with
            | none => k .normal ρ (σ2.set σ.length (.loop { L' with state := .exhausted }))
            | some .ret => k .ret ρ (σ2.set σ.length (.loop { L' with state := .exhausted }))
            | some (.exit id) => k (.exit id) ρ (σ2.set σ.length (.loop { L' with state := .exhausted }))
            | _ => .done none
      match E.round with
      | none => go
      | some l => .lp σ l fun _ => go
    | _ => .done none
  | _, _, _, _ => .done none

def treeT (G : Prg) : Task → Tree
  | .call g args σ => if G.prim.contains g then (match args with
      | [.slice sz es] => if sz = 1 then .chk (decide (es.length ≤ 4294967296)) (.done (some (.ret (.slice sz es) σ))) else .done none
      | _ => .done none) else match G.ann g, G.P.funcs[g]? with
    | some an, some fn => match fn.body with
      | some c =>
        if args.length ≤ an.ntmps then
          execT G { an, fn := g, base := σ.length, round := none } c (startEnv an args) σ fun e ρ' σ' =>
            match e with
            | .exit _ => .done none
            | _ => match fn.results.toList.mapM (resOf G ρ' σ') with
              | some vs => .ask (decide (σ'.length ≤ σ.length) || an.keep) fun b =>
                if b then .done (some (.ret (results1 vs) σ')) else .chk (results1 vs).flat (.done (some (.ret (results1 vs) (σ'.take σ.length))))
              | none => .done none
        else .done none
      | none => .done none
    | _, _ => .done none
  | .yield l args σ => .lp σ l fun L => match G.ann L.fn with
    | some an => if L.state = .ready ∧ args.length = L.params.size then
        execT G { an, fn := L.fn, base := σ.length, round := some l } L.assign (apply ((L.params.toList.zip args).map fun (t, v) => (t, .val v [])) L.env) σ fun e ρ1 σ1 =>
          match e with
          | .normal => .lp σ1 l fun L1 => if L1.state = .ready then
              execT G { an, fn := L.fn, base := σ.length, round := some l } L.body ρ1 (σ1.set l (.loop { L1 with state := .busy })) fun e _ σ2 =>
                .lp σ2 l fun L2 => match e with
                  | .normal => .done (some (.ret (.bool true) (σ2.set l (.loop { L2 with state := .ready, pending := none }))))
                  | .ret => .done (some (.ret (.bool false) (σ2.set l (.loop { L2 with state := .done, pending := some .ret }))))
                  | .exit id => .done (some (.ret (.bool false) (σ2.set l (.loop { L2 with state := .done, pending := some (.exit id) }))))
            else .done none
          | _ => .done none
      else .done none
    | none => .done none
  | .loop E c ρ σ => match c with
    | .loop b => execT G E b (forget (E.an.headOf b) ρ) σ fun e ρ' σ' => match e with
      | .normal => .loopo E b (forget (E.an.headOf b) ρ') σ' fun e'' ρ'' σ'' => .done (some (.code e'' (forget (E.an.exitOf b e'') ρ'') σ''))
      | e => .done (some (.code e (forget (E.an.exitOf b e) ρ') σ'))
    | _ => .done none

end Go.AI

/- The abstract machine: the tree of questions says what the evaluator does; a script that answers it. -/
namespace Go.AI
set_option linter.unusedVariables false
set_option linter.unusedSimpArgs false
open Go

variable {G : Prg} {E : EE} {O : Task → Option Res} {ops : Array Oper} {quiet : Bool} {o : Oper} {ρ : Env} {σ : Sig} {r : Res}

theorem run_dflt {k : List (Nat × Slot) → Sig → Tree} (h : (dfltT G E o ρ σ k).run G O = some r) : ∃ u s, stepNC G E o ρ σ = some (u, s) ∧ (k u s).run G O = some r := by
  unfold dfltT at h
  split at h
  · rename_i u s hs
    exact ⟨u, s, hs, h⟩
  · simp [Tree.run] at h

theorem run_natOf {y : Option Operand} {d : Nat} {k : Nat → Tree} (h : (natOf G ρ y d k).run G O = some r) :
    ∃ m, (match y with | none => some d | some y => match opv G ρ 0 y with | some (.int _ n) => if 0 ≤ n then some n.toNat else none | _ => none) = some m ∧ (k m).run G O = some r := by
  unfold natOf at h
  split at h
  · exact ⟨d, rfl, h⟩
  · split at h
    · rename_i y k' n hy
      simp only [Tree.run] at h
      split at h
      · rename_i h0
        exact ⟨n.toNat, by simp [hy, h0], h⟩
      · simp at h
    · simp [Tree.run] at h

theorem run_opT {k : List (Nat × Slot) → Sig → Tree} (h : (opT G E o ρ σ k).run G O = some r) : ∃ u s, stepNC G E o ρ σ = some (u, s) ∧ (k u s).run G O = some r := by
  unfold opT at h
  split at h
  · -- pick
    rename_i c a b ho
    split at h
    · rename_i b' hb
      simp only [Tree.run] at h
      split at h
      · rename_i v hv
        exact ⟨_, _, by simp [stepNC, arrOp, core, core1, ho, hb, hv], h⟩
      · simp [Tree.run] at h
    · exact run_dflt h
  · -- rem
    rename_i t x y u ho
    split at h
    · rename_i i' b hy
      simp only [Tree.run] at h
      split at h
      · rename_i hb
        split at h
        · rename_i i a i'' b' i3 hx hy' hu
          rw [hy] at hy'
          simp at hy'
          obtain ⟨rfl, rfl⟩ := hy'
          split at h
          · rename_i hi
            subst hi
            refine ⟨_, _, ?_, h⟩
            simp at hb
            simp [stepNC, arrOp, core, core1, ho, hx, hy, hu, abin, hb]
          · simp [Tree.run] at h
        · exact run_dflt h
      · simp at h
    · exact run_dflt h
  · -- numbers
    rename_i op t x y u hne ho
    split at h
    · rename_i i a i' b kk hx hy hu
      split at h
      · rename_i hi
        subst hi
        split at h
        all_goals first
          | exact run_dflt h
          | (simp only [Tree.run] at h
             refine ⟨_, _, ?_, h⟩
             simp [stepNC, arrOp, core, core1, ho, hx, hy, hu, abin])
      · exact run_dflt h
    · exact run_dflt h
  · -- indexAddr
    rename_i t x i ho
    split at h
    · rename_i s hh hl
      split at h
      · rename_i sz es e kk n hs hu hi
        split at h
        · rename_i hsz
          simp only [Tree.run] at h
          split at h
          · rename_i h0
            split at h
            · rename_i hm
              refine ⟨_, _, ?_, h⟩
              simp at hm
              simp [stepNC, arrOp, ho, hl, hs, hu, hi, h0, hm, hsz.1]
              exact hsz.1 ▸ hsz.2
            · simp at h
          · simp at h
        · simp [Tree.run] at h
      · exact run_dflt h
    · rename_i hl
      split at h
      · rename_i e kk n hu hi
        split at h
        · rename_i sz es hx
          split at h
          · simp [Tree.run] at h
          · rename_i hsz
            simp only [Tree.run] at h
            split at h
            · rename_i h0
              split at h
              · rename_i a ha
                refine ⟨_, _, ?_, h⟩
                have hn : ¬ n < 0 := by omega
                simp [stepNC, arrOp, core, core1, ho, hl, hu, hi, hx, hn, hsz, ha]
              · simp at h
            · simp at h
        · exact run_dflt h
      · exact run_dflt h
  · -- slice
    rename_i t x lo hi mx ho
    split at h
    · rename_i s hh hl
      split at h
      · rename_i sz es e y hs hu
        split at h
        · rename_i kk n hy
          split at h
          · rename_i hsz
            simp only [Tree.run] at h
            split at h
            · rename_i h0
              split at h
              · rename_i hm
                refine ⟨_, _, ?_, h⟩
                simp at hm
                simp [stepNC, arrOp, ho, hl, hs, hu, hy, h0, hm, hsz.1]
                exact hsz.1 ▸ hsz.2
              · simp at h
            · simp at h
          · simp [Tree.run] at h
        · simp [Tree.run] at h
      · simp [Tree.run] at h
    · rename_i hl
      split at h
      · rename_i e sz es hu hx
        split at h
        · simp [Tree.run] at h
        · rename_i hsz
          obtain ⟨l, h1, h⟩ := run_natOf h
          obtain ⟨hh, h2, h⟩ := run_natOf h
          obtain ⟨m, h3, h⟩ := run_natOf h
          simp only [Tree.run] at h
          split at h
          · rename_i hc
            simp at hc
            split at h
            · rename_i hmx
              refine ⟨_, _, ?_, h⟩
              simp only [stepNC, arrOp, ho, hl, core, core1, hu, hx, Option.bind_eq_bind, Option.bind_some, if_neg hsz, Option.map_eq_some_iff]
              refine ⟨_, ?_, rfl⟩
              rw [Option.bind_eq_some_iff]
              refine ⟨l, h1, ?_⟩
              rw [Option.bind_eq_some_iff]
              refine ⟨hh, h2, ?_⟩
              rw [Option.bind_eq_some_iff]
              refine ⟨m, h3, ?_⟩
              rw [if_pos ⟨hc.1.1, hc.1.2, hc.2, hmx⟩]
            · simp [Tree.run] at h
          · simp at h
      · exact run_dflt h
  · -- load
    rename_i t a ho
    split at h
    · rename_i s off hp
      split at h
      · rename_i sz es hs
        split at h
        · simp [Tree.run] at h
        · rename_i hty
          simp only [Tree.run] at h
          split at h
          · rename_i v hv
            exact ⟨_, _, by simp [stepNC, arrOp, ho, hp, hs, hty, hv], h⟩
          · simp at h
      · exact run_dflt h
    · rename_i id off hp
      split at h
      · simp [Tree.run] at h
      · rename_i hty
        simp only [Tree.run] at h
        split at h
        · rename_i cs ow hσ
          split at h
          · rename_i v d hv hd
            split at h
            · rename_i hc
              refine ⟨_, _, ?_, h⟩
              simp only [stepNC, arrOp, ho, hp, core, if_neg hty, Option.bind_eq_bind, Option.bind_some, hσ, hv, hd]
              rw [if_pos hc]
            · rename_i hc
              refine ⟨_, _, ?_, h⟩
              simp only [stepNC, arrOp, ho, hp, core, if_neg hty, Option.bind_eq_bind, Option.bind_some, hσ, hv, hd]
              rw [if_neg hc]
          · simp [Tree.run] at h
        · simp at h
    · exact run_dflt h
  · -- store
    rename_i t a x ho
    split at h
    · rename_i id off hp
      split at h
      · rename_i v hv
        split at h
        · simp [Tree.run] at h
        · rename_i hc
          simp only [Tree.run] at h
          split at h
          · rename_i cs ow hσ
            split at h
            · rename_i hle
              simp only [Tree.run] at h
              split at h
              · rename_i hb
                refine ⟨_, _, ?_, h⟩
                simp only [Bool.or_eq_true, decide_eq_true_eq] at hb
                simp only [stepNC, arrOp, ho, hp, core, if_neg hc, Option.bind_eq_bind, Option.bind_some, hσ, hv]
                rw [if_pos ⟨hle, hb⟩]
              · simp at h
            · simp [Tree.run] at h
          · simp at h
      · simp [Tree.run] at h
    · exact run_dflt h
  · -- append
    rename_i args tys ho
    split at h
    · rename_i x y tx ty ha ht
      split at h
      · rename_i s hh hl
        split at h
        · rename_i sz es d e sz' es' hs hd hu hy
          simp only [Tree.run] at h
          split at h
          · rename_i hb
            simp at hb
            split at h
            · rename_i hc
              refine ⟨_, _, ?_, h⟩
              obtain ⟨c1, c2, c3, c4, c5, c6, c7, c8, c9, c10, c11⟩ := hc
              simp only [stepNC, arrOp, ho, ha, ht, hl, hs, hd, hu, hy, Option.bind_eq_bind, Option.bind_some]
              rw [if_pos ⟨c1, c2, c3, c4, hb.1, c5, c6, c7, c8, hb.2, c9, c10, c11⟩]
              rfl
            · simp [Tree.run] at h
          · simp at h
        · exact run_dflt h
      · rename_i hl
        split at h
        · rename_i e e' sz es sz' es' hu hu' hx hy
          simp only [Tree.run] at h
          split at h
          · rename_i hb
            simp at hb
            split at h
            · rename_i hc
              refine ⟨_, _, ?_, h⟩
              obtain ⟨c1, c2, c3, c4, c5, c6, c7, c8⟩ := hc
              simp only [stepNC, arrOp, ho, ha, ht, hl, core, core1, hu, hu', hx, hy, Option.bind_eq_bind, Option.bind_some]
              rw [if_pos ⟨c1, c2, c3, c4, c5, hb, c6, c7, c8⟩]
              rfl
            · simp [Tree.run] at h
          · simp at h
        · exact run_dflt h
    · exact run_dflt h
  · exact run_dflt h

theorem run_stepOpT {k : List (Nat × Slot) → Sig → Tree} (h : (stepOpT G E ops quiet o ρ σ k).run G O = some r) : ∃ u s, stepOp G E O ops quiet o ρ σ = some (u, s) ∧ (k u s).run G O = some r := by
  have call : ∀ (g : FuncId) (args : List AV) (hw : want ρ ops o = some true) (hcall : isCall o = true) (hc : callOf G ρ o = some (.inl g, args)) (h : (Tree.call o.type g args σ quiet fun v σ' => k (puts o.dst (.val v [])) σ').run G O = some r),
      ∃ u s, stepOp G E O ops quiet o ρ σ = some (u, s) ∧ (k u s).run G O = some r := by
    intro g args hw hcall hc h
    simp only [Tree.run, callRes] at h
    simp only [stepOp, hw, hcall, if_true, hc]
    split at h
    · rename_i v σ' hr
      split at hr
      · rename_i v' hv
        simp only [Option.some.injEq, Prod.mk.injEq] at hr
        obtain ⟨rfl, rfl⟩ := hr
        exact ⟨_, _, by rw [hv], h⟩
      · rename_i hne
        split at hr
        · simp at hr
        · rename_i hq
          refine ⟨puts o.dst (.val v []), σ', ?_, h⟩
          split
          · rename_i v2 hv2; exact absurd hv2 (hne _)
          · rw [if_neg hq, hr]
    · simp at h
  have go : ∀ (h : (if isCall o then
      match invOf G ρ o with
      | some (t, name, args) => Tree.mth (methodOf G.P t name) fun g => .call o.type g args σ quiet fun v σ' => k (puts o.dst (.val v [])) σ'
      | none => match callOf G ρ o with
        | none => Tree.done none
        | some (.inl g, args) => .call o.type g args σ quiet fun v σ' => k (puts o.dst (.val v [])) σ'
        | some (.inr l, args) => if quiet then .done none else .yield o.type l args σ fun v σ' => k (puts o.dst (.val v [])) σ'
    else opT G E o ρ σ k : Tree).run G O = some r) (hw : want ρ ops o = some true), ∃ u s, stepOp G E O ops quiet o ρ σ = some (u, s) ∧ (k u s).run G O = some r := by
    intro h hw
    split at h
    · rename_i hcall
      split at h
      · rename_i t name args hi
        cases hg : methodOf G.P t name with
        | none => rw [hg] at h; simp [Tree.run] at h
        | some g => rw [hg] at h; exact call g args hw hcall (invOf_call hi hg) h
      · split at h
        · simp [Tree.run] at h
        · rename_i g args hc
          exact call g args hw hcall hc h
        · rename_i l args hc
          simp only [stepOp, hw, hcall, if_true, hc]
          split at h
          · simp [Tree.run] at h
          · rename_i hq
            simp only [Tree.run] at h
            split at h
            · rename_i v σ' hr
              exact ⟨_, _, by rw [if_neg hq, hr], h⟩
            · simp at h
    · rename_i hcall
      obtain ⟨u, s, h1, h2⟩ := run_opT h
      refine ⟨u, s, ?_, h2⟩
      simp only [stepOp, hw, hcall]
      exact h1
  unfold stepOpT at h
  simp only at h
  split at h
  · rename_i hg
    exact go h (by simp [want, hg])
  · rename_i j w hg
    split at h
    · simp [Tree.run] at h
    · rename_i d hd
      split at h
      · rename_i b ow hρ
        simp only [Tree.run] at h
        have hw : want ρ ops o = some (b == w) := by simp [want, hg, hd, hρ]
        split at h
        · rename_i hc
          exact go h (by rw [hw, hc])
        · rename_i hc
          refine ⟨_, _, ?_, h⟩
          have : (b == w) = false := by simpa using hc
          simp only [stepOp, hw, this]
      · rename_i ow hρ
        refine ⟨_, _, ?_, h⟩
        have hw : want ρ ops o = some false := by simp [want, hg, hd, hρ]
        simp only [stepOp, hw]
      · simp [Tree.run] at h

theorem run_aopT {k : Env → Sig → Tree} (h : (aopT G E ops quiet o ρ σ k).run G O = some r) : ∃ ρ' σ', aop G E O ops quiet o ρ σ = some (ρ', σ') ∧ (k ρ' σ').run G O = some r := by
  unfold aopT at h
  obtain ⟨u, s, h1, h2⟩ := run_stepOpT h
  split at h2
  · rename_i hf
    refine ⟨_, _, ?_, h2⟩
    unfold aop
    rw [h1]
    simp only
    rw [if_pos hf]
  · simp [Tree.run] at h2

theorem run_aopsT : ∀ (l : List Oper) (ρ : Env) (σ : Sig) (k : Env → Sig → Tree), (aopsT G E ops quiet l ρ σ k).run G O = some r → ∃ ρ' σ', aops G E O ops quiet l ρ σ = some (ρ', σ') ∧ (k ρ' σ').run G O = some r := by
  intro l
  induction l with
  | nil => intro ρ σ k h; exact ⟨ρ, σ, rfl, h⟩
  | cons o l ih =>
    intro ρ σ k h
    obtain ⟨ρ1, σ1, h1, h2⟩ := run_aopT h
    obtain ⟨ρ2, σ2, h3, h4⟩ := ih _ _ _ h2
    exact ⟨ρ2, σ2, by simp only [aops, h1, h3], h4⟩

theorem run_penT {A I S B : Oper} {k : List (Nat × Slot) → Tree} (h : (penT G E A I S B ρ k).run G O = some r) : ∃ ups, penUps G E A I S B ρ = some ups ∧ (k ups).run G O = some r := by
  unfold penT at h
  split at h
  · rename_i args tys ti d1 ii ts q1 vs tb pb d2 hA hI hS hB
    split at h
    · rename_i x y tx ty d q hargs htys hAd hId hSd hBd
      split at h
      · rename_i e sz es sz' es' kk n v hu hx hy hi hv
        simp only [Tree.run] at h
        split at h
        · rename_i hn
          simp only [Bool.and_eq_true, decide_eq_true_eq] at hn
          split at h
          · rename_i hc
            obtain ⟨c1, c2, c3, c4, c5⟩ := hc
            refine ⟨_, ?_, h⟩
            simp only [penUps, hA, hI, hS, hB, hargs, htys, hAd, hId, hSd, hBd, hu, hx, hy, hi, hv]
            rw [if_pos ⟨c1, c2, c3, c4, c5, hn⟩]
          · simp [Tree.run] at h
        · simp at h
      · simp [Tree.run] at h
    · simp [Tree.run] at h
  · simp [Tree.run] at h

theorem run_regionT {id : Nat} {draw : Bool} {k : Env → Sig → Tree} (h : (regionT G E id ops draw ρ σ k).run G O = some r) : ∃ ρ' σ', aregion G E O id ops draw ρ σ = some (ρ', σ') ∧ (k ρ' σ').run G O = some r := by
  unfold regionT at h
  unfold aregion
  split at h
  · rename_i hp
    rw [if_pos hp]
    split at h
    · rename_i front A I S B hparts
      obtain ⟨ρ1, σ1, h1, h2⟩ := run_aopsT _ _ _ _ h
      obtain ⟨ups, h3, h4⟩ := run_penT h2
      obtain ⟨ρ2, σ2, h5, h6⟩ := run_aopT h4
      exact ⟨ρ2, σ2, by simp only [hparts, h1, h3, h5], h6⟩
    · simp [Tree.run] at h
  · rename_i hp
    rw [if_neg hp]
    exact run_aopsT _ _ _ _ h

theorem mkEnv_get (f : Nat → Slot) (vars : List Nat) (t : Nat) : mkEnv (vars.map fun t => (t, f t)) t = if t ∈ vars then f t else .none := by
  induction vars with
  | nil => rfl
  | cons v vars ih =>
    simp only [List.map_cons, mkEnv]
    by_cases h : t = v
    · subst h; simp
    · rw [if_neg h, ih]; simp [h]

theorem forget_idem (vars : List Nat) (ρ : Env) : forget vars (forget vars ρ) = forget vars ρ := by
  funext t
  simp only [forget, mkEnv_get]
  split
  · cases ρ t <;> rfl
  · rfl

theorem execC_forget {b : Code} : execC G E O (.loop b) (forget (E.an.headOf b) ρ) σ = execC G E O (.loop b) ρ σ := by
  simp only [execC, forget_idem]

theorem flatL_app (a b : List AV) : AV.flatL (a ++ b) = (AV.flatL a && AV.flatL b) := by
  induction a with
  | nil => simp [AV.flatL]
  | cons x a ih => simp [AV.flatL, ih, Bool.and_assoc]

theorem run_execT : ∀ (c : Code) (ρ : Env) (σ : Sig) (k : XExit → Env → Sig → Tree), (execT G E c ρ σ k).run G O = some r → ∃ e ρ' σ', execC G E O c ρ σ = some (e, ρ', σ') ∧ (k e ρ' σ').run G O = some r := by
  intro c
  induction c with
  | skip => intro ρ σ k h; exact ⟨_, _, _, rfl, h⟩
  | ret => intro ρ σ k h; exact ⟨_, _, _, rfl, h⟩
  | exit id => intro ρ σ k h; exact ⟨_, _, _, rfl, h⟩
  | seq a b iha ihb =>
    intro ρ σ k h
    simp only [execT] at h
    obtain ⟨e, ρ1, σ1, h1, h2⟩ := iha _ _ _ h
    cases e with
    | normal =>
      obtain ⟨e2, ρ2, σ2, h3, h4⟩ := ihb _ _ _ h2
      exact ⟨e2, ρ2, σ2, by simp only [execC, h1, h3], h4⟩
    | exit id => exact ⟨_, ρ1, σ1, by simp only [execC, h1], h2⟩
    | ret => exact ⟨_, ρ1, σ1, by simp only [execC, h1], h2⟩
  | cond c a b iha ihb =>
    intro ρ σ k h
    simp only [execT] at h
    split at h
    · rename_i b' hb
      simp only [Tree.run] at h
      cases b' with
      | true =>
        simp at h
        obtain ⟨e, ρ1, σ1, h1, h2⟩ := iha _ _ _ h
        exact ⟨e, ρ1, σ1, by simp only [execC, hb, h1], h2⟩
      | false =>
        simp at h
        obtain ⟨e, ρ1, σ1, h1, h2⟩ := ihb _ _ _ h
        exact ⟨e, ρ1, σ1, by simp only [execC, hb, h1], h2⟩
    · simp [Tree.run] at h
  | block id b ih =>
    intro ρ σ k h
    simp only [execT] at h
    obtain ⟨e, ρ1, σ1, h1, h2⟩ := ih _ _ _ h
    cases e with
    | normal => exact ⟨_, ρ1, σ1, by simp only [execC, h1], h2⟩
    | exit id' => exact ⟨_, ρ1, σ1, by simp only [execC, h1], h2⟩
    | ret => exact ⟨_, ρ1, σ1, by simp only [execC, h1], h2⟩
  | loop b ih =>
    intro ρ σ k h
    simp only [execT, Tree.run] at h
    split at h
    · rename_i e ρ' σ' hx
      exact ⟨e, ρ', σ', execC_forget (E := E) ▸ hx, h⟩
    · simp at h
  | region id ops draw =>
    intro ρ σ k h
    simp only [execT] at h
    obtain ⟨ρ1, σ1, h1, h2⟩ := run_regionT h
    exact ⟨_, _, _, by simp only [execC, h1], h2⟩
  | rangeFunc f ps assign body _ _ =>
    intro ρ σ k h
    simp only [execT] at h
    split at h
    · rename_i g first cap hf
      have go : ∀ (h : (if (ps.toList.all fun t => decide (t < E.an.ntmps) && !E.an.loc.contains t) = false then Tree.done none else
        .call 0 g (first ++ [.yield σ.length] ++ cap) (σ ++ [.loop { fn := E.fn, env := roundEnv ρ, params := ps, assign, body, state := .ready, pending := none }]) false fun _ σ2 =>
          .lp σ2 σ.length fun L' => if L'.state = .busy then .done none else
            match L'.pending with
            | none => k .normal ρ (σ2.set σ.length (.loop { L' with state := .exhausted }))
            | some .ret => k .ret ρ (σ2.set σ.length (.loop { L' with state := .exhausted }))
            | some (.exit id) => k (.exit id) ρ (σ2.set σ.length (.loop { L' with state := .exhausted }))
            | _ => .done none : Tree).run G O = some r) (hr : roundOk E σ = true),
          ∃ e ρ' σ', execC G E O (.rangeFunc f ps assign body) ρ σ = some (e, ρ', σ') ∧ (k e ρ' σ').run G O = some r := by
        intro h hr
        split at h
        · simp [Tree.run] at h
        · rename_i hps
          simp only [Tree.run] at h
          split at h
          · rename_i v σ2 hc
            have hnf : AV.flatL (first ++ [AV.yield σ.length] ++ cap) = false := by simp [flatL_app, AV.flatL, AV.flat]
            simp only [callRes, hnf, Bool.false_eq_true, if_false] at hc
            split at h
            · rename_i L' hL
              split at h
              · simp [Tree.run] at h
              · rename_i hbusy
                have key : ∀ x, (match L'.pending with
                    | none => some (XExit.normal, ρ, σ2.set σ.length (.loop { L' with state := .exhausted }))
                    | some .ret => some (.ret, ρ, σ2.set σ.length (.loop { L' with state := .exhausted }))
                    | some (.exit id) => some (.exit id, ρ, σ2.set σ.length (.loop { L' with state := .exhausted }))
                    | _ => none) = some x → execC G E O (.rangeFunc f ps assign body) ρ σ = some x := by
                  intro x hx
                  simp only [execC, hf]
                  rw [if_neg (by rw [hr]; simp), if_neg hps]
                  simp only [hc, hL]
                  rw [if_neg hbusy]
                  exact hx
                split at h
                · rename_i hp
                  exact ⟨_, _, _, key _ (by rw [hp]), h⟩
                · rename_i hp
                  exact ⟨_, _, _, key _ (by rw [hp]), h⟩
                · rename_i id hp
                  exact ⟨_, _, _, key _ (by rw [hp]), h⟩
                · simp [Tree.run] at h
            · simp at h
          · simp at h
      cases hro : E.round with
      | none =>
        rw [hro] at h
        exact go h (by simp [roundOk, hro])
      | some l =>
        rw [hro] at h
        simp only [Tree.run] at h
        split at h
        · rename_i L hL
          exact go h (by simp [roundOk, hro, hL])
        · simp at h
    · simp [Tree.run] at h
  | _ => intro ρ σ k h; simp [execT, Tree.run] at h

theorem run_treeT {t : Task} (h : (treeT G t).run G O = some r) : stepT G O t = some r := by
  cases t with
  | call g args σ =>
    simp only [treeT] at h
    simp only [stepT]
    by_cases hprim : G.prim.contains g = true
    · rw [if_pos hprim] at h ⊢
      split at h
      · rename_i sz es
        split at h
        · rename_i hsz
          simp only [Tree.run] at h
          split at h
          · rename_i hle
            simp at hle
            subst hsz
            simp [primOf, hle]
            simpa [Tree.run] using h
          · simp at h
        · simp [Tree.run] at h
      · simp [Tree.run] at h
    rw [if_neg hprim] at h ⊢
    split at h
    · rename_i an fn hann hfn
      split at h
      · rename_i c hc
        split at h
        · rename_i hlen
          obtain ⟨e, ρ', σ', h1, h2⟩ := run_execT _ _ _ _ h
          simp only [hann, hfn, hc]
          rw [if_pos hlen, h1]
          cases e with
          | exit id => simp [Tree.run] at h2
          | normal =>
            simp only at h2 ⊢
            split at h2
            · rename_i vs hvs
              simp only [hvs]
              simp only [Tree.run] at h2
              split at h2
              · rename_i hb
                simp only [Bool.or_eq_true, decide_eq_true_eq] at hb
                rw [if_pos (by simpa using hb)]
                simpa [Tree.run] using h2
              · rename_i hb
                simp only [Bool.or_eq_true, decide_eq_true_eq] at hb
                rw [if_neg (by simpa using hb)]
                simp only [Tree.run] at h2
                split at h2
                · rename_i hf; rw [if_pos hf]; simpa [Tree.run] using h2
                · simp at h2
            · simp [Tree.run] at h2
          | ret =>
            simp only at h2 ⊢
            split at h2
            · rename_i vs hvs
              simp only [hvs]
              simp only [Tree.run] at h2
              split at h2
              · rename_i hb
                simp only [Bool.or_eq_true, decide_eq_true_eq] at hb
                rw [if_pos (by simpa using hb)]
                simpa [Tree.run] using h2
              · rename_i hb
                simp only [Bool.or_eq_true, decide_eq_true_eq] at hb
                rw [if_neg (by simpa using hb)]
                simp only [Tree.run] at h2
                split at h2
                · rename_i hf; rw [if_pos hf]; simpa [Tree.run] using h2
                · simp at h2
            · simp [Tree.run] at h2
        · simp [Tree.run] at h
      · simp [Tree.run] at h
    · simp [Tree.run] at h
  | yield l args σ =>
    simp only [treeT, Tree.run] at h
    simp only [stepT]
    split at h
    · rename_i L hL
      simp only [hL]
      split at h
      · rename_i an hann
        simp only [hann]
        split at h
        · rename_i hc
          rw [if_pos hc]
          obtain ⟨e, ρ1, σ1, h1, h2⟩ := run_execT _ _ _ _ h
          rw [h1]
          cases e with
          | normal =>
            simp only [Tree.run] at h2
            split at h2
            · rename_i L1 hL1
              simp only [hL1]
              split at h2
              · rename_i hst
                rw [if_pos hst]
                obtain ⟨e2, ρ2, σ2, h3, h4⟩ := run_execT _ _ _ _ h2
                rw [h3]
                simp only [Tree.run] at h4
                split at h4
                · rename_i L2 hL2
                  simp only [hL2]
                  cases e2 <;> simpa [Tree.run] using h4
                · simp at h4
              · simp [Tree.run] at h2
            · simp at h2
          | exit id => simp [Tree.run] at h2
          | ret => simp [Tree.run] at h2
        · simp [Tree.run] at h
      · simp [Tree.run] at h
    · simp at h
  | loop E c ρ σ =>
    simp only [treeT] at h
    split at h
    · rename_i b
      obtain ⟨e, ρ1, σ1, h1, h2⟩ := run_execT _ _ _ _ h
      simp only [stepT, execC, h1]
      cases e with
      | normal =>
        simp only [Tree.run] at h2
        split at h2
        · rename_i e2 ρ2 σ2 hc
          have : O (.loop E (.loop b) (forget (E.an.headOf b) ρ1) σ1) = some (.code e2 ρ2 σ2) := by
            unfold codeOf at hc
            split at hc
            · rename_i heq; simp at hc; obtain ⟨rfl, rfl, rfl⟩ := hc; exact heq
            · simp at hc
          simp only [this]
          simpa [Tree.run] using h2
        · simp at h2
      | exit id => simpa [Tree.run] using h2
      | ret => simpa [Tree.run] using h2
    · simp [Tree.run] at h

/-! ### Scripts -/

inductive Ent where
  | s
  | b (c : Bool)
  | n (m : Nat)
  | a (v : AV)
  | u
  | x (cs : List AV) (ow : List Nat)
  | l (L : ALoop)
  | r (v : AV) (σ : Sig)
  | c (e : XExit) (ρ : Env) (σ : Sig)

/-- From some depth on the evaluator gives this. -/
def Ev (G : Prg) (t : Task) (r : Res) : Prop := ∃ N, ∀ m, N ≤ m → F G m t = some r

/-- A call that is handed boxes: either it needs none of them, or it is made with them. -/
def EvC (G : Prg) (g : FuncId) (args : List AV) (σ : Sig) (quiet : Bool) (v : AV) (σ' : Sig) : Prop :=
  (AV.flatL args = true ∧ Ev G (.call g args []) (.ret v []) ∧ σ' = σ) ∨ (AV.flatL args = false ∧ quiet = false ∧ Ev G (.call g args σ) (.ret v σ')) ∨
    (quiet = false ∧ (∃ v0 x xs, Ev G (.call g args []) (.ret v0 (x :: xs))) ∧ Ev G (.call g args σ) (.ret v σ'))

def play (G : Prg) : Tree → List Ent → Option (Res × List Prop)
  | .done (some r), [] => some (r, [])
  | .ask b k, .s :: s => play G (k b) s
  | .ask b k, .b c :: s => (play G (k c) s).map fun p => (p.1, (b = c) :: p.2)
  | .nat n k, .s :: s => if 0 ≤ n then play G (k n.toNat) s else none
  | .nat n k, .n m :: s => (play G (k m) s).map fun p => (p.1, (n = (m : Int)) :: p.2)
  | .get _ es i k, .s :: s => match es[i]? with | some a => play G (k a) s | none => none
  | .get _ es i k, .a v :: s => (play G (k v) s).map fun p => (p.1, (es[i]? = some v) :: p.2)
  | .chk p k, .s :: s => if p then play G k s else none
  | .chk p k, .u :: s => (play G k s).map fun q => (q.1, (p = true) :: q.2)
  | .box σ id k, .s :: s => match σ[id]? with | some (.box cs ow) => play G (k cs ow) s | _ => none
  | .box σ id k, .x cs ow :: s => (play G (k cs ow) s).map fun q => (q.1, (σ[id]? = some (.box cs ow)) :: q.2)
  | .lp σ id k, .s :: s => match σ[id]? with | some (.loop L) => play G (k L) s | _ => none
  | .lp σ id k, .l L :: s => (play G (k L) s).map fun q => (q.1, (σ[id]? = some (.loop L)) :: q.2)
  | .cutq _ agg cs off n k, .a v :: s => (play G (k v) s).map fun q => (q.1, (cut agg cs off n = some v) :: q.2)
  | .cutq _ agg cs off n k, .s :: s => match cut agg cs off n with | some v => play G (k v) s | none => none
  | .call _ g args σ quiet k, .r v σ' :: s => (play G (k v σ') s).map fun q => (q.1, EvC G g args σ quiet v σ' :: q.2)
  | .yield _ l args σ k, .r v σ' :: s => (play G (k v σ') s).map fun q => (q.1, Ev G (.yield l args σ) (.ret v σ') :: q.2)
  | .loopc E b ρ σ k, .c e ρ' σ' :: s => (play G (k e ρ' σ') s).map fun q => (q.1, Ev G (.loop E (.loop b) ρ σ) (.code e ρ' σ') :: q.2)
  | .loopo E b ρ σ k, .c e ρ' σ' :: s => (play G (k e ρ' σ') s).map fun q => (q.1, Ev G (.loop E (.loop b) ρ σ) (.code e ρ' σ') :: q.2)
  | .lett x k, s => play G (k x) s
  | .letb x k, s => play G (k x) s
  | .mth o k, s => match o with | some g => play G (k g) s | none => none
  | _, _ => none

abbrev AllP : List Prop → Prop
  | [] => True
  | p :: ps => p ∧ AllP ps

theorem EvC.at {g : FuncId} {args : List AV} {σ σ' : Sig} {quiet : Bool} {v : AV} (h : EvC G g args σ quiet v σ') : ∃ N, ∀ m, N ≤ m → callRes (F G m) g args σ quiet = some (v, σ') := by
  rcases h with ⟨hf, ⟨N, hN⟩, rfl⟩ | ⟨hf, rfl, N, hN⟩ | ⟨rfl, ⟨v0, x, xs, N1, hN1⟩, N, hN⟩
  · exact ⟨N, fun m hm => by simp [callRes, hf, hN m hm, retOf]⟩
  · exact ⟨N, fun m hm => by simp [callRes, hf, hN m hm, retOf]⟩
  · refine ⟨max N N1, fun m hm => ?_⟩
    unfold callRes
    split
    · rename_i v' hv
      split at hv
      · rw [hN1 m (by omega)] at hv
        simp [retOf] at hv
      · simp at hv
    · simp [hN m (by omega), retOf]

theorem play_run : ∀ (T : Tree) (s : List Ent) (r : Res) (obs : List Prop), play G T s = some (r, obs) → AllP obs → ∃ N, ∀ m, N ≤ m → T.run G (F G m) = some r := by
  intro T
  induction T with
  | done r0 =>
    intro s r obs h _
    cases r0 with
    | none => simp [play] at h
    | some r0 =>
      cases s with
      | nil => simp [play] at h; exact ⟨0, fun m _ => by simp [Tree.run, h.1]⟩
      | cons x s => simp [play] at h
  | ask b k ih =>
    intro s r obs h ho
    cases s with
    | nil => simp [play] at h
    | cons x s =>
      cases x with
      | s => simp only [play] at h; exact ih b s r obs h ho
      | b c =>
        simp only [play, Option.map_eq_some_iff] at h
        obtain ⟨p, h1, h2⟩ := h
        simp only [Prod.mk.injEq] at h2
        obtain ⟨rfl, rfl⟩ := h2
        obtain ⟨rfl, ho⟩ := ho
        exact ih b s _ _ h1 ho
      | _ => simp [play] at h
  | nat n k ih =>
    intro s r obs h ho
    cases s with
    | nil => simp [play] at h
    | cons x s =>
      cases x with
      | s =>
        simp only [play] at h
        split at h
        · rename_i h0
          obtain ⟨N, hN⟩ := ih _ s r obs h ho
          exact ⟨N, fun m hm => by simp only [Tree.run, if_pos h0]; exact hN m hm⟩
        · simp at h
      | n c =>
        simp only [play, Option.map_eq_some_iff] at h
        obtain ⟨p, h1, h2⟩ := h
        simp only [Prod.mk.injEq] at h2
        obtain ⟨rfl, rfl⟩ := h2
        obtain ⟨rfl, ho⟩ := ho
        obtain ⟨N, hN⟩ := ih c s _ _ h1 ho
        exact ⟨N, fun m hm => by simp only [Tree.run]; rw [if_pos (by omega)]; exact hN m hm⟩
      | _ => simp [play] at h
  | get ty es i k ih =>
    intro s r obs h ho
    cases s with
    | nil => simp [play] at h
    | cons x s =>
      cases x with
      | s =>
        simp only [play] at h
        split at h
        · rename_i a ha
          obtain ⟨N, hN⟩ := ih _ s r obs h ho
          exact ⟨N, fun m hm => by simp only [Tree.run, ha]; exact hN m hm⟩
        · simp at h
      | a v =>
        simp only [play, Option.map_eq_some_iff] at h
        obtain ⟨p, h1, h2⟩ := h
        simp only [Prod.mk.injEq] at h2
        obtain ⟨rfl, rfl⟩ := h2
        obtain ⟨ha, ho⟩ := ho
        obtain ⟨N, hN⟩ := ih v s _ _ h1 ho
        exact ⟨N, fun m hm => by simp only [Tree.run, ha]; exact hN m hm⟩
      | _ => simp [play] at h
  | chk p k ih =>
    intro s r obs h ho
    cases s with
    | nil => simp [play] at h
    | cons x s =>
      cases x with
      | s =>
        simp only [play] at h
        split at h
        · rename_i h0
          obtain ⟨N, hN⟩ := ih s r obs h ho
          exact ⟨N, fun m hm => by simp only [Tree.run, if_pos h0]; exact hN m hm⟩
        · simp at h
      | u =>
        simp only [play, Option.map_eq_some_iff] at h
        obtain ⟨q, h1, h2⟩ := h
        simp only [Prod.mk.injEq] at h2
        obtain ⟨rfl, rfl⟩ := h2
        obtain ⟨h0, ho⟩ := ho
        obtain ⟨N, hN⟩ := ih s _ _ h1 ho
        exact ⟨N, fun m hm => by simp only [Tree.run, if_pos h0]; exact hN m hm⟩
      | _ => simp [play] at h
  | box σ id k ih =>
    intro s r obs h ho
    cases s with
    | nil => simp [play] at h
    | cons x s =>
      cases x with
      | s =>
        simp only [play] at h
        split at h
        · rename_i cs ow ha
          obtain ⟨N, hN⟩ := ih _ _ s r obs h ho
          exact ⟨N, fun m hm => by simp only [Tree.run, ha]; exact hN m hm⟩
        · simp at h
      | x cs ow =>
        simp only [play, Option.map_eq_some_iff] at h
        obtain ⟨p, h1, h2⟩ := h
        simp only [Prod.mk.injEq] at h2
        obtain ⟨rfl, rfl⟩ := h2
        obtain ⟨ha, ho⟩ := ho
        obtain ⟨N, hN⟩ := ih cs ow s _ _ h1 ho
        exact ⟨N, fun m hm => by simp only [Tree.run, ha]; exact hN m hm⟩
      | _ => simp [play] at h
  | lp σ id k ih =>
    intro s r obs h ho
    cases s with
    | nil => simp [play] at h
    | cons x s =>
      cases x with
      | s =>
        simp only [play] at h
        split at h
        · rename_i L ha
          obtain ⟨N, hN⟩ := ih _ s r obs h ho
          exact ⟨N, fun m hm => by simp only [Tree.run, ha]; exact hN m hm⟩
        · simp at h
      | l L =>
        simp only [play, Option.map_eq_some_iff] at h
        obtain ⟨p, h1, h2⟩ := h
        simp only [Prod.mk.injEq] at h2
        obtain ⟨rfl, rfl⟩ := h2
        obtain ⟨ha, ho⟩ := ho
        obtain ⟨N, hN⟩ := ih L s _ _ h1 ho
        exact ⟨N, fun m hm => by simp only [Tree.run, ha]; exact hN m hm⟩
      | _ => simp [play] at h
  | cutq ty agg cs off n k ih =>
    intro s r obs h ho
    cases s with
    | nil => simp [play] at h
    | cons x s =>
      cases x with
      | s =>
        simp only [play] at h
        split at h
        · rename_i a ha
          obtain ⟨N, hN⟩ := ih _ s r obs h ho
          exact ⟨N, fun m hm => by simp only [Tree.run, ha]; exact hN m hm⟩
        · simp at h
      | a v =>
        simp only [play, Option.map_eq_some_iff] at h
        obtain ⟨p, h1, h2⟩ := h
        simp only [Prod.mk.injEq] at h2
        obtain ⟨rfl, rfl⟩ := h2
        obtain ⟨ha, ho⟩ := ho
        obtain ⟨N, hN⟩ := ih v s _ _ h1 ho
        exact ⟨N, fun m hm => by simp only [Tree.run, ha]; exact hN m hm⟩
      | _ => simp [play] at h
  | call ty g args σ quiet k ih =>
    intro s r obs h ho
    cases s with
    | nil => simp [play] at h
    | cons x s =>
      cases x with
      | r v σ' =>
        simp only [play, Option.map_eq_some_iff] at h
        obtain ⟨p, h1, h2⟩ := h
        simp only [Prod.mk.injEq] at h2
        obtain ⟨rfl, rfl⟩ := h2
        obtain ⟨ha, ho⟩ := ho
        obtain ⟨N1, hN1⟩ := ha.at
        obtain ⟨N, hN⟩ := ih v σ' s _ _ h1 ho
        exact ⟨max N N1, fun m hm => by simp only [Tree.run, hN1 m (by omega)]; exact hN m (by omega)⟩
      | _ => simp [play] at h
  | yield ty l args σ k ih =>
    intro s r obs h ho
    cases s with
    | nil => simp [play] at h
    | cons x s =>
      cases x with
      | r v σ' =>
        simp only [play, Option.map_eq_some_iff] at h
        obtain ⟨p, h1, h2⟩ := h
        simp only [Prod.mk.injEq] at h2
        obtain ⟨rfl, rfl⟩ := h2
        obtain ⟨⟨N1, hN1⟩, ho⟩ := ho
        obtain ⟨N, hN⟩ := ih v σ' s _ _ h1 ho
        exact ⟨max N N1, fun m hm => by simp only [Tree.run, hN1 m (by omega), retOf]; exact hN m (by omega)⟩
      | _ => simp [play] at h
  | loopc E b ρ σ k ih =>
    intro s r obs h ho
    cases s with
    | nil => simp [play] at h
    | cons x s =>
      cases x with
      | c e ρ' σ' =>
        simp only [play, Option.map_eq_some_iff] at h
        obtain ⟨p, h1, h2⟩ := h
        simp only [Prod.mk.injEq] at h2
        obtain ⟨rfl, rfl⟩ := h2
        obtain ⟨⟨N1, hN1⟩, ho⟩ := ho
        obtain ⟨N, hN⟩ := ih e ρ' σ' s _ _ h1 ho
        refine ⟨max N N1, fun m hm => ?_⟩
        have hx := hN1 (m + 1) (by omega)
        simp only [F, stepT] at hx
        split at hx
        · rename_i e1 ρ1 σ1 hx1
          simp only [Option.some.injEq, Res.code.injEq] at hx
          obtain ⟨rfl, rfl, rfl⟩ := hx
          simp only [Tree.run, hx1]
          exact hN m (by omega)
        · simp at hx
      | _ => simp [play] at h
  | loopo E b ρ σ k ih =>
    intro s r obs h ho
    cases s with
    | nil => simp [play] at h
    | cons x s =>
      cases x with
      | c e ρ' σ' =>
        simp only [play, Option.map_eq_some_iff] at h
        obtain ⟨p, h1, h2⟩ := h
        simp only [Prod.mk.injEq] at h2
        obtain ⟨rfl, rfl⟩ := h2
        obtain ⟨⟨N1, hN1⟩, ho⟩ := ho
        obtain ⟨N, hN⟩ := ih e ρ' σ' s _ _ h1 ho
        exact ⟨max N N1, fun m hm => by simp only [Tree.run, hN1 m (by omega), codeOf]; exact hN m (by omega)⟩
      | _ => simp [play] at h
  | lett x k ih =>
    intro s r obs h ho
    simp only [play] at h
    exact ih x s r obs h ho
  | letb x k ih =>
    intro s r obs h ho
    simp only [play] at h
    exact ih x s r obs h ho
  | mth o k ih =>
    intro s r obs h ho
    cases o with
    | none => simp [play] at h
    | some g =>
      simp only [play] at h
      exact ih g s r obs h ho

/-- A script that plays out, all that it owes paid: so the evaluator comes out. -/
theorem Ev.of (s : List Ent) {t : Task} {r : Res} {obs : List Prop} (h : play G (treeT G t) s = some (r, obs)) (ho : AllP obs) : Ev G t r := by
  obtain ⟨N, hN⟩ := play_run _ _ _ _ h ho
  refine ⟨N + 1, fun m hm => ?_⟩
  cases m with
  | zero => omega
  | succ m => exact run_treeT (hN m (by omega))

theorem EvC.flat {g : FuncId} {args : List AV} {v : AV} (h : Ev G (.call g args []) (.ret v [])) (hf : AV.flatL args = true) (σ : Sig) (quiet : Bool) : EvC G g args σ quiet v σ := .inl ⟨hf, h, rfl⟩
theorem EvC.with {g : FuncId} {args : List AV} {v : AV} {σ σ' : Sig} (h : Ev G (.call g args σ) (.ret v σ')) (hf : AV.flatL args = false) : EvC G g args σ false v σ' := .inr (.inl ⟨hf, rfl, h⟩)
theorem EvC.keep {g : FuncId} {args : List AV} {v v0 : AV} {x : AObj} {xs σ σ' : Sig} (h0 : Ev G (.call g args []) (.ret v0 (x :: xs))) (h : Ev G (.call g args σ) (.ret v σ')) : EvC G g args σ false v σ' := .inr (.inr ⟨rfl, ⟨v0, x, xs, h0⟩, h⟩)

/-! ### Reckoning -/

def callS (O : Task → Option Res) (g : FuncId) (args : List AV) (σ : Sig) (quiet : Bool) : Option (AV × Sig) :=
  if AV.flatL args then (match retOf (O (.call g args [])) with | some (v, []) => some (v, σ) | some (_, _ :: _) => if quiet then none else retOf (O (.call g args σ)) | none => none) else if quiet then none else retOf (O (.call g args σ))

def Tree.runS (O : Task → Option Res) : Tree → Option Res
  | .done r => r
  | .ask b k => (k b).runS O
  | .nat n k => if 0 ≤ n then (k n.toNat).runS O else none
  | .get _ es i k => match es[i]? with | some a => (k a).runS O | none => none
  | .chk p k => if p then k.runS O else none
  | .box σ id k => match σ[id]? with | some (.box cs ow) => (k cs ow).runS O | _ => none
  | .lp σ id k => match σ[id]? with | some (.loop L) => (k L).runS O | _ => none
  | .cutq _ agg cs off n k => match cut agg cs off n with | some v => (k v).runS O | none => none
  | .call _ g args σ quiet k => match callS O g args σ quiet with | some (v, σ') => (k v σ').runS O | none => none
  | .yield _ l args σ k => match retOf (O (.yield l args σ)) with | some (v, σ') => (k v σ').runS O | none => none
  | .loopc E b ρ σ k => match codeOf (O (.loop E (.loop b) ρ σ)) with | some (e, ρ', σ') => (k e ρ' σ').runS O | none => none
  | .loopo E b ρ σ k => match codeOf (O (.loop E (.loop b) ρ σ)) with | some (e, ρ', σ') => (k e ρ' σ').runS O | none => none
  | .lett x k => (k x).runS O
  | .letb x k => (k x).runS O
  | .mth o k => match o with | some g => (k g).runS O | none => none

def FS (G : Prg) : Nat → Task → Option Res
  | 0, _ => none
  | n + 1, t => (treeT G t).runS (FS G n)

theorem retOf_eq {x : Option Res} {v : AV} {s : Sig} (h : retOf x = some (v, s)) : x = some (.ret v s) := by
  unfold retOf at h
  split at h
  · simp at h; obtain ⟨rfl, rfl⟩ := h; rfl
  · simp at h

theorem codeOf_eq {x : Option Res} {e : XExit} {ρ : Env} {s : Sig} (h : codeOf x = some (e, ρ, s)) : x = some (.code e ρ s) := by
  unfold codeOf at h
  split at h
  · simp at h; obtain ⟨rfl, rfl, rfl⟩ := h; rfl
  · simp at h

theorem runS_run {O : Task → Option Res} {m : Nat} (hO : ∀ t r, O t = some r → F G m t = some r ∧ F G (m + 1) t = some r) : ∀ (T : Tree) (r : Res), T.runS O = some r → T.run G (F G m) = some r := by
  intro T
  induction T with
  | done r0 => intro r h; exact h
  | ask b k ih => intro r h; exact ih b r h
  | nat n k ih =>
    intro r h
    simp only [Tree.runS] at h
    simp only [Tree.run]
    split at h
    · rename_i h0; rw [if_pos h0]; exact ih _ r h
    · simp at h
  | get ty es i k ih =>
    intro r h
    simp only [Tree.runS] at h
    split at h
    · rename_i a ha
      simp only [Tree.run, ha]; exact ih _ r h
    · simp at h
  | chk p k ih =>
    intro r h
    simp only [Tree.runS] at h
    simp only [Tree.run]
    split at h
    · rename_i h0; rw [if_pos h0]; exact ih r h
    · simp at h
  | box σ id k ih =>
    intro r h
    simp only [Tree.runS] at h
    split at h
    · rename_i cs ow ha
      simp only [Tree.run, ha]; exact ih _ _ r h
    · simp at h
  | lp σ id k ih =>
    intro r h
    simp only [Tree.runS] at h
    split at h
    · rename_i L ha
      simp only [Tree.run, ha]; exact ih _ r h
    · simp at h
  | cutq ty agg cs off n k ih =>
    intro r h
    simp only [Tree.runS] at h
    split at h
    · rename_i v hv
      simp only [Tree.run, hv]; exact ih _ r h
    · simp at h
  | call ty g args σ quiet k ih =>
    intro r h
    simp only [Tree.runS] at h
    split at h
    · rename_i v σ' hc
      have : callRes (F G m) g args σ quiet = some (v, σ') := by
        unfold callS at hc
        unfold callRes
        split at hc
        · rename_i hf
          split at hc
          · rename_i v' hv
            have := retOf_eq hv
            have := (hO _ _ this).1
            simp only [Option.some.injEq, Prod.mk.injEq] at hc
            obtain ⟨rfl, rfl⟩ := hc
            simp [hf, this, retOf]
          · rename_i v0 x xs hv
            have h1 := (hO _ _ (retOf_eq hv)).1
            split at hc
            · simp at hc
            · rename_i hq
              have h2 := (hO _ _ (retOf_eq hc)).1
              have hq : quiet = false := by simpa using hq
              simp [hf, h1, h2, retOf, hq]
          · simp at hc
        · rename_i hf
          have hf : AV.flatL args = false := by simpa using hf
          split at hc
          · simp at hc
          · rename_i hq
            have := (hO _ _ (retOf_eq hc)).1
            have hq : quiet = false := by simpa using hq
            simp [hf, this, retOf, hq]
      simp only [Tree.run, this]
      exact ih _ _ r h
    · simp at h
  | yield ty l args σ k ih =>
    intro r h
    simp only [Tree.runS] at h
    split at h
    · rename_i v σ' hc
      have := (hO _ _ (retOf_eq hc)).1
      simp only [Tree.run, this, retOf]
      exact ih _ _ r h
    · simp at h
  | loopc E b ρ σ k ih =>
    intro r h
    simp only [Tree.runS] at h
    split at h
    · rename_i e ρ' σ' hc
      have hx := (hO _ _ (codeOf_eq hc)).2
      simp only [F, stepT] at hx
      split at hx
      · rename_i e1 ρ1 σ1 hx1
        simp only [Option.some.injEq, Res.code.injEq] at hx
        obtain ⟨rfl, rfl, rfl⟩ := hx
        simp only [Tree.run, hx1]
        exact ih _ _ _ r h
      · simp at hx
    · simp at h
  | loopo E b ρ σ k ih =>
    intro r h
    simp only [Tree.runS] at h
    split at h
    · rename_i e ρ' σ' hc
      have := (hO _ _ (codeOf_eq hc)).1
      simp only [Tree.run, this, codeOf]
      exact ih _ _ _ r h
    · simp at h
  | lett x k ih => intro r h; exact ih x r h
  | letb x k ih => intro r h; exact ih x r h
  | mth o k ih =>
    intro r h
    cases o with
    | none => simp [Tree.runS] at h
    | some g => simp only [Tree.runS] at h; exact ih g r h

theorem FS_F : ∀ (n : Nat) (t : Task) (r : Res), FS G n t = some r → ∀ m, n ≤ m → F G m t = some r := by
  intro n
  induction n with
  | zero => intro t r h; simp [FS] at h
  | succ n ih =>
    intro t r h m hm
    cases m with
    | zero => omega
    | succ m => exact run_treeT (runS_run (fun t r h => ⟨ih t r h m (by omega), ih t r h (m + 1) (by omega)⟩) _ r h)

theorem Ev.comp (n : Nat) {t : Task} {r : Res} (h : FS G n t = some r) : Ev G t r := ⟨n, FS_F n t r h⟩

end Go.AI

/- The abstract machine: names for a function's code and its parts. -/
namespace Go.AI
set_option linter.unusedVariables false
set_option linter.unusedSimpArgs false
open Go

/-- The loops of a code, in order. -/
def loopsIn : Code → List Code
  | .seq a b => loopsIn a ++ loopsIn b
  | .cond _ a b => loopsIn a ++ loopsIn b
  | .block _ b => loopsIn b
  | .loop b => b :: loopsIn b
  | .rangeFunc _ _ a b => loopsIn a ++ loopsIn b
  | _ => []

/-- The ranges over functions of a code, in order. -/
def rangesIn : Code → List (Array Tmp × Code × Code)
  | .seq a b => rangesIn a ++ rangesIn b
  | .cond _ a b => rangesIn a ++ rangesIn b
  | .block _ b => rangesIn b
  | .loop b => rangesIn b
  | .rangeFunc _ ps a b => (ps, a, b) :: (rangesIn a ++ rangesIn b)
  | _ => []

def bodyOf (G : Prg) (g : FuncId) : Code := (((G.P.funcs[g]?).bind (·.body))).getD .skip
def lpOf (G : Prg) (g n : Nat) : Code := ((loopsIn (bodyOf G g))[n]?).getD .skip
def annOf (G : Prg) (g : FuncId) : Ann := (G.ann g).getD { vars := [], loc := [], own := [], into := [], imp := [], quiet := [], keep := false, ntmps := 0 }
def eeOf (G : Prg) (g base : Nat) (round : Option Nat) : EE := { an := annOf G g, fn := g, base, round }
def rgOf (G : Prg) (g n : Nat) (env : Env) (state : LoopState) (pending : Option Code) : ALoop :=
  let x := ((rangesIn (bodyOf G g))[n]?).getD (#[], .skip, .skip)
  { fn := g, env, params := x.1, assign := x.2.1, body := x.2.2, state, pending }

end Go.AI

/- The abstract machine: scripts that bear their proofs, and stand within one another. -/
namespace Go.AI
set_option linter.unusedVariables false
set_option linter.unusedSimpArgs false
open Go
variable {G : Prg}

/-- A call that is handed no box and leaves none. -/
def EvF (G : Prg) (g : FuncId) (args : List AV) (v : AV) : Prop := AV.flatL args = true ∧ Ev G (.call g args []) (.ret v [])

theorem EvF.toC {g : FuncId} {args : List AV} {v : AV} (h : EvF G g args v) (σ : Sig) (quiet : Bool) : EvC G g args σ quiet v σ := .flat h.2 h.1 σ quiet

theorem bnot {x c : Bool} (h : x = c) : (!x) = (!c) := by rw [h]

/-- What is asked. -/
inductive Qn where
  | b (x : Bool)
  | n (x : Int)
  | a (es : List AV) (i : Nat)
  | u (x : Bool)
  | x (o : Option AObj)
  | t (agg : Bool) (cs : List AV) (off n : Nat)
  | f (g : FuncId) (args : List AV)
  | r (g : FuncId) (args : List AV) (σ : Sig) (quiet : Bool)
  | y (l : Nat) (args : List AV) (σ : Sig)
  | c (E : EE) (b : Code) (ρ : Env) (σ : Sig)
  | w (x : Int)
  | m (o : Option FuncId)

inductive QT where
  | nil
  | one (q : Qn) (t : QT)
  | two (a b : QT)

inductive En (G : Prg) where
  | sk (k : Nat)
  | b {x c : Bool} (h : x = c)
  | n {x : Int} {m : Nat} (h : x = (m : Int))
  | a {es : List AV} {i : Nat} {v : AV} (h : es[i]? = some v)
  | u {p : Bool} (h : p = true)
  | x {o : Option AObj} {cs : List AV} {ow : List Nat} (h : o = some (.box cs ow))
  | lp {o : Option AObj} {L : ALoop} (h : o = some (.loop L))
  | t {agg : Bool} {cs : List AV} {off n : Nat} {v : AV} (h : cut agg cs off n = some v)
  | f {g : FuncId} {args : List AV} {v : AV} (h : EvF G g args v)
  | r {g : FuncId} {args : List AV} {σ σ' : Sig} {quiet : Bool} {v : AV} (h : EvC G g args σ quiet v σ')
  | y {l : Nat} {args : List AV} {σ σ' : Sig} {v : AV} (h : Ev G (.yield l args σ) (.ret v σ'))
  | c {E : EE} {b : Code} {ρ ρ' : Env} {σ σ' : Sig} {e : XExit} (h : Ev G (.loop E (.loop b) ρ σ) (.code e ρ' σ'))
  | w {x y : Int} (h : x = y)
  | v {x y : Bool} (h : x = y)
  | m {o : Option FuncId} {g : FuncId} (h : o = some g)

inductive Scr (G : Prg) where
  | nil
  | en (e : En G) (s : Scr G)
  | sub (l s : Scr G)
  | subF {args : List AV} (h : AV.flatL args = true) (l s : Scr G)
  | subW {args : List AV} (h : AV.flatL args = false) (l s : Scr G)
  | subK (l0 l s : Scr G)

def En.claim (T : QT) : En G → QT
  | @En.sk _ _ => T
  | @En.b _ p1 _ _ => .one (.b p1) T
  | @En.n _ p1 _ _ => .one (.n p1) T
  | @En.a _ p1 p2 _ _ => .one (.a p1 p2) T
  | @En.u _ p1 _ => .one (.u p1) T
  | @En.x _ p1 _ _ _ => .one (.x p1) T
  | @En.lp _ p1 _ _ => .one (.x p1) T
  | @En.t _ p1 p2 p3 p4 _ _ => .one (.t p1 p2 p3 p4) T
  | @En.f _ p1 p2 _ _ => .one (.f p1 p2) T
  | @En.r _ p1 p2 p3 _ p4 _ _ => .one (.r p1 p2 p3 p4) T
  | @En.y _ p1 p2 p3 _ _ _ => .one (.y p1 p2 p3) T
  | @En.c _ p1 p2 p3 _ p4 _ _ _ => .one (.c p1 p2 p3 p4) T
  | @En.w _ p1 _ _ => .one (.w p1) T
  | @En.v _ p1 _ _ => .one (.b p1) T
  | @En.m _ p1 _ _ => .one (.m p1) T

def Scr.claim : Scr G → QT
  | .nil => .nil
  | .en e s => e.claim s.claim
  | .sub l s => .two l.claim s.claim
  | .subF (args := args) _ l s => .one (.f 0 args) (.two l.claim s.claim)
  | .subW (args := args) _ l s => .one (.f 0 args) (.two l.claim s.claim)
  | .subK l0 l s => .two l0.claim (.two l.claim s.claim)

abbrev PR := Option (Res × QT)
def PR.one (q : Qn) (x : PR) : PR := match x with | some (r, t) => some (r, .one q t) | none => none
def PR.two (t0 : QT) (x : PR) : PR := match x with | some (r, t) => some (r, .two t0 t) | none => none

/-- No entry is left: all is reckoned. -/
def Tree.fin : Tree → PR
  | .done (some r) => some (r, .nil)
  | .done none => none
  | .ask b k => (k b).fin
  | .nat n k => if 0 ≤ n then (k n.toNat).fin else none
  | .get _ es i k => match es[i]? with | some a => (k a).fin | none => none
  | .chk p k => if p then k.fin else none
  | .box σ id k => match σ[id]? with | some (.box cs ow) => (k cs ow).fin | _ => none
  | .lp σ id k => match σ[id]? with | some (.loop L) => (k L).fin | _ => none
  | .cutq _ agg cs off n k => match cut agg cs off n with | some v => (k v).fin | none => none
  | .call .. => none
  | .yield .. => none
  | .loopc .. => none
  | .loopo .. => none
  | .lett x k => (k x).fin
  | .letb x k => (k x).fin
  | .mth o k => match o with | some g => (k g).fin | none => none

/-- Up to the next entry all is reckoned. -/
def Tree.step (e : En G) (P : Tree → PR) : Tree → PR
  | .done _ => none
  | .ask b k => match e with
    | .b (c := c) _ => PR.one (.b b) (P (k c))
    | .sk 0 => P (k b)
    | _ => (k b).step e P
  | .nat n k => match e with
    | .n (m := m) _ => PR.one (.n n) (P (k m))
    | .sk 1 => if 0 ≤ n then P (k n.toNat) else none
    | _ => if 0 ≤ n then (k n.toNat).step e P else none
  | .get _ es i k => match e with
    | .a (v := v) _ => PR.one (.a es i) (P (k v))
    | .sk 2 => match es[i]? with | some a => P (k a) | none => none
    | _ => match es[i]? with | some a => (k a).step e P | none => none
  | .chk p k => match e with
    | .u _ => PR.one (.u p) (P k)
    | .sk 3 => if p then P k else none
    | _ => if p then k.step e P else none
  | .box σ id k => match e with
    | .x (cs := cs) (ow := ow) _ => PR.one (.x σ[id]?) (P (k cs ow))
    | .sk 4 => match σ[id]? with | some (.box cs ow) => P (k cs ow) | _ => none
    | _ => match σ[id]? with | some (.box cs ow) => (k cs ow).step e P | _ => none
  | .lp σ id k => match e with
    | .lp (L := L) _ => PR.one (.x σ[id]?) (P (k L))
    | .sk 5 => match σ[id]? with | some (.loop L) => P (k L) | _ => none
    | _ => match σ[id]? with | some (.loop L) => (k L).step e P | _ => none
  | .cutq _ agg cs off n k => match e with
    | .t (v := v) _ => PR.one (.t agg cs off n) (P (k v))
    | .sk 6 => match cut agg cs off n with | some v => P (k v) | none => none
    | _ => match cut agg cs off n with | some v => (k v).step e P | none => none
  | .call _ g args σ quiet k => match e with
    | .f (v := v) _ => PR.one (.f g args) (P (k v σ))
    | .r (v := v) (σ' := σ') _ => PR.one (.r g args σ quiet) (P (k v σ'))
    | _ => none
  | .yield _ l args σ k => match e with
    | .y (v := v) (σ' := σ') _ => PR.one (.y l args σ) (P (k v σ'))
    | _ => none
  | .loopc E b ρ σ k => match e with
    | .c (e := e) (ρ' := ρ') (σ' := σ') _ => PR.one (.c E b ρ σ) (P (k e ρ' σ'))
    | _ => none
  | .loopo E b ρ σ k => match e with
    | .c (e := e) (ρ' := ρ') (σ' := σ') _ => PR.one (.c E b ρ σ) (P (k e ρ' σ'))
    | _ => none
  | .lett x k => match e with
    | .w (y := y) _ => PR.one (.w x) (P (k y))
    | .sk 7 => P (k x)
    | _ => (k x).step e P
  | .letb x k => match e with
    | .v (y := y) _ => PR.one (.b x) (P (k y))
    | .sk 8 => P (k x)
    | _ => (k x).step e P
  | .mth o k => match e with
    | .m (g := g) _ => PR.one (.m o) (P (k g))
    | .sk 9 => match o with | some g => P (k g) | none => none
    | _ => match o with | some g => (k g).step e P | none => none

def pret : PR → Option (AV × Sig × QT)
  | some (.ret v σ, t) => some (v, σ, t)
  | _ => none
def pcode : PR → Option (XExit × Env × Sig × QT)
  | some (.code e ρ σ, t) => some (e, ρ, σ, t)
  | _ => none

/-- What is called, or goes round, next is played by a script of its own. -/
def Tree.stepS (G : Prg) (how : Nat) (PL P : Tree → PR) : Tree → PR
  | .done _ => none
  | .ask b k => (k b).stepS G how PL P
  | .nat n k => if 0 ≤ n then (k n.toNat).stepS G how PL P else none
  | .get _ es i k => match es[i]? with | some a => (k a).stepS G how PL P | none => none
  | .chk p k => if p then k.stepS G how PL P else none
  | .box σ id k => match σ[id]? with | some (.box cs ow) => (k cs ow).stepS G how PL P | _ => none
  | .lp σ id k => match σ[id]? with | some (.loop L) => (k L).stepS G how PL P | _ => none
  | .cutq _ agg cs off n k => match cut agg cs off n with | some v => (k v).stepS G how PL P | none => none
  | .call _ g args σ quiet k => match how with
    | 0 => if AV.flatL args then (match pret (PL (treeT G (.call g args []))) with | some (v, [], t) => PR.two t (P (k v σ)) | _ => none)
        else if quiet then none else (match pret (PL (treeT G (.call g args σ))) with | some (v, σ', t) => PR.two t (P (k v σ')) | _ => none)
    | 1 => PR.one (.f 0 args) (match pret (PL (treeT G (.call g args []))) with | some (v, [], t) => PR.two t (P (k v σ)) | _ => none)
    | _ => if quiet then none else PR.one (.f 0 args) (match pret (PL (treeT G (.call g args σ))) with | some (v, σ', t) => PR.two t (P (k v σ')) | _ => none)
  | .yield _ l args σ k => match pret (PL (treeT G (.yield l args σ))) with | some (v, σ', t) => PR.two t (P (k v σ')) | _ => none
  | .loopc E b ρ σ k => match pcode (PL (treeT G (.loop E (.loop b) ρ σ))) with | some (e, ρ', σ', t) => PR.two t (P (k e ρ' σ')) | _ => none
  | .loopo E b ρ σ k => match pcode (PL (treeT G (.loop E (.loop b) ρ σ))) with | some (e, ρ', σ', t) => PR.two t (P (k e ρ' σ')) | _ => none
  | .lett x k => (k x).stepS G how PL P
  | .letb x k => (k x).stepS G how PL P
  | .mth o k => match o with | some g => (k g).stepS G how PL P | none => none

/-- A call that leaves boxes though it is handed none. -/
def Tree.stepK (G : Prg) (PL0 PL P : Tree → PR) : Tree → PR
  | .done _ => none
  | .ask b k => (k b).stepK G PL0 PL P
  | .nat n k => if 0 ≤ n then (k n.toNat).stepK G PL0 PL P else none
  | .get _ es i k => match es[i]? with | some a => (k a).stepK G PL0 PL P | none => none
  | .chk p k => if p then k.stepK G PL0 PL P else none
  | .box σ id k => match σ[id]? with | some (.box cs ow) => (k cs ow).stepK G PL0 PL P | _ => none
  | .lp σ id k => match σ[id]? with | some (.loop L) => (k L).stepK G PL0 PL P | _ => none
  | .cutq _ agg cs off n k => match cut agg cs off n with | some v => (k v).stepK G PL0 PL P | none => none
  | .call _ g args σ quiet k => if quiet then none else match pret (PL0 (treeT G (.call g args []))) with
    | some (_, _ :: _, t0) => (match pret (PL (treeT G (.call g args σ))) with | some (v, σ', t) => PR.two t0 (PR.two t (P (k v σ'))) | _ => none)
    | _ => none
  | .yield .. => none
  | .loopc .. => none
  | .loopo .. => none
  | .lett x k => (k x).stepK G PL0 PL P
  | .letb x k => (k x).stepK G PL0 PL P
  | .mth o k => match o with | some g => (k g).stepK G PL0 PL P | none => none

def Scr.play : Scr G → Tree → PR
  | .nil => Tree.fin
  | .en e s => Tree.step e s.play
  | .sub l s => Tree.stepS G 0 l.play s.play
  | .subF _ l s => Tree.stepS G 1 l.play s.play
  | .subW _ l s => Tree.stepS G 2 l.play s.play
  | .subK l0 l s => Tree.stepK G l0.play l.play s.play

/-! ### It is right -/

abbrev Runs (G : Prg) (T : Tree) (r : Res) : Prop := ∃ N, ∀ m, N ≤ m → T.run G (F G m) = some r

theorem Runs.mono {T T' : Tree} {r : Res} (h : Runs G T r) {N0 : Nat} (hT : ∀ m, N0 ≤ m → T'.run G (F G m) = T.run G (F G m)) : Runs G T' r := by
  obtain ⟨N, hN⟩ := h
  exact ⟨max N N0, fun m hm => by rw [hT m (by omega)]; exact hN m (by omega)⟩

theorem Runs.same {T T' : Tree} {r : Res} (h : Runs G T r) (hT : ∀ m, T'.run G (F G m) = T.run G (F G m)) : Runs G T' r := h.mono (N0 := 0) fun m _ => hT m

theorem Runs.ev {t : Task} {r : Res} (h : Runs G (treeT G t) r) : Ev G t r := by
  obtain ⟨N, hN⟩ := h
  refine ⟨N + 1, fun m hm => ?_⟩
  cases m with
  | zero => omega
  | succ m => exact run_treeT (hN m (by omega))

theorem runs_call {ty : TypeId} {g : FuncId} {args : List AV} {σ σ' : Sig} {quiet : Bool} {v : AV} {k : AV → Sig → Tree} {r : Res} (h : EvC G g args σ quiet v σ') (hk : Runs G (k v σ') r) : Runs G (.call ty g args σ quiet k) r := by
  obtain ⟨N1, hN1⟩ := h.at
  exact hk.mono (N0 := N1) fun m hm => by simp only [Tree.run, hN1 m hm]

theorem runs_yield {ty : TypeId} {l : Nat} {args : List AV} {σ σ' : Sig} {v : AV} {k : AV → Sig → Tree} {r : Res} (h : Ev G (.yield l args σ) (.ret v σ')) (hk : Runs G (k v σ') r) : Runs G (.yield ty l args σ k) r := by
  obtain ⟨N1, hN1⟩ := h
  exact hk.mono (N0 := N1) fun m hm => by simp only [Tree.run, hN1 m hm, retOf]

theorem runs_loopc {E : EE} {b : Code} {ρ ρ' : Env} {σ σ' : Sig} {e : XExit} {k : XExit → Env → Sig → Tree} {r : Res} (h : Ev G (.loop E (.loop b) ρ σ) (.code e ρ' σ')) (hk : Runs G (k e ρ' σ') r) : Runs G (.loopc E b ρ σ k) r := by
  obtain ⟨N1, hN1⟩ := h
  refine hk.mono (N0 := N1) fun m hm => ?_
  have hx := hN1 (m + 1) (by omega)
  simp only [F, stepT] at hx
  split at hx
  · rename_i e1 ρ1 σ1 hx1
    simp only [Option.some.injEq, Res.code.injEq] at hx
    obtain ⟨rfl, rfl, rfl⟩ := hx
    simp only [Tree.run, hx1]
  · simp at hx

theorem runs_loopo {E : EE} {b : Code} {ρ ρ' : Env} {σ σ' : Sig} {e : XExit} {k : XExit → Env → Sig → Tree} {r : Res} (h : Ev G (.loop E (.loop b) ρ σ) (.code e ρ' σ')) (hk : Runs G (k e ρ' σ') r) : Runs G (.loopo E b ρ σ k) r := by
  obtain ⟨N1, hN1⟩ := h
  exact hk.mono (N0 := N1) fun m hm => by simp only [Tree.run, hN1 m hm, codeOf]

theorem PR.one_eq {q : Qn} {x : PR} {r : Res} {t : QT} (h : PR.one q x = some (r, t)) : ∃ t', x = some (r, t') ∧ t = .one q t' := by
  unfold PR.one at h
  split at h
  · simp only [Option.some.injEq, Prod.mk.injEq] at h
    obtain ⟨rfl, rfl⟩ := h
    exact ⟨_, rfl, rfl⟩
  · cases h
theorem PR.two_eq {q : QT} {x : PR} {r : Res} {t : QT} (h : PR.two q x = some (r, t)) : ∃ t', x = some (r, t') ∧ t = .two q t' := by
  unfold PR.two at h
  split at h
  · simp only [Option.some.injEq, Prod.mk.injEq] at h
    obtain ⟨rfl, rfl⟩ := h
    exact ⟨_, rfl, rfl⟩
  · cases h

theorem fin_run : ∀ (T : Tree) (r : Res) (t : QT), T.fin = some (r, t) → t = .nil → Runs G T r := by
  intro T
  induction T with
  | done r0 => intro r t h ht; cases r0 with
    | none => simp [Tree.fin] at h
    | some r0 => simp [Tree.fin] at h; exact ⟨0, fun m _ => by simp [Tree.run, h.1]⟩
  | ask b k ih => intro r t h ht; exact (ih b r t h ht).same fun m => rfl
  | nat n k ih =>
    intro r t h ht
    simp only [Tree.fin] at h
    split at h
    · rename_i h0; exact (ih _ r t h ht).same fun m => by simp only [Tree.run, if_pos h0]
    · cases h
  | get ty es i k ih =>
    intro r t h ht
    simp only [Tree.fin] at h
    split at h
    · rename_i a ha; exact (ih _ r t h ht).same fun m => by simp only [Tree.run, ha]
    · cases h
  | chk p k ih =>
    intro r t h ht
    simp only [Tree.fin] at h
    split at h
    · rename_i h0; exact (ih r t h ht).same fun m => by simp only [Tree.run, if_pos h0]
    · cases h
  | box σ id k ih =>
    intro r t h ht
    simp only [Tree.fin] at h
    split at h
    · rename_i cs ow ha; exact (ih _ _ r t h ht).same fun m => by simp only [Tree.run, ha]
    · cases h
  | lp σ id k ih =>
    intro r t h ht
    simp only [Tree.fin] at h
    split at h
    · rename_i L ha; exact (ih _ r t h ht).same fun m => by simp only [Tree.run, ha]
    · cases h
  | cutq ty agg cs off n k ih =>
    intro r t h ht
    simp only [Tree.fin] at h
    split at h
    · rename_i v ha; exact (ih _ r t h ht).same fun m => by simp only [Tree.run, ha]
    · cases h
  | lett x k ih => intro r t h ht; exact (ih x r t h ht).same fun m => rfl
  | letb x k ih => intro r t h ht; exact (ih x r t h ht).same fun m => rfl
  | mth o k ih =>
    intro r t h ht
    cases o with
    | none => simp [Tree.fin] at h
    | some g => simp only [Tree.fin] at h; exact (ih g r t h ht).same fun m => by simp only [Tree.run]
  | _ => intro r t h ht; simp [Tree.fin] at h

theorem claim_one {C t t' : QT} {q q' : Qn} (h : t = .one q t') (h2 : t = .one q' C) : q = q' ∧ t' = C := by
  subst h; cases h2; exact ⟨rfl, rfl⟩
theorem claim_two {C D t t' : QT} {a : QT} (h : t = .two a t') (h2 : t = .two D C) : a = D ∧ t' = C := by
  subst h; cases h2; exact ⟨rfl, rfl⟩

theorem step_run {e : En G} {P : Tree → PR} {C : QT} (hP : ∀ T r t, P T = some (r, t) → t = C → Runs G T r) : ∀ (T : Tree) (r : Res) (t : QT), T.step e P = some (r, t) → t = e.claim C → Runs G T r := by
  intro T
  induction T with
  | done r0 => intro r t h ht; simp [Tree.step] at h
  | ask b k ih =>
    intro r t h ht
    simp only [Tree.step] at h
    split at h
    · rename_i x c hx
      obtain ⟨t', h1, h2⟩ := PR.one_eq h
      obtain ⟨h3, h4⟩ := claim_one h2 ht
      simp only [Qn.b.injEq] at h3
      rw [h3, hx]
      exact (hP _ _ _ h1 h4).same fun m => rfl
    · exact (hP _ _ _ h ht).same fun m => rfl
    · exact (ih b r t h ht).same fun m => rfl
  | nat n k ih =>
    intro r t h ht
    simp only [Tree.step] at h
    split at h
    · rename_i x c hx
      obtain ⟨t', h1, h2⟩ := PR.one_eq h
      obtain ⟨h3, h4⟩ := claim_one h2 ht
      simp only [Qn.n.injEq] at h3
      have h5 : n = (c : Int) := h3.trans hx
      exact (hP _ _ _ h1 h4).same fun m => by simp only [Tree.run]; rw [if_pos (by omega), h5]; rfl
    · split at h
      · rename_i h0; exact (hP _ _ _ h ht).same fun m => by simp only [Tree.run, if_pos h0]
      · cases h
    · split at h
      · rename_i h0; exact (ih _ r t h ht).same fun m => by simp only [Tree.run, if_pos h0]
      · cases h
  | get ty es i k ih =>
    intro r t h ht
    unfold Tree.step at h
    split at h
    · rename_i es' i' v hv
      obtain ⟨t', h1, h2⟩ := PR.one_eq h
      obtain ⟨h3, h4⟩ := claim_one h2 ht
      simp only [Qn.a.injEq] at h3
      obtain ⟨rfl, rfl⟩ := h3
      exact (hP _ _ _ h1 h4).same fun m => by simp only [Tree.run, hv]
    · split at h
      · rename_i a ha; exact (hP _ _ _ h ht).same fun m => by simp only [Tree.run, ha]
      · cases h
    · split at h
      · rename_i a ha; exact (ih _ r t h ht).same fun m => by simp only [Tree.run, ha]
      · cases h
  | chk p k ih =>
    intro r t h ht
    simp only [Tree.step] at h
    split at h
    · rename_i p' hp
      obtain ⟨t', h1, h2⟩ := PR.one_eq h
      obtain ⟨h3, h4⟩ := claim_one h2 ht
      simp only [Qn.u.injEq] at h3
      have hp : p = true := h3.trans hp
      exact (hP _ _ _ h1 h4).same fun m => by simp only [Tree.run, if_pos hp]
    · split at h
      · rename_i h0; exact (hP _ _ _ h ht).same fun m => by simp only [Tree.run, if_pos h0]
      · cases h
    · split at h
      · rename_i h0; exact (ih r t h ht).same fun m => by simp only [Tree.run, if_pos h0]
      · cases h
  | box σ id k ih =>
    intro r t h ht
    unfold Tree.step at h
    split at h
    · rename_i o cs ow hv
      obtain ⟨t', h1, h2⟩ := PR.one_eq h
      obtain ⟨h3, h4⟩ := claim_one h2 ht
      simp only [Qn.x.injEq] at h3
      have h5 := h3.trans hv
      exact (hP _ _ _ h1 h4).same fun m => by simp only [Tree.run, h5]
    · split at h
      · rename_i cs ow ha; exact (hP _ _ _ h ht).same fun m => by simp only [Tree.run, ha]
      · cases h
    · split at h
      · rename_i cs ow ha; exact (ih _ _ r t h ht).same fun m => by simp only [Tree.run, ha]
      · cases h
  | lp σ id k ih =>
    intro r t h ht
    unfold Tree.step at h
    split at h
    · rename_i o L hv
      obtain ⟨t', h1, h2⟩ := PR.one_eq h
      obtain ⟨h3, h4⟩ := claim_one h2 ht
      simp only [Qn.x.injEq] at h3
      have h5 := h3.trans hv
      exact (hP _ _ _ h1 h4).same fun m => by simp only [Tree.run, h5]
    · split at h
      · rename_i L ha; exact (hP _ _ _ h ht).same fun m => by simp only [Tree.run, ha]
      · cases h
    · split at h
      · rename_i L ha; exact (ih _ r t h ht).same fun m => by simp only [Tree.run, ha]
      · cases h
  | cutq ty agg cs off n k ih =>
    intro r t h ht
    unfold Tree.step at h
    split at h
    · rename_i agg' cs' off' n' v hv
      obtain ⟨t', h1, h2⟩ := PR.one_eq h
      obtain ⟨h3, h4⟩ := claim_one h2 ht
      simp only [Qn.t.injEq] at h3
      obtain ⟨rfl, rfl, rfl, rfl⟩ := h3
      exact (hP _ _ _ h1 h4).same fun m => by simp only [Tree.run, hv]
    · split at h
      · rename_i L ha; exact (hP _ _ _ h ht).same fun m => by simp only [Tree.run, ha]
      · cases h
    · split at h
      · rename_i L ha; exact (ih _ r t h ht).same fun m => by simp only [Tree.run, ha]
      · cases h
  | call ty g args σ quiet k ih =>
    intro r t h ht
    simp only [Tree.step] at h
    split at h
    · rename_i g' args' v hv
      obtain ⟨t', h1, h2⟩ := PR.one_eq h
      obtain ⟨h3, h4⟩ := claim_one h2 ht
      simp only [Qn.f.injEq] at h3
      obtain ⟨rfl, rfl⟩ := h3
      exact runs_call (hv.toC σ quiet) (hP _ _ _ h1 h4)
    · rename_i g' args' σ0 σ' quiet' v hv
      obtain ⟨t', h1, h2⟩ := PR.one_eq h
      obtain ⟨h3, h4⟩ := claim_one h2 ht
      simp only [Qn.r.injEq] at h3
      obtain ⟨rfl, rfl, rfl, rfl⟩ := h3
      exact runs_call hv (hP _ _ _ h1 h4)
    · cases h
  | yield ty l args σ k ih =>
    intro r t h ht
    simp only [Tree.step] at h
    split at h
    · rename_i l' args' σ0 σ' v hv
      obtain ⟨t', h1, h2⟩ := PR.one_eq h
      obtain ⟨h3, h4⟩ := claim_one h2 ht
      simp only [Qn.y.injEq] at h3
      obtain ⟨rfl, rfl, rfl⟩ := h3
      exact runs_yield hv (hP _ _ _ h1 h4)
    · cases h
  | loopc E b ρ σ k ih =>
    intro r t h ht
    simp only [Tree.step] at h
    split at h
    · rename_i E' b' ρ0 ρ' σ0 σ' e' hv
      obtain ⟨t', h1, h2⟩ := PR.one_eq h
      obtain ⟨h3, h4⟩ := claim_one h2 ht
      simp only [Qn.c.injEq] at h3
      obtain ⟨rfl, rfl, rfl, rfl⟩ := h3
      exact runs_loopc hv (hP _ _ _ h1 h4)
    · cases h
  | loopo E b ρ σ k ih =>
    intro r t h ht
    simp only [Tree.step] at h
    split at h
    · rename_i E' b' ρ0 ρ' σ0 σ' e' hv
      obtain ⟨t', h1, h2⟩ := PR.one_eq h
      obtain ⟨h3, h4⟩ := claim_one h2 ht
      simp only [Qn.c.injEq] at h3
      obtain ⟨rfl, rfl, rfl, rfl⟩ := h3
      exact runs_loopo hv (hP _ _ _ h1 h4)
    · cases h
  | lett x k ih =>
    intro r t h ht
    simp only [Tree.step] at h
    split at h
    · rename_i x' y hx
      obtain ⟨t', h1, h2⟩ := PR.one_eq h
      obtain ⟨h3, h4⟩ := claim_one h2 ht
      simp only [Qn.w.injEq] at h3
      have h5 : x = y := h3.trans hx
      subst h5
      exact (hP _ _ _ h1 h4).same fun m => rfl
    · exact (hP _ _ _ h ht).same fun m => rfl
    · exact (ih x r t h ht).same fun m => rfl
  | letb x k ih =>
    intro r t h ht
    simp only [Tree.step] at h
    split at h
    · rename_i x' y hx
      obtain ⟨t', h1, h2⟩ := PR.one_eq h
      obtain ⟨h3, h4⟩ := claim_one h2 ht
      simp only [Qn.b.injEq] at h3
      have h5 : x = y := h3.trans hx
      subst h5
      exact (hP _ _ _ h1 h4).same fun m => rfl
    · exact (hP _ _ _ h ht).same fun m => rfl
    · exact (ih x r t h ht).same fun m => rfl
  | mth o k ih =>
    intro r t h ht
    unfold Tree.step at h
    split at h
    · rename_i o' g hg
      obtain ⟨t', h1, h2⟩ := PR.one_eq h
      obtain ⟨h3, h4⟩ := claim_one h2 ht
      simp only [Qn.m.injEq] at h3
      have h5 := h3.trans hg
      subst h5
      exact (hP _ _ _ h1 h4).same fun m => by simp only [Tree.run]
    · cases o with
      | none => cases h
      | some g => exact (hP _ _ _ h ht).same fun m => by simp only [Tree.run]
    · cases o with
      | none => cases h
      | some g => exact (ih g r t h ht).same fun m => by simp only [Tree.run]

theorem pret_eq {x : PR} {v : AV} {σ : Sig} {t : QT} (h : pret x = some (v, σ, t)) : x = some (.ret v σ, t) := by
  unfold pret at h
  split at h
  · simp only [Option.some.injEq, Prod.mk.injEq] at h
    obtain ⟨rfl, rfl, rfl⟩ := h; rfl
  · cases h
theorem pcode_eq {x : PR} {e : XExit} {ρ : Env} {σ : Sig} {t : QT} (h : pcode x = some (e, ρ, σ, t)) : x = some (.code e ρ σ, t) := by
  unfold pcode at h
  split at h
  · simp only [Option.some.injEq, Prod.mk.injEq] at h
    obtain ⟨rfl, rfl, rfl, rfl⟩ := h; rfl
  · cases h

/-- What a script of its own owes: with the words of its way. -/
def subClaim (how : Nat) (args : List AV) (D C : QT) : QT := match how with | 0 => .two D C | _ => .one (.f 0 args) (.two D C)

theorem subClaim_two {how : Nat} {args : List AV} {D C a t' t : QT} (h : t = .two a t') (ht : t = subClaim how args D C) : a = D ∧ t' = C := by
  cases how with
  | zero => exact claim_two h ht
  | succ n => rw [h] at ht; simp [subClaim] at ht

theorem stepS_run {how : Nat} {args0 : List AV} (hh1 : how = 1 → AV.flatL args0 = true) (hh2 : ∀ n, how = n + 2 → AV.flatL args0 = false) {PL P : Tree → PR} {C D : QT} (hL : ∀ T r t, PL T = some (r, t) → t = D → Runs G T r) (hP : ∀ T r t, P T = some (r, t) → t = C → Runs G T r) :
    ∀ (T : Tree) (r : Res) (t : QT), T.stepS G how PL P = some (r, t) → t = subClaim how args0 D C → Runs G T r := by
  intro T
  induction T with
  | done r0 => intro r t h ht; simp [Tree.stepS] at h
  | ask b k ih => intro r t h ht; exact (ih b r t h ht).same fun m => rfl
  | nat n k ih =>
    intro r t h ht
    simp only [Tree.stepS] at h
    split at h
    · rename_i h0; exact (ih _ r t h ht).same fun m => by simp only [Tree.run, if_pos h0]
    · cases h
  | get ty es i k ih =>
    intro r t h ht
    simp only [Tree.stepS] at h
    split at h
    · rename_i a ha; exact (ih _ r t h ht).same fun m => by simp only [Tree.run, ha]
    · cases h
  | chk p k ih =>
    intro r t h ht
    simp only [Tree.stepS] at h
    split at h
    · rename_i h0; exact (ih r t h ht).same fun m => by simp only [Tree.run, if_pos h0]
    · cases h
  | box σ id k ih =>
    intro r t h ht
    simp only [Tree.stepS] at h
    split at h
    · rename_i cs ow ha; exact (ih _ _ r t h ht).same fun m => by simp only [Tree.run, ha]
    · cases h
  | lp σ id k ih =>
    intro r t h ht
    simp only [Tree.stepS] at h
    split at h
    · rename_i L ha; exact (ih _ r t h ht).same fun m => by simp only [Tree.run, ha]
    · cases h
  | cutq ty agg cs off n k ih =>
    intro r t h ht
    simp only [Tree.stepS] at h
    split at h
    · rename_i v ha; exact (ih _ r t h ht).same fun m => by simp only [Tree.run, ha]
    · cases h
  | lett x k ih => intro r t h ht; exact (ih x r t h ht).same fun m => rfl
  | letb x k ih => intro r t h ht; exact (ih x r t h ht).same fun m => rfl
  | mth o k ih =>
    intro r t h ht
    cases o with
    | none => simp [Tree.stepS, Tree.stepK] at h
    | some g => (try simp only [Tree.stepS] at h); (try simp only [Tree.stepK] at h); exact (ih g r t h ht).same fun m => by simp only [Tree.run]
  | call ty g args σ quiet k ih =>
    intro r t h ht
    match how, hh1, hh2, h, ht with
    | 0, _, _, h, ht =>
      simp only [Tree.stepS] at h
      split at h
      · rename_i hf
        split at h
        · rename_i v t0 hx
          obtain ⟨t', h1, h2⟩ := PR.two_eq h
          obtain ⟨h3, h4⟩ := claim_two h2 ht
          exact runs_call (EvC.flat (hL _ _ _ (pret_eq hx) h3).ev hf σ quiet) (hP _ _ _ h1 h4)
        · cases h
      · rename_i hf
        split at h
        · cases h
        · rename_i hq
          split at h
          · rename_i v σ' t0 hx
            obtain ⟨t', h1, h2⟩ := PR.two_eq h
            obtain ⟨h3, h4⟩ := claim_two h2 ht
            have hq : quiet = false := by simpa using hq
            subst hq
            exact runs_call (EvC.with (hL _ _ _ (pret_eq hx) h3).ev (by simpa using hf)) (hP _ _ _ h1 h4)
          · cases h
    | 1, hh1, _, h, ht =>
      simp only [Tree.stepS] at h
      obtain ⟨t1, h1, h2⟩ := PR.one_eq h
      obtain ⟨h3, h4⟩ := claim_one h2 ht
      simp only [Qn.f.injEq, true_and] at h3
      split at h1
      · rename_i v t0 hx
        obtain ⟨t', h5, h6⟩ := PR.two_eq h1
        obtain ⟨h7, h8⟩ := claim_two h6 h4
        exact runs_call (EvC.flat (hL _ _ _ (pret_eq hx) h7).ev (by rw [h3]; exact hh1 rfl) σ quiet) (hP _ _ _ h5 h8)
      · cases h1
    | n + 2, _, hh2, h, ht =>
      simp only [Tree.stepS] at h
      split at h
      · cases h
      · rename_i hq
        obtain ⟨t1, h1, h2⟩ := PR.one_eq h
        obtain ⟨h3, h4⟩ := claim_one h2 ht
        simp only [Qn.f.injEq, true_and] at h3
        split at h1
        · rename_i v σ' t0 hx
          obtain ⟨t', h5, h6⟩ := PR.two_eq h1
          obtain ⟨h7, h8⟩ := claim_two h6 h4
          have hq : quiet = false := by simpa using hq
          subst hq
          exact runs_call (EvC.with (hL _ _ _ (pret_eq hx) h7).ev (by rw [h3]; exact hh2 n rfl)) (hP _ _ _ h5 h8)
        · cases h1
  | yield ty l args σ k ih =>
    intro r t h ht
    simp only [Tree.stepS] at h
    split at h
    · rename_i v σ' t0 hx
      obtain ⟨t', h1, h2⟩ := PR.two_eq h
      obtain ⟨h3, h4⟩ := subClaim_two h2 ht
      exact runs_yield (hL _ _ _ (pret_eq hx) h3).ev (hP _ _ _ h1 h4)
    · cases h
  | loopc E b ρ σ k ih =>
    intro r t h ht
    simp only [Tree.stepS] at h
    split at h
    · rename_i e ρ' σ' t0 hx
      obtain ⟨t', h1, h2⟩ := PR.two_eq h
      obtain ⟨h3, h4⟩ := subClaim_two h2 ht
      exact runs_loopc (hL _ _ _ (pcode_eq hx) h3).ev (hP _ _ _ h1 h4)
    · cases h
  | loopo E b ρ σ k ih =>
    intro r t h ht
    simp only [Tree.stepS] at h
    split at h
    · rename_i e ρ' σ' t0 hx
      obtain ⟨t', h1, h2⟩ := PR.two_eq h
      obtain ⟨h3, h4⟩ := subClaim_two h2 ht
      exact runs_loopo (hL _ _ _ (pcode_eq hx) h3).ev (hP _ _ _ h1 h4)
    · cases h

theorem stepK_run {PL0 PL P : Tree → PR} {C D D0 : QT} (hL0 : ∀ T r t, PL0 T = some (r, t) → t = D0 → Runs G T r) (hL : ∀ T r t, PL T = some (r, t) → t = D → Runs G T r) (hP : ∀ T r t, P T = some (r, t) → t = C → Runs G T r) :
    ∀ (T : Tree) (r : Res) (t : QT), T.stepK G PL0 PL P = some (r, t) → t = .two D0 (.two D C) → Runs G T r := by
  intro T
  induction T with
  | ask b k ih => intro r t h ht; exact (ih b r t h ht).same fun m => rfl
  | nat n k ih =>
    intro r t h ht
    simp only [Tree.stepK] at h
    split at h
    · rename_i h0; exact (ih _ r t h ht).same fun m => by simp only [Tree.run, if_pos h0]
    · cases h
  | get ty es i k ih =>
    intro r t h ht
    simp only [Tree.stepK] at h
    split at h
    · rename_i a ha; exact (ih _ r t h ht).same fun m => by simp only [Tree.run, ha]
    · cases h
  | chk p k ih =>
    intro r t h ht
    simp only [Tree.stepK] at h
    split at h
    · rename_i h0; exact (ih r t h ht).same fun m => by simp only [Tree.run, if_pos h0]
    · cases h
  | box σ id k ih =>
    intro r t h ht
    simp only [Tree.stepK] at h
    split at h
    · rename_i cs ow ha; exact (ih _ _ r t h ht).same fun m => by simp only [Tree.run, ha]
    · cases h
  | lp σ id k ih =>
    intro r t h ht
    simp only [Tree.stepK] at h
    split at h
    · rename_i L ha; exact (ih _ r t h ht).same fun m => by simp only [Tree.run, ha]
    · cases h
  | cutq ty agg cs off n k ih =>
    intro r t h ht
    simp only [Tree.stepK] at h
    split at h
    · rename_i v ha; exact (ih _ r t h ht).same fun m => by simp only [Tree.run, ha]
    · cases h
  | lett x k ih => intro r t h ht; exact (ih x r t h ht).same fun m => rfl
  | letb x k ih => intro r t h ht; exact (ih x r t h ht).same fun m => rfl
  | mth o k ih =>
    intro r t h ht
    cases o with
    | none => simp [Tree.stepS, Tree.stepK] at h
    | some g => (try simp only [Tree.stepS] at h); (try simp only [Tree.stepK] at h); exact (ih g r t h ht).same fun m => by simp only [Tree.run]
  | call ty g args σ quiet k ih =>
    intro r t h ht
    simp only [Tree.stepK] at h
    split at h
    · cases h
    · rename_i hq
      have hq : quiet = false := by simpa using hq
      subst hq
      split at h
      · rename_i v0 x0 xs0 t0 hx0
        split at h
        · rename_i v σ' t1 hx
          obtain ⟨t', h1, h2⟩ := PR.two_eq h
          obtain ⟨t'', h3, h4⟩ := PR.two_eq h1
          obtain ⟨h5, h6⟩ := claim_two h2 ht
          obtain ⟨h7, h8⟩ := claim_two h4 h6
          exact runs_call (EvC.keep (hL0 _ _ _ (pret_eq hx0) h5).ev (hL _ _ _ (pret_eq hx) h7).ev) (hP _ _ _ h3 h8)
        · cases h
      · cases h
  | _ => intro r t h ht; simp [Tree.stepK] at h

theorem play_runs : ∀ (s : Scr G) (T : Tree) (r : Res) (t : QT), s.play T = some (r, t) → t = s.claim → Runs G T r
  | .nil, T, r, t, h, ht => fin_run T r t h ht
  | .en e s, T, r, t, h, ht => step_run (play_runs s) T r t h ht
  | .sub l s, T, r, t, h, ht => stepS_run (how := 0) (args0 := []) (by simp) (by simp) (play_runs l) (play_runs s) T r t h ht
  | .subF (args := args) hf l s, T, r, t, h, ht => stepS_run (how := 1) (args0 := args) (fun _ => hf) (by simp) (play_runs l) (play_runs s) T r t h ht
  | .subW (args := args) hf l s, T, r, t, h, ht => stepS_run (how := 2) (args0 := args) (by simp) (fun _ _ => hf) (play_runs l) (play_runs s) T r t h ht
  | .subK l0 l s, T, r, t, h, ht => stepK_run (play_runs l0) (play_runs l) (play_runs s) T r t h ht

/-- A script that plays out, and asks what it answers. -/
theorem Ev.run (s : Scr G) {t : Task} {r : Res} (h : s.play (treeT G t) = some (r, s.claim)) : Ev G t r := (play_runs s _ _ _ h rfl).ev
theorem EvF.run {g : FuncId} {args : List AV} {v : AV} (hf : AV.flatL args = true) (s : Scr G) (h : s.play (treeT G (.call g args [])) = some (.ret v [], s.claim)) : EvF G g args v := ⟨hf, Ev.run s h⟩

end Go.AI

