/- The machine: contracts of calls, recursions, folds. -/
import Derived.Test.YtdpamhejneicdaaGreatDoorZH10
namespace Go.AI
set_option linter.unusedVariables false
set_option linter.unusedSimpArgs false
open Go
set_option maxRecDepth 100000
set_option maxHeartbeats 4000000

abbrev CE (ev : Tm → VE → Nat → R) : Prop := ∀ (t : Tm) (e : VE) (r lim : Nat) (res : Option (V × Nat)) (rest : Sig), ev t e r = some res → r ≤ lim → lim < 2 ^ 40 → EvC G 255 [.ptr 0 0, t.enc, e.enc] (SM lim r rest) false (resV res) (SM lim (resR res) rest)

theorem c256_1 {ev : Tm → VE → Nat → R} (h : CE ev) {f a : V} {r lim : Nat} {res : Option (V × Nat)} (hx : apV ev f a r = some res) (hr : r ≤ lim) (hl : lim < 2 ^ 40) (rest : Sig) :
    EvC G 256 [.ptr 0 0, f.enc, .slice 1 [a.enc]] (SM lim r rest) false (resV res) (SM lim (resR res) rest) := .with (by
  have hlen := hlenT rest
  obtain ⟨b, e, rfl, hx⟩ := apV_some hx
  have k := h _ _ _ lim _ rest hx hr hl
  clear h
  rcases res with _ | ⟨v, r'⟩
  · cases e <;> exact Ev.run (.sub (.en (.r (k)) <| .nil) <| .en (.b hlen) <| .nil) (by kernel_rfl)
  · cases e <;> exact Ev.run (.sub (.en (.r (k)) <| .sub (.nil) <| .nil) <| .en (.b hlen) <| .nil) (by kernel_rfl)) rfl
theorem c256_2 {ev : Tm → VE → Nat → R} (h : CE ev) (hle : Less ev) {f a a2 : V} {r lim : Nat} {res : Option (V × Nat)} (hx : bnd (apV ev f a r) (fun g r1 => apV ev g a2 r1) = some res) (hr : r ≤ lim) (hl : lim < 2 ^ 40) (rest : Sig) :
    EvC G 256 [.ptr 0 0, f.enc, .slice 1 [a.enc, a2.enc]] (SM lim r rest) false (resV res) (SM lim (resR res) rest) := .with (by
  have hlen := hlenT rest
  rcases bnd_some hx with ⟨h1, rfl⟩ | ⟨v, r1, hx, hy⟩
  · obtain ⟨b, e, rfl, h1⟩ := apV_some h1
    have k := h _ _ _ lim _ rest h1 hr hl
    clear h
    cases e <;> exact Ev.run (.sub (.en (.r (k)) <| .nil) <| .en (.b hlen) <| .nil) (by kernel_rfl)
  · have hr1 := hle.ap hx
    obtain ⟨b, e, rfl, hx⟩ := apV_some hx
    have k := h _ _ _ lim _ rest hx hr hl
    obtain ⟨b2, e2, rfl, hy⟩ := apV_some hy
    have k2 := h _ _ _ lim _ rest hy (by omega) hl
    clear h
    rcases res with _ | ⟨v, r'⟩
    · cases e <;> cases e2 <;> exact Ev.run (.sub (.en (.r (k)) <| .sub (.en (.r (k2)) <| .nil) <| .nil) <| .en (.b hlen) <| .nil) (by kernel_rfl)
    · cases e <;> cases e2 <;> exact Ev.run (.sub (.en (.r (k)) <| .sub (.en (.r (k2)) <| .sub (.nil) <| .nil) <| .nil) <| .en (.b hlen) <| .nil) (by kernel_rfl)) rfl
theorem c256_3 {ev : Tm → VE → Nat → R} (h : CE ev) (hle : Less ev) {f acc : V} {x : Nat} {t : List Nat} {r lim : Nat} {res : Option (V × Nat)} (hx : foldStep ev f x t acc r = some res) (hr : r ≤ lim) (hl : lim < 2 ^ 40) (rest : Sig) :
    EvC G 256 [.ptr 0 0, f.enc, .slice 1 [(V.num x).enc, (V.list t).enc, acc.enc]] (SM lim r rest) false (resV res) (SM lim (resR res) rest) := .with (by
  have hlen := hlenT rest
  rcases bnd_some hx with ⟨h1, rfl⟩ | ⟨v, r1, hx, hy⟩
  · obtain ⟨b, e, rfl, h1⟩ := apV_some h1
    have k := h _ _ _ lim _ rest h1 hr hl
    clear h
    cases e <;> exact Ev.run (.sub (.en (.r (k)) <| .nil) <| .en (.b hlen) <| .nil) (by kernel_rfl)
  · have hr1 := hle.ap hx
    obtain ⟨b, e, rfl, hx⟩ := apV_some hx
    have k := h _ _ _ lim _ rest hx hr hl
    rcases bnd_some hy with ⟨h2, rfl⟩ | ⟨v2, r2, hy, hz⟩
    · obtain ⟨b2, e2, rfl, h2⟩ := apV_some h2
      have k2 := h _ _ _ lim _ rest h2 (by omega) hl
      clear h
      cases e <;> cases e2 <;> exact Ev.run (.sub (.en (.r (k)) <| .sub (.en (.r (k2)) <| .nil) <| .nil) <| .en (.b hlen) <| .nil) (by kernel_rfl)
    · have hr2 := hle.ap hy
      obtain ⟨b2, e2, rfl, hy⟩ := apV_some hy
      have k2 := h _ _ _ lim _ rest hy (by omega) hl
      obtain ⟨b3, e3, rfl, hz⟩ := apV_some hz
      have k3 := h _ _ _ lim _ rest hz (by omega) hl
      clear h
      rcases res with _ | ⟨v, r'⟩
      · cases e <;> cases e2 <;> cases e3 <;> exact Ev.run (.sub (.en (.r (k)) <| .sub (.en (.r (k2)) <| .sub (.en (.r (k3)) <| .nil) <| .nil) <| .nil) <| .en (.b hlen) <| .nil) (by kernel_rfl)
      · cases e <;> cases e2 <;> cases e3 <;> exact Ev.run (.sub (.en (.r (k)) <| .sub (.en (.r (k2)) <| .sub (.en (.r (k3)) <| .sub (.nil) <| .nil) <| .nil) <| .nil) <| .en (.b hlen) <| .nil) (by kernel_rfl)) rfl

/-! ### Recursion -/

def resF : Option (V × Nat) → AV | none => .nilIface | some (v, _) => v.enc
theorem loop300 {ev : Tm → VE → Nat → R} (h : CE ev) (hle : Less ev) (va vb : V) (K lim : Nat) (hK : K < 2 ^ 61) (hl : lim < 2 ^ 40) (rest : Sig) : ∀ (m k : Nat) (acc : V) (r : Nat) (res : Option (V × Nat)), loopRec ev vb m k acc r = some res → k + m = K → r ≤ lim →
    Ev G (.loop (eeOf G 300 (rest.length + 1) none) (.loop (lpOf G 300 0)) (mkEnv [(0, .val (.ptr 0 0) []), (3, .loc [va.enc, vb.enc, (V.num K).enc] []), (6, .val (acc.enc) []), (7, .val (.bool true) []), (8, .val (.int .i64 (k : Int)) [])]) (SM lim r rest))
      (.code (.exit 0) (mkEnv [(6, .val (resF res) []), (7, .val (.bool res.isSome) [])]) (SM lim (resR res) rest))
  | 0, k, acc, r, res, hx, hk, hr => by
    have hlen := hlenT rest
    simp only [loopRec, Option.some.injEq] at hx
    subst hx
    have q : decide ((k : Int) < (K : Int)) = false := decide_eq_false (by omega)
    clear h
    exact Ev.run (.en (.v q) <| .nil) (by kernel_rfl)
  | m + 1, k, acc, r, res, hx, hk, hr => by
    have hlen := hlenT rest
    simp only [loopRec] at hx
    have q : decide ((k : Int) < (K : Int)) = true := decide_eq_true (by omega)
    have w : IntKind.wrap .i64 ((k : Int) + 1) = ((k + 1 : Nat) : Int) := wrapEq (by omega) (by omega)
    rcases bnd_some hx with ⟨h1, rfl⟩ | ⟨g, r1, hx1, hy⟩
    · have k1 := c256_2 h hle (f := vb) (a := .num k) (a2 := acc) (r := r) (res := none) (by rw [h1]; rfl) hr hl rest
      clear h
      exact Ev.run (.en (.v q) <| .en (.r (k1)) <| .en (.w (w)) <| .sub (.nil) <| .nil) (by kernel_rfl)
    · have hr1 := hle.ap hx1
      rcases bnd_some hy with ⟨h2, rfl⟩ | ⟨v, r2, hy, hz⟩
      · have k1 := c256_2 h hle (f := vb) (a := .num k) (a2 := acc) (r := r) (res := none) (by rw [hx1]; exact h2) hr hl rest
        clear h
        exact Ev.run (.en (.v q) <| .en (.r (k1)) <| .en (.w (w)) <| .sub (.nil) <| .nil) (by kernel_rfl)
      · have hr2 := hle.ap hy
        have k1 := c256_2 h hle (f := vb) (a := .num k) (a2 := acc) (r := r) (res := some (v, r2)) (by rw [hx1]; exact hy) hr hl rest
        have k2 := loop300 h hle va vb K lim hK hl rest m (k + 1) v r2 res hz (by omega) (by omega)
        clear h
        exact Ev.run (.en (.v q) <| .en (.r (k1)) <| .en (.w (w)) <| .en (.c k2) <| .nil) (by kernel_rfl)
theorem c300 {ev : Tm → VE → Nat → R} (h : CE ev) (hle : Less ev) {va vb : V} {K lim r : Nat} {res : Option (V × Nat)} (hx : loopRec ev vb K 0 va r = some res) (hK : K < 2 ^ 61) (hr : r ≤ lim) (hl : lim < 2 ^ 40) (rest : Sig) :
    EvC G 300 [.ptr 0 0, .agg [va.enc, vb.enc, (V.num K).enc]] (SM lim r rest) false (resV res) (SM lim (resR res) rest) := .with (by
  have hlen := hlenT rest
  have k := loop300 h hle va vb K lim hK hl rest K 0 va r res hx (by omega) hr
  clear h
  rcases res with _ | ⟨v, r'⟩ <;> exact Ev.run (.en (.c k) <| .en (.b hlen) <| .nil) (by kernel_rfl)) rfl

/-! ### Folds -/

def sfx : List Nat → List AV
  | [] => []
  | x :: t => lcell (x :: t) :: sfx t
theorem loop301a (lim r : Nat) (va vb : V) (l0 : List Nat) : ∀ (l : List Nat) (acc : List AV), acc.length + l.length < 2 ^ 31 →
    Ev G (.loop (eeOf G 301 1 none) (.loop (lpOf G 301 0)) (mkEnv [(2, .val (.ptr 1 0) []), (3, .val (.ptr 2 0) []), (6, .val (.slice 1 acc) [0]), (7, .val (lcell l) [])]) (SM lim r [.box [.ptr 0 0] [], .box [va.enc, vb.enc, .iface 287 (lcell l0)] []]))
      (.code (.exit 0) (mkEnv [(2, .val (.ptr 1 0) []), (3, .val (.ptr 2 0) []), (6, .val (.slice 1 (acc ++ sfx l)) [0])]) (SM lim r [.box [.ptr 0 0] [], .box [va.enc, vb.enc, .iface 287 (lcell l0)] []]))
  | [], acc, hl => by rw [show acc ++ sfx [] = acc by simp [sfx]]; exact Ev.run (.nil) (by kernel_rfl)
  | x :: t, acc, hl => by
    have k := loop301a lim r va vb l0 t (acc ++ [lcell (x :: t)]) (by simp at hl ⊢; omega)
    rw [show acc ++ sfx (x :: t) = (acc ++ [lcell (x :: t)]) ++ sfx t by simp [sfx]]
    have q : decide (acc.length + 1 ≤ 4294967296) = true := decide_eq_true (by simp at hl; omega)
    cases t <;> exact Ev.run (.en (.u q) <| .en (.c k) <| .nil) (by kernel_rfl)
noncomputable abbrev SFr (va vb : V) (l : List Nat) (res : AV) (ok : Bool) (st : LoopState) (pe : Option Code) : Sig :=
  [.box [.ptr 0 0] [], .box [va.enc, vb.enc, .iface 287 (lcell l)] [], .box [res] [], .box [.bool ok] [], .box [.slice 1 (sfx l)] [], .loop (rgOf G 301 0 (roundEnv (mkEnv [(2, .val (.ptr 1 0) []), (3, .val (.ptr 2 0) []), (8, .val (.ptr 3 0) []), (9, .val (.ptr 4 0) []), (28, .val (.func 353 [] [.ptr 5 0]) [])])) st pe)]
noncomputable abbrev SF (lim r : Nat) (va vb : V) (l : List Nat) (res : AV) (ok : Bool) (st : LoopState) (pe : Option Code) : Sig :=
  SM lim r (SFr va vb l res ok st pe)
noncomputable abbrev L353 (x : Int) (σ : Sig) : Task := .loop (eeOf G 353 7 none) (.loop (lpOf G 353 0)) (mkEnv [(0, .val (.yield 6) []), (1, .val (.ptr 5 0) []), (3, .val (.int .i64 x) [])]) σ
theorem sfx_get : ∀ (l : List Nat) (i : Nat), i < l.length → ∃ x t, l.drop i = x :: t ∧ (sfx l)[i]? = some (.iptr [.int .i64 (x : Int), lcell t])
  | x :: t, 0, _ => ⟨x, t, rfl, rfl⟩
  | x :: t, i + 1, h => by
    obtain ⟨y, s, h1, h2⟩ := sfx_get t i (by simpa using h)
    exact ⟨y, s, by simpa using h1, by simpa [sfx] using h2⟩
theorem sfx_len : ∀ l : List Nat, (sfx l).length = l.length
  | [] => rfl
  | x :: t => by simp [sfx, sfx_len t]
/-- Out of work: the next round breaks off. -/
theorem loopOut (lim : Nat) (va vb : V) (l : List Nat) (j : Nat) (hj : j ≤ l.length) (hl : l.length < 2 ^ 31) :
    Ev G (L353 ((j : Int) - 1) (SF lim 0 va vb l .nilIface false .ready none)) (.code (.exit 0) (mkEnv []) (SF lim 0 va vb l .nilIface false .ready none)) ∨
    Ev G (L353 ((j : Int) - 1) (SF lim 0 va vb l .nilIface false .ready none)) (.code .ret (mkEnv []) (SF lim 0 va vb l .nilIface false .done (some (.exit 2)))) := by
  cases j with
  | zero => left; exact Ev.run (.nil) (by kernel_rfl)
  | succ j =>
    right
    rw [show (((j + 1 : Nat)) : Int) - 1 = (j : Int) by omega]
    obtain ⟨x, t, _, h2⟩ := sfx_get l j (by omega)
    have q : decide ((0 : Int) ≤ (j : Int)) = true := decide_eq_true (by omega)
    cases t <;> exact Ev.run (.en (.a h2) <| .sub (.nil) <| .nil) (by kernel_rfl)
def foldFrom (ev : Tm → VE → Nat → R) (f : V) (l : List Nat) : Nat → V → Nat → R
  | 0, acc, r => some (some (acc, r))
  | j + 1, acc, r => match l.drop j with | x :: t => bnd (foldStep ev f x t acc r) fun acc r1 => foldFrom ev f l j acc r1 | [] => none
theorem bnd_assoc (x : R) (f g : V → Nat → R) : bnd (bnd x f) g = bnd x fun v r => bnd (f v r) g := by
  rcases x with _ | _ | ⟨v, r⟩ <;> rfl
theorem foldFrom_cons (ev : Tm → VE → Nat → R) (f : V) (x : Nat) (t : List Nat) : ∀ (j : Nat) (acc : V) (r : Nat), foldFrom ev f (x :: t) (j + 1) acc r = bnd (foldFrom ev f t j acc r) fun acc r1 => foldStep ev f x t acc r1
  | 0, acc, r => by
    simp only [foldFrom, List.drop_zero, bnd]
    split
    · rename_i h; rw [h]
    · rename_i h; rw [h]
    · rename_i h; rw [h]
  | j + 1, acc, r => by
    have e : foldFrom ev f (x :: t) (j + 1 + 1) acc r = match t.drop j with | y :: s => bnd (foldStep ev f y s acc r) fun acc r1 => foldFrom ev f (x :: t) (j + 1) acc r1 | [] => none := by
      conv => lhs; unfold foldFrom
      rfl
    rw [e]
    simp only [foldFrom]
    split
    · rename_i y s hd
      rw [bnd_assoc]
      congr 1
      funext acc r1
      exact foldFrom_cons ev f x t j acc r1
    · rfl
theorem loopFold_from (ev : Tm → VE → Nat → R) (f init : V) : ∀ (l : List Nat) (r : Nat), loopFold ev f init l r = foldFrom ev f l l.length init r
  | [], r => rfl
  | x :: t, r => by rw [List.length_cons, foldFrom_cons, ← loopFold_from ev f init t r]; rfl
theorem loop353 {ev : Tm → VE → Nat → R} (h : CE ev) (hle : Less ev) (va vb : V) (lim : Nat) (l : List Nat) (hL : l.length < 2 ^ 31) (hl : lim < 2 ^ 40) : ∀ (j : Nat) (acc : V) (r : Nat) (res : Option (V × Nat)), foldFrom ev vb l j acc r = some res → j ≤ l.length → r ≤ lim →
    (∃ v r', res = some (v, r') ∧ Ev G (L353 ((j : Int) - 1) (SF lim r va vb l acc.enc true .ready none)) (.code (.exit 0) (mkEnv []) (SF lim r' va vb l v.enc true .ready none))) ∨
    (res = none ∧ Ev G (L353 ((j : Int) - 1) (SF lim r va vb l acc.enc true .ready none)) (.code (.exit 0) (mkEnv []) (SF lim 0 va vb l .nilIface false .ready none))) ∨
    (res = none ∧ Ev G (L353 ((j : Int) - 1) (SF lim r va vb l acc.enc true .ready none)) (.code .ret (mkEnv []) (SF lim 0 va vb l .nilIface false .done (some (.exit 2)))))
  | 0, acc, r, res, hx, hj, hr => by
    simp only [foldFrom, Option.some.injEq] at hx
    subst hx
    clear h
    exact .inl ⟨acc, r, rfl, by exact Ev.run (.nil) (by kernel_rfl)⟩
  | j + 1, acc, r, res, hx, hj, hr => by
    obtain ⟨x, t, h1, h2⟩ := sfx_get l j (by omega)
    simp only [foldFrom, h1] at hx
    rw [show (((j + 1 : Nat)) : Int) - 1 = (j : Int) by omega]
    have q : decide ((0 : Int) ≤ (j : Int)) = true := decide_eq_true (by omega)
    have w : IntKind.wrap .i64 ((j : Int) - 1) = (j : Int) - 1 := wrapI (by omega) (by omega)
    rcases bnd_some hx with ⟨h3, rfl⟩ | ⟨v, r1, h3, hy⟩
    · have kb := c256_3 h hle h3 hr hl (SFr va vb l acc.enc true .busy none)
      have k2 := loopOut lim va vb l j (by omega) hL
      clear h
      right
      rcases k2 with k2 | k2
      · left; refine ⟨rfl, ?_⟩; cases t <;> exact Ev.run (.en (.a h2) <| .sub (.en (.r (kb)) <| .nil) <| .en (.w (w)) <| .en (.c k2) <| .nil) (by kernel_rfl)
      · right; refine ⟨rfl, ?_⟩; cases t <;> exact Ev.run (.en (.a h2) <| .sub (.en (.r (kb)) <| .nil) <| .en (.w (w)) <| .en (.c k2) <| .nil) (by kernel_rfl)
    · have hr1 := hle.step h3
      have kb := c256_3 h hle h3 hr hl (SFr va vb l acc.enc true .busy none)
      have k2 := loop353 h hle va vb lim l hL hl j v r1 res hy (by omega) (by omega)
      clear h
      have hv : (false || v.enc.flat) = true := by simp [V.flat]
      rcases k2 with ⟨v', r', rfl, k2⟩ | ⟨rfl, k2⟩ | ⟨rfl, k2⟩
      · left; refine ⟨v', r', rfl, ?_⟩; cases t <;> exact Ev.run (.en (.a h2) <| .sub (.en (.r (kb)) <| .en (.u hv) <| .nil) <| .en (.w (w)) <| .en (.c k2) <| .nil) (by kernel_rfl)
      · right; left; refine ⟨rfl, ?_⟩; cases t <;> exact Ev.run (.en (.a h2) <| .sub (.en (.r (kb)) <| .en (.u hv) <| .nil) <| .en (.w (w)) <| .en (.c k2) <| .nil) (by kernel_rfl)
      · right; right; refine ⟨rfl, ?_⟩; cases t <;> exact Ev.run (.en (.a h2) <| .sub (.en (.r (kb)) <| .en (.u hv) <| .nil) <| .en (.w (w)) <| .en (.c k2) <| .nil) (by kernel_rfl)
theorem c301 {ev : Tm → VE → Nat → R} (h : CE ev) (hle : Less ev) {va vb : V} {l : List Nat} {lim r : Nat} {res : Option (V × Nat)} (hx : loopFold ev vb va l r = some res) (hL : l.length < 2 ^ 31) (hr : r ≤ lim) (hl : lim < 2 ^ 40) :
    EvC G 301 [.ptr 0 0, .agg [va.enc, vb.enc, (V.list l).enc]] (SM lim r []) false (resV res) (SM lim (resR res) []) := .with (by
  rw [loopFold_from] at hx
  have k0 := loop301a lim r va vb l l [] (by simp; omega)
  have k := loop353 h hle va vb lim l hL hl l.length va r res hx (by omega) hr
  have w : IntKind.wrap .i64 (((([] ++ sfx l).length : Nat) : Int) - 1) = (l.length : Int) - 1 := by rw [List.nil_append, sfx_len]; exact wrapI (by omega) (by omega)
  clear h
  rcases k with ⟨v', r', rfl, k⟩ | ⟨rfl, k⟩ | ⟨rfl, k⟩
  · have hv : AV.flat (.tuple [v'.enc, .bool true]) = true := by simp [AV.flat, AV.flatL, V.flat]
    exact Ev.run (.en (.c k0) <| .subK (.nil) (.nil) <| .sub (.en (.w (w)) <| .en (.c k) <| .nil) <| .en (.u hv) <| .nil) (by kernel_rfl)
  · exact Ev.run (.en (.c k0) <| .subK (.nil) (.nil) <| .sub (.en (.w (w)) <| .en (.c k) <| .nil) <| .nil) (by kernel_rfl)
  · exact Ev.run (.en (.c k0) <| .subK (.nil) (.nil) <| .sub (.en (.w (w)) <| .en (.c k) <| .nil) <| .nil) (by kernel_rfl)) rfl
end Go.AI

