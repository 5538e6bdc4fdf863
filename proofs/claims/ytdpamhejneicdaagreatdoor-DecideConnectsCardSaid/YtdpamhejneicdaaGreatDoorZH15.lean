/- decide: its model, and contracts. -/
import Derived.Test.YtdpamhejneicdaaGreatDoorZH14
namespace Go.AI
set_option linter.unusedVariables false
set_option linter.unusedSimpArgs false
open Go
set_option maxRecDepth 100000
set_option maxHeartbeats 4000000

inductive TR where
  | ok (b : Bool) (r : Nat)
  | err (e : Int) (r : Nat)
def numM (n : Nat) (t : Tm) (r : Nat) : Option (Option (Nat × Nat)) := match evalT n t r with | some none => some none | some (some (.num k, r')) => some (some (k, r')) | _ => none
def tb (x : Option TR) (k : Bool → Nat → Option TR) : Option TR := match x with | none => none | some (.err e r) => some (.err e r) | some (.ok b r) => k b r
def nb (x : Option (Option (Nat × Nat))) (r : Nat) (k : Nat → Nat → Option TR) : Option TR := match x with | none => none | some none => some (.err 5 r) | some (some (a, r')) => k a r'
def withM (tr : DFm → Nat → Option TR) (b : DFm) (k r : Nat) : Option TR :=
  if k < 4096 then (if b.fm.size + b.fm.cnt 0 * k ≤ 4096 then tr (b.put (.num k) 0) r else some (.err 4 r)) else some (.err 4 r)
/-- A bounded quantifier: numbers left, the next one. -/
def loopB (tr : DFm → Nat → Option TR) (all : Bool) (b : DFm) : Nat → Nat → Nat → Option TR
  | 0, _, r => some (.ok all r)
  | _ + 1, _, 0 => some (.err 5 0)
  | m + 1, k, r + 1 => tb (withM tr b k r) fun is r2 => if is = all then loopB tr all b m (k + 1) r2 else some (.ok is r2)
def truthM : Nat → DFm → Nat → Option TR
  | 0, _, _ => none
  | n + 1, .eq s t, r => nb (numM n s r) r fun a r1 => nb (numM n t r1) r1 fun b r2 => some (.ok (decide (a = b)) r2)
  | n + 1, .two .and a b, r => tb (truthM n a r) fun x r1 => if x then truthM n b r1 else some (.ok false r1)
  | n + 1, .two .imp a b, r => tb (truthM n a r) fun x r1 => if x then truthM n b r1 else some (.ok true r1)
  | n + 1, .bnd all t b, r => nb (numM n t r) r fun m r1 => if m < 2 ^ 40 then loopB (truthM n) all b m 0 r1 else none

theorem tb_some {x : Option TR} {k : Bool → Nat → Option TR} {res : TR} (h : tb x k = some res) : (∃ e r, x = some (.err e r) ∧ res = .err e r) ∨ ∃ b r, x = some (.ok b r) ∧ k b r = some res := by
  unfold tb at h
  split at h
  · cases h
  · rename_i e r; exact .inl ⟨e, r, rfl, (Option.some.inj h).symm⟩
  · rename_i b r; exact .inr ⟨b, r, rfl, h⟩
theorem nb_some {x : Option (Option (Nat × Nat))} {r : Nat} {k : Nat → Nat → Option TR} {res : TR} (h : nb x r k = some res) : (x = some none ∧ res = .err 5 r) ∨ ∃ a r', x = some (some (a, r')) ∧ k a r' = some res := by
  unfold nb at h
  split at h
  · cases h
  · exact .inl ⟨rfl, (Option.some.inj h).symm⟩
  · rename_i a r'; exact .inr ⟨a, r', rfl, h⟩
theorem evalT_le {n : Nat} {t : Tm} {r : Nat} {v : V} {r' : Nat} (h : evalT n t r = some (some (v, r'))) : r' ≤ r := by
  unfold evalT at h
  split at h
  · rename_i a b c r
    obtain ⟨v1, r1, h1, h⟩ := bnd_ok h
    obtain ⟨v2, r2, h2, h⟩ := bnd_ok h
    obtain ⟨v3, r3, h3, h⟩ := bnd_ok h
    have ih := evalM_le n
    have := ih _ _ _ _ _ h1; have := ih _ _ _ _ _ h2; have := ih _ _ _ _ _ h3
    split at h
    · split at h
      · have := ih.fold _ _ _ _ _ _ h; omega
      · cases h
    · cases h
  · exact evalM_le n _ _ _ _ _ h
theorem numM_le {n : Nat} {t : Tm} {r k r' : Nat} (h : numM n t r = some (some (k, r'))) : r' ≤ r := by
  unfold numM at h
  split at h
  · cases h
  · rename_i k' r'' he
    simp only [Option.some.injEq, Prod.mk.injEq] at h
    obtain ⟨rfl, rfl⟩ := h
    exact evalT_le he
  · cases h
def TR.r : TR → Nat | .ok _ r => r | .err _ r => r
theorem loopB_le {tr : DFm → Nat → Option TR} (h : ∀ d r res, tr d r = some res → res.r ≤ r) (all : Bool) (b : DFm) : ∀ (m k r : Nat) (res : TR), loopB tr all b m k r = some res → res.r ≤ r
  | 0, k, r, res, hx => by simp only [loopB, Option.some.injEq] at hx; subst hx; exact Nat.le_refl _
  | m + 1, k, 0, res, hx => by simp only [loopB, Option.some.injEq] at hx; subst hx; exact Nat.le_refl _
  | m + 1, k, r + 1, res, hx => by
    simp only [loopB] at hx
    have hw : ∀ res, withM tr b k r = some res → res.r ≤ r := by
      intro res hw
      unfold withM at hw
      split at hw
      · split at hw
        · exact h _ _ _ hw
        · simp only [Option.some.injEq] at hw; subst hw; exact Nat.le_refl _
      · simp only [Option.some.injEq] at hw; subst hw; exact Nat.le_refl _
    rcases tb_some hx with ⟨e, r1, h1, rfl⟩ | ⟨x, r1, h1, h2⟩
    · have := hw _ h1; simp only [TR.r] at *; omega
    · have h3 := hw _ h1
      simp only [TR.r] at h3
      split at h2
      · have := loopB_le h all b m (k + 1) r1 res h2; omega
      · simp only [Option.some.injEq] at h2; subst h2; simp only [TR.r]; omega
theorem truthM_le : ∀ (n : Nat) (d : DFm) (r : Nat) (res : TR), truthM n d r = some res → res.r ≤ r
  | 0, d, r, res, h => by cases d <;> cases h
  | n + 1, .eq s t, r, res, h => by
    simp only [truthM] at h
    rcases nb_some h with ⟨h1, rfl⟩ | ⟨a, r1, h1, h⟩
    · exact Nat.le_refl _
    · have := numM_le h1
      rcases nb_some h with ⟨h2, rfl⟩ | ⟨b, r2, h2, h⟩
      · simp only [TR.r]; omega
      · have := numM_le h2
        simp only [Option.some.injEq] at h; subst h; simp only [TR.r]; omega
  | n + 1, .two .and a b, r, res, h => by
    simp only [truthM] at h
    rcases tb_some h with ⟨e, r1, h1, rfl⟩ | ⟨x, r1, h1, h⟩
    · exact truthM_le n _ _ _ h1
    · have h3 := truthM_le n _ _ _ h1
      simp only [TR.r] at h3
      split at h
      · have := truthM_le n _ _ _ h; omega
      · simp only [Option.some.injEq] at h; subst h; exact h3
  | n + 1, .two .imp a b, r, res, h => by
    simp only [truthM] at h
    rcases tb_some h with ⟨e, r1, h1, rfl⟩ | ⟨x, r1, h1, h⟩
    · exact truthM_le n _ _ _ h1
    · have h3 := truthM_le n _ _ _ h1
      simp only [TR.r] at h3
      split at h
      · have := truthM_le n _ _ _ h; omega
      · simp only [Option.some.injEq] at h; subst h; exact h3
  | n + 1, .bnd all t b, r, res, h => by
    simp only [truthM] at h
    rcases nb_some h with ⟨h1, rfl⟩ | ⟨m, r1, h1, h⟩
    · exact Nat.le_refl _
    · have := numM_le h1
      split at h
      case isFalse => cases h
      have := loopB_le (fun d r res h => truthM_le n d r res h) all b m 0 r1 res h
      omega

/-! ### The parts of the program -/

abbrev fcells (f : Fm) : List AV := [.int .i64 f.k, .int .i64 f.t, .slice 2 f.u, .slice 5 f.ts, .slice 5 f.fs]
def DFm.pty : DFm → Nat | .eq _ _ => 178 | .two .and _ _ => 180 | .two .imp _ _ => 182 | .bnd _ _ _ => 186
def DFm.pcells : DFm → List AV
  | .eq s t => s.cells ++ t.cells
  | .two _ a b => fcells a.fm ++ fcells b.fm
  | .bnd all t b => .bool all :: (t.cells ++ fcells b.fm)
def DFm.pfid : DFm → Nat | .eq _ _ => 375 | .two .and _ _ => 377 | .two .imp _ _ => 378 | .bnd _ _ _ => 379
abbrev SE (lim r : Nat) (e : Int) : Sig := [.box [.int .i64 ((lim - r : Nat) : Int), .int .i64 (lim : Int), .int .i64 e] []]
def TR.av : TR → AV | .ok b _ => .bool b | .err _ _ => .bool false
def TR.sg (lim : Nat) : TR → Sig | .ok _ r => SE lim r 0 | .err e r => SE lim r e

/-- What the contracts ask of a formula. -/
structure GoodD (d : DFm) : Prop where
  ty : DT [] d
  size : d.fm.size ≤ 4096
theorem GoodD.fit {d : DFm} (h : GoodD d) : d.fm.fit := ⟨h.ty.hasF.tok, h.size⟩
theorem GoodD.near {d : DFm} (h : GoodD d) : d.fm.near (2 ^ 29) := h.ty.hasF.near _ (by have := h.size; simp; omega)
theorem tm_fit {g : List Ty} {x : Tm} {t : Ty} (h : HasTy g x t) (hs : x.size ≤ 4096) : x.fit := ⟨h.tok, hs⟩

theorem f68 {d : DFm} (h : GoodD d) : EvF G 68 [d.fm.enc] (.iface d.pty (.agg d.pcells)) := ⟨flat1 (Fm.flat _), by
  cases d with
  | eq s t => exact Ev.run (.nil) (by kernel_rfl)
  | two j a b => cases j <;> exact Ev.run (.nil) (by kernel_rfl)
  | bnd all t b =>
    have h1 := f135 all (t := t) (b := b.fm) h.fit (h.ty.1.near _ (by have := h.size; simp only [DFm.fm, bndM_size] at this; simp; omega))
    cases all <;> exact Ev.run (.en (.f (h1)) <| .nil) (by kernel_rfl)⟩
theorem meth68 (d : DFm) : methodOf G.P d.pty "proofprograms/decide.truth" = some d.pfid := by
  cases d with
  | eq s t => kernel_rfl
  | two j a b => cases j <;> kernel_rfl
  | bnd all t b => kernel_rfl

theorem c376 {n : Nat} {t : Tm} {r lim : Nat} {res : Option (Nat × Nat)} (ht : HasTy [] t .nat) (hs : t.size ≤ 4096) (hx : numM n t r = some res) (hr : r ≤ lim) (hl : lim ≤ 65536) :
    EvC G 376 [.ptr 0 0, t.enc] (SE lim r 0) false (match res with | none => .tuple [.int .i64 0, .bool false] | some (k, _) => .tuple [.int .i64 (k : Int), .bool true]) (match res with | none => SE lim r 5 | some (_, r') => SE lim r' 0) := .with (by
  have e1 : IntKind.wrap .i64 ((lim : Int) - ((lim - r : Nat) : Int)) = (r : Int) := wrapEq (by omega) (by omega)
  unfold numM at hx
  split at hx
  · rename_i he
    simp only [Option.some.injEq] at hx
    subst hx
    have k := f196 (tm_fit ht hs) ht (by omega) he (by intro v r h; cases h)
    simp only at k
    exact Ev.run (.en (.w (e1)) <| .en (.f (k)) <| .sub (.nil) <| .nil) (by kernel_rfl)
  · rename_i k r' he
    simp only [Option.some.injEq] at hx
    subst hx
    have hle := evalT_le he
    have k := f196 (tm_fit ht hs) ht (by omega) he (by intro v r h; simp only [Option.some.injEq, Prod.mk.injEq] at h; exact ⟨_, h.1.symm⟩)
    simp only at k
    have e2 : IntKind.wrap .i64 (((lim - r : Nat) : Int) + ((r - r' : Nat) : Int)) = ((lim - r' : Nat) : Int) := wrapEq (by omega) (by omega)
    exact Ev.run (.en (.w (e1)) <| .en (.f (k)) <| .en (.w (e2)) <| .nil) (by kernel_rfl)
  · cases hx) rfl

abbrev CT (tr : DFm → Nat → Option TR) : Prop := ∀ (d : DFm) (r lim : Nat) (res : TR), tr d r = some res → GoodD d → r ≤ lim → lim ≤ 65536 → EvC G d.pfid [.agg d.pcells, .ptr 0 0] (SE lim r 0) false res.av (res.sg lim)

theorem put_num_good {b : DFm} {k : Nat} (hb : DT [.nat] b) (hs : b.fm.size + b.fm.cnt 0 * k ≤ 4096) : GoodD (b.put (.num k) 0) := by
  have hu := Tm.num_ty k []
  refine ⟨?_, ?_⟩
  · have := DT.put (g1 := []) hu b [] (by simpa using hb)
    simpa using this
  · rw [DFm.put_fm hu, Fm.put_size hu, Tm.num_size]
    simpa using hs
theorem c72 {tr : DFm → Nat → Option TR} (h : CT tr) {b : DFm} {k r lim : Nat} {res : TR} (hx : withM tr b k r = some res) (hb : DT [.nat] b) (hbs : b.fm.size ≤ 4096) (hk : k < 2 ^ 40) (hr : r ≤ lim) (hl : lim ≤ 65536) :
    EvC G 72 [.ptr 0 0, b.fm.enc, .int .i64 (k : Int)] (SE lim r 0) false res.av (res.sg lim) := .with (by
  unfold withM at hx
  have hu := Tm.num_ty k []
  split at hx
  · rename_i hk2
    have k1 := f138 hk2
    have hf : b.fm.fit := ⟨hb.hasF.tok, hbs⟩
    have hfn : b.fm.near (2 ^ 29) := hb.hasF.near _ (by simp; omega)
    have huf : (Tm.num k).fit := ⟨hu.tok, by rw [Tm.num_size]; omega⟩
    have hun : (Tm.num k).near (2 ^ 29) := hu.near _ (by rw [Tm.num_size]; simp; omega)
    split at hx
    · rename_i hs
      have k2 : EvF G 85 [b.fm.enc, .int .i64 0, (Tm.num k).enc] _ := f85 (m := 0) hf huf (by omega) hfn hun (by rw [Tm.num_size]; simpa using hs)
      rw [← DFm.put_fm hu] at k2
      have hg := put_num_good hb hs
      have k3 := f68 hg
      have k4 := meth68 (b.put (.num k) 0)
      have k5 := h _ _ lim _ hx hg hr hl
      clear h
      cases res <;> exact Ev.run (.en (.f (k1)) <| .en (.f (k2)) <| .en (.f (k3)) <| .en (.m k4) <| .en (.r (k5)) <| .nil) (by kernel_rfl)
    · rename_i hs
      simp only [Option.some.injEq] at hx
      subst hx
      have k2 : EvF G 85 [b.fm.enc, .int .i64 0, (Tm.num k).enc] _ := f85x (m := 0) hf huf (by omega) hfn hun (by rw [Tm.num_size]; simpa using hs)
      clear h
      exact Ev.run (.en (.f (k1)) <| .en (.f (k2)) <| .sub (.nil) <| .nil) (by kernel_rfl)
  · rename_i hk2
    simp only [Option.some.injEq] at hx
    subst hx
    have k1 := f138x hk2
    clear h
    exact Ev.run (.en (.f (k1)) <| .sub (.nil) <| .nil) (by kernel_rfl)) rfl
noncomputable abbrev L379 (all : Bool) (t : Tm) (b : DFm) (K k : Nat) (σ : Sig) : Task := .loop (eeOf G 379 1 none) (.loop (lpOf G 379 0)) (mkEnv [(1, .val (.ptr 0 0) []), (2, .loc (.bool all :: (t.cells ++ fcells b.fm)) []), (18, .val (.int .i64 (K : Int)) []), (19, .val (.int .i64 (k : Int)) [])]) σ
def TR.okE : TR → Prop | .ok _ _ => True | .err e _ => e = 4 ∨ e = 5
theorem withM_E {tr : DFm → Nat → Option TR} (h : ∀ d r res, tr d r = some res → res.okE) {b : DFm} {k r : Nat} {res : TR} (hx : withM tr b k r = some res) : res.okE := by
  unfold withM at hx
  split at hx
  · split at hx
    · exact h _ _ _ hx
    · simp only [Option.some.injEq] at hx; subst hx; exact .inl rfl
  · simp only [Option.some.injEq] at hx; subst hx; exact .inl rfl
theorem withM_le {tr : DFm → Nat → Option TR} (h : ∀ d r res, tr d r = some res → res.r ≤ r) {b : DFm} {k r : Nat} {res : TR} (hx : withM tr b k r = some res) : res.r ≤ r := by
  unfold withM at hx
  split at hx
  · split at hx
    · exact h _ _ _ hx
    · simp only [Option.some.injEq] at hx; subst hx; exact Nat.le_refl _
  · simp only [Option.some.injEq] at hx; subst hx; exact Nat.le_refl _
theorem loopB_E {tr : DFm → Nat → Option TR} (h : ∀ d r res, tr d r = some res → res.okE) (all : Bool) (b : DFm) : ∀ (m k r : Nat) (res : TR), loopB tr all b m k r = some res → res.okE
  | 0, k, r, res, hx => by simp only [loopB, Option.some.injEq] at hx; subst hx; trivial
  | m + 1, k, 0, res, hx => by simp only [loopB, Option.some.injEq] at hx; subst hx; exact .inr rfl
  | m + 1, k, r + 1, res, hx => by
    simp only [loopB] at hx
    rcases tb_some hx with ⟨e, r1, h1, rfl⟩ | ⟨x, r1, h1, h2⟩
    · exact withM_E h h1
    · split at h2
      · exact loopB_E h all b m (k + 1) r1 res h2
      · simp only [Option.some.injEq] at h2; subst h2; trivial
theorem truthM_E : ∀ (n : Nat) (d : DFm) (r : Nat) (res : TR), truthM n d r = some res → res.okE
  | 0, d, r, res, h => by cases d <;> cases h
  | n + 1, .eq s t, r, res, h => by
    simp only [truthM] at h
    rcases nb_some h with ⟨h1, rfl⟩ | ⟨a, r1, h1, h⟩
    · exact .inr rfl
    · rcases nb_some h with ⟨h2, rfl⟩ | ⟨b, r2, h2, h⟩
      · exact .inr rfl
      · simp only [Option.some.injEq] at h; subst h; trivial
  | n + 1, .two .and a b, r, res, h => by
    simp only [truthM] at h
    rcases tb_some h with ⟨e, r1, h1, rfl⟩ | ⟨x, r1, h1, h⟩
    · exact truthM_E n _ _ _ h1
    · split at h
      · exact truthM_E n _ _ _ h
      · simp only [Option.some.injEq] at h; subst h; trivial
  | n + 1, .two .imp a b, r, res, h => by
    simp only [truthM] at h
    rcases tb_some h with ⟨e, r1, h1, rfl⟩ | ⟨x, r1, h1, h⟩
    · exact truthM_E n _ _ _ h1
    · split at h
      · exact truthM_E n _ _ _ h
      · simp only [Option.some.injEq] at h; subst h; trivial
  | n + 1, .bnd all t b, r, res, h => by
    simp only [truthM] at h
    rcases nb_some h with ⟨h1, rfl⟩ | ⟨m, r1, h1, h⟩
    · exact .inr rfl
    · split at h
      case isFalse => cases h
      exact loopB_E (fun d r res h => truthM_E n d r res h) all b m 0 r1 res h

theorem ne_of {e : Int} (h : e = 4 ∨ e = 5) : (e != 0) = true := by rcases h with rfl | rfl <;> rfl
theorem loop379 {tr : DFm → Nat → Option TR} (h : CT tr) (hE : ∀ d r res, tr d r = some res → res.okE) (hle : ∀ d r res, tr d r = some res → res.r ≤ r) (all : Bool) (t : Tm) (b : DFm) (K lim : Nat) (hb : DT [.nat] b) (hbs : b.fm.size ≤ 4096) (hK : K < 2 ^ 40) (hl : lim ≤ 65536) :
    ∀ (m k r : Nat) (res : TR), loopB tr all b m k r = some res → k + m = K → r ≤ lim →
      (∃ r', res = .ok all r' ∧ Ev G (L379 all t b K k (SE lim r 0)) (.code (.exit 0) (mkEnv [(2, .loc (.bool all :: (t.cells ++ fcells b.fm)) [])]) (SE lim r' 0))) ∨
      Ev G (L379 all t b K k (SE lim r 0)) (.code .ret (mkEnv [(4, .val res.av [])]) (res.sg lim))
  | 0, k, r, res, hx, hkm, hr => by
    simp only [loopB, Option.some.injEq] at hx
    have q : decide ((k : Int) < (K : Int)) = false := decide_eq_false (by omega)
    clear h hE hle
    exact .inl ⟨r, hx.symm, by exact Ev.run (.en (.v q) <| .nil) (by kernel_rfl)⟩
  | m + 1, k, 0, res, hx, hkm, hr => by
    simp only [loopB, Option.some.injEq] at hx
    subst hx
    have q : decide ((k : Int) < (K : Int)) = true := decide_eq_true (by omega)
    have q2 : decide ((lim : Int) ≤ ((lim - 0 : Nat) : Int)) = true := decide_eq_true (by omega)
    clear h hE hle
    right
    exact Ev.run (.en (.v q) <| .en (.v q2) <| .sub (.nil) <| .nil) (by kernel_rfl)
  | m + 1, k, r + 1, res, hx, hkm, hr => by
    simp only [loopB] at hx
    have q : decide ((k : Int) < (K : Int)) = true := decide_eq_true (by omega)
    have q2 : decide ((lim : Int) ≤ ((lim - (r + 1) : Nat) : Int)) = false := decide_eq_false (by omega)
    have e1 : IntKind.wrap .i64 (((lim - (r + 1) : Nat) : Int) + 1) = ((lim - r : Nat) : Int) := wrapEq (by omega) (by omega)
    have w : IntKind.wrap .i64 ((k : Int) + 1) = ((k + 1 : Nat) : Int) := wrapEq (by omega) (by omega)
    rcases tb_some hx with ⟨e, r1, h1, rfl⟩ | ⟨x, r1, h1, h2⟩
    · have k1 := c72 h h1 hb hbs (by omega) (by omega) hl
      have he := ne_of (withM_E hE h1)
      clear h hE hle
      right
      exact Ev.run (.en (.v q) <| .en (.v q2) <| .en (.w (e1)) <| .en (.r (k1)) <| .en (.v he) <| .nil) (by kernel_rfl)
    · have k1 := c72 h h1 hb hbs (by omega) (by omega) hl
      have hr1 := withM_le hle h1
      simp only [TR.r] at hr1
      split at h2
      · rename_i hxa
        subst hxa
        rcases loop379 h hE hle x t b K lim hb hbs hK hl m (k + 1) r1 res h2 (by omega) (by omega) with ⟨r', e, k2⟩ | k2
        · left
          refine ⟨r', e, ?_⟩
          clear h hE hle
          cases x <;> exact Ev.run (.en (.v q) <| .en (.v q2) <| .en (.w (e1)) <| .en (.r (k1)) <| .en (.w (w)) <| .en (.c k2) <| .nil) (by kernel_rfl)
        · right
          clear h hE hle
          cases x <;> exact Ev.run (.en (.v q) <| .en (.v q2) <| .en (.w (e1)) <| .en (.r (k1)) <| .en (.w (w)) <| .en (.c k2) <| .nil) (by kernel_rfl)
      · rename_i hxa
        simp only [Option.some.injEq] at h2
        subst h2
        right
        clear h hE hle
        cases x <;> cases all <;> first | exact absurd rfl hxa | skip
        · exact Ev.run (.en (.v q) <| .en (.v q2) <| .en (.w (e1)) <| .en (.r (k1)) <| .nil) (by kernel_rfl)
        · exact Ev.run (.en (.v q) <| .en (.v q2) <| .en (.w (e1)) <| .en (.r (k1)) <| .nil) (by kernel_rfl)

theorem DFm.part_bnd (all : Bool) (t : Tm) (b : DFm) : (DFm.bnd all t b).fm.size = t.size + b.fm.size + 24 := bndM_size all t b.fm
theorem c_truth : ∀ n, CT (truthM n)
  | 0 => fun d r lim res hx hg hr hl => by cases d <;> cases hx
  | n + 1 => fun d r lim res hx hg hr hl => by
    have ih := c_truth n
    have hsz := hg.size
    refine .with ?_ (by simp [AV.flatL, AV.flat])
    match d, hx, hg, hsz with
    | .eq s t, hx, hg, hsz =>
      simp only [DFm.fm, Fm.size] at hsz
      simp only [truthM] at hx
      rcases nb_some hx with ⟨h1, rfl⟩ | ⟨a, r1, h1, hx⟩
      · have k1 := c376 hg.ty.1 (by omega) h1 hr hl
        clear ih
        exact Ev.run (.en (.r (k1)) <| .nil) (by kernel_rfl)
      · have k1 := c376 hg.ty.1 (by omega) h1 hr hl
        have l1 := numM_le h1
        rcases nb_some hx with ⟨h2, rfl⟩ | ⟨b, r2, h2, hx⟩
        · have k2 := c376 hg.ty.2 (by omega) h2 (by omega) hl
          clear ih
          exact Ev.run (.en (.r (k1)) <| .en (.r (k2)) <| .nil) (by kernel_rfl)
        · have k2 := c376 hg.ty.2 (by omega) h2 (by omega) hl
          simp only [Option.some.injEq] at hx
          subst hx
          have q : ((a : Int) == (b : Int)) = decide (a = b) := by rw [Bool.eq_iff_iff]; simp; omega
          clear ih
          exact Ev.run (.en (.r (k1)) <| .en (.r (k2)) <| .en (.v q) <| .nil) (by kernel_rfl)
    | .two .and a b, hx, hg, hsz =>
      simp only [DFm.fm, Fm.size] at hsz
      simp only [truthM] at hx
      have ga : GoodD a := ⟨hg.ty.1, by omega⟩
      have gb : GoodD b := ⟨hg.ty.2, by omega⟩
      have m1 := f68 ga; have m2 := meth68 a; have m3 := f68 gb; have m4 := meth68 b
      rcases tb_some hx with ⟨e, r1, h1, rfl⟩ | ⟨x, r1, h1, hx⟩
      · have k1 := ih _ _ lim _ h1 ga hr hl
        clear ih
        exact Ev.run (.en (.f (m1)) <| .en (.m m2) <| .en (.r (k1)) <| .nil) (by kernel_rfl)
      · have k1 := ih _ _ lim _ h1 ga hr hl
        have l1 := truthM_le n _ _ _ h1
        simp only [TR.r] at l1
        cases x with
        | false =>
          simp only [Bool.false_eq_true, if_false, Option.some.injEq] at hx
          subst hx
          clear ih
          exact Ev.run (.en (.f (m1)) <| .en (.m m2) <| .en (.r (k1)) <| .nil) (by kernel_rfl)
        | true =>
          simp only [if_true] at hx
          have k2 := ih _ _ lim _ hx gb (by omega) hl
          clear ih
          cases res <;> exact Ev.run (.en (.f (m1)) <| .en (.m m2) <| .en (.r (k1)) <| .en (.f (m3)) <| .en (.m m4) <| .en (.r (k2)) <| .nil) (by kernel_rfl)
    | .two .imp a b, hx, hg, hsz =>
      simp only [DFm.fm, Fm.size] at hsz
      simp only [truthM] at hx
      have ga : GoodD a := ⟨hg.ty.1, by omega⟩
      have gb : GoodD b := ⟨hg.ty.2, by omega⟩
      have m1 := f68 ga; have m2 := meth68 a; have m3 := f68 gb; have m4 := meth68 b
      rcases tb_some hx with ⟨e, r1, h1, rfl⟩ | ⟨x, r1, h1, hx⟩
      · have k1 := ih _ _ lim _ h1 ga hr hl
        have he := ne_of (truthM_E n _ _ _ h1)
        have he2 : (e == 0) = false := by rcases (truthM_E n _ _ _ h1 : e = 4 ∨ e = 5) with rfl | rfl <;> rfl
        clear ih
        exact Ev.run (.en (.f (m1)) <| .en (.m m2) <| .en (.r (k1)) <| .en (.v he) <| .en (.v he2) <| .nil) (by kernel_rfl)
      · have k1 := ih _ _ lim _ h1 ga hr hl
        have l1 := truthM_le n _ _ _ h1
        simp only [TR.r] at l1
        cases x with
        | false =>
          simp only [Bool.false_eq_true, if_false, Option.some.injEq] at hx
          subst hx
          clear ih
          exact Ev.run (.en (.f (m1)) <| .en (.m m2) <| .en (.r (k1)) <| .nil) (by kernel_rfl)
        | true =>
          simp only [if_true] at hx
          have k2 := ih _ _ lim _ hx gb (by omega) hl
          clear ih
          cases res <;> exact Ev.run (.en (.f (m1)) <| .en (.m m2) <| .en (.r (k1)) <| .en (.f (m3)) <| .en (.m m4) <| .en (.r (k2)) <| .nil) (by kernel_rfl)
    | .bnd all t b, hx, hg, hsz =>
      rw [DFm.part_bnd] at hsz
      simp only [truthM] at hx
      rcases nb_some hx with ⟨h1, rfl⟩ | ⟨K, r1, h1, hx⟩
      · have k1 := c376 hg.ty.1 (by omega) h1 hr hl
        clear ih
        exact Ev.run (.en (.r (k1)) <| .nil) (by kernel_rfl)
      · have k1 := c376 hg.ty.1 (by omega) h1 hr hl
        have l1 := numM_le h1
        split at hx
        · rename_i hK
          rcases loop379 ih (fun d r res h => truthM_E n d r res h) (fun d r res h => truthM_le n d r res h) all t b K lim hg.ty.2 (by omega) hK hl K 0 r1 res hx (by omega) (by omega) with ⟨r', rfl, k2⟩ | k2
          · clear ih
            exact Ev.run (.en (.r (k1)) <| .en (.c k2) <| .nil) (by kernel_rfl)
          · clear ih
            cases res <;> exact Ev.run (.en (.r (k1)) <| .en (.c k2) <| .nil) (by kernel_rfl)
        · cases hx
end Go.AI

