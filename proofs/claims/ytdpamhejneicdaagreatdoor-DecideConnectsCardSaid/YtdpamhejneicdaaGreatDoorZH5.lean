/- Formulas; contracts of tree. -/
import Derived.Test.YtdpamhejneicdaaGreatDoorZH4
namespace Go.AI
set_option linter.unusedVariables false
set_option linter.unusedSimpArgs false
open Go
set_option maxRecDepth 100000
set_option maxHeartbeats 4000000

inductive QK where | all | ex | allU | exU
  deriving DecidableEq
def QK.k : QK → Int | .all => 4 | .ex => 5 | .allU => 6 | .exU => 7
inductive JK where | and | imp
  deriving DecidableEq
def JK.k : JK → Int | .and => 2 | .imp => 3

inductive Fm where
  | eq (s t : Tm)
  | two (j : JK) (a b : Fm)
  | q (j : QK) (s : Ty) (b : Fm)
  deriving DecidableEq

abbrev fnode (k t : Int) (u ts fs : List AV) : AV := .agg [.int .i64 k, .int .i64 t, .slice 2 u, .slice 5 ts, .slice 5 fs]
def Fm.k : Fm → Int | .eq _ _ => 1 | .two j _ _ => j.k | .q j _ _ => j.k
def Fm.t : Fm → Int | .q _ s _ => s.k | _ => 0
def Fm.u : Fm → List AV | .q _ s _ => s.a | _ => []
def Fm.ts : Fm → List AV | .eq s t => [node s.k s.i s.t s.u s.a, node t.k t.i t.t t.u t.a] | _ => []
def Fm.fs : Fm → List AV
  | .two _ a b => [fnode a.k a.t a.u a.ts a.fs, fnode b.k b.t b.u b.ts b.fs]
  | .q _ _ b => [fnode b.k b.t b.u b.ts b.fs]
  | _ => []
def Fm.enc (f : Fm) : AV := fnode f.k f.t f.u f.ts f.fs
def Fm.size : Fm → Nat | .eq s t => s.size + t.size + 1 | .two _ a b => a.size + b.size + 1 | .q _ _ b => b.size + 1
def Fm.tok : Fm → Prop | .eq s t => s.tok ∧ t.tok | .two _ a b => a.tok ∧ b.tok | .q _ s b => s.ok ∧ b.tok
def Fm.near (N : Nat) : Fm → Prop | .eq s t => s.near N ∧ t.near N | .two _ a b => a.near N ∧ b.near N | .q _ _ b => b.near N
def Fm.put : Fm → Tm → Nat → Fm | .eq s t, u, m => .eq (s.put u m) (t.put u m) | .two j a b, u, m => .two j (a.put u m) (b.put u m) | .q j s b, u, m => .q j s (b.put u (m + 1))
def Fm.cnt : Fm → Nat → Nat | .eq s t, m => s.cnt m + t.cnt m | .two _ a b, m => a.cnt m + b.cnt m | .q _ _ b, m => b.cnt (m + 1)
/-- Formulas that are not too large. -/
def Fm.fit (f : Fm) : Prop := f.tok ∧ f.size ≤ 4096

theorem Fm.cnt_le : ∀ (f : Fm) (m : Nat), f.cnt m ≤ f.size
  | .eq s t, m => by have := s.cnt_le m; have := t.cnt_le m; simp only [Fm.cnt, Fm.size]; omega
  | .two _ a b, m => by have := cnt_le a m; have := cnt_le b m; simp only [Fm.cnt, Fm.size]; omega
  | .q _ _ b, m => by have := cnt_le b (m + 1); simp only [Fm.cnt, Fm.size]; omega
theorem Fm.near_mono {N M : Nat} (h : N ≤ M) : ∀ (f : Fm), f.near N → f.near M
  | .eq s t, hx => ⟨Tm.near_mono h s hx.1, Tm.near_mono h t hx.2⟩
  | .two _ a b, hx => ⟨near_mono h a hx.1, near_mono h b hx.2⟩
  | .q _ _ b, hx => near_mono h b hx

theorem Fm.flat : ∀ f : Fm, f.enc.flat = true
  | .eq s t => by
    have h1 := s.flat; have h2 := t.flat
    simp only [Tm.enc, node, AV.flat, AV.flatL, Bool.true_and, Bool.and_true, Bool.and_eq_true] at h1 h2
    simp [Fm.enc, Fm.k, Fm.t, Fm.u, Fm.ts, Fm.fs, AV.flat, AV.flatL, h1, h2, node]
  | .two j a b => by
    have h1 := Fm.flat a; have h2 := Fm.flat b
    simp only [Fm.enc, fnode, AV.flat, AV.flatL, Bool.true_and, Bool.and_true, Bool.and_eq_true] at h1 h2
    show AV.flat (fnode _ _ [] [] [fnode a.k a.t a.u a.ts a.fs, fnode b.k b.t b.u b.ts b.fs]) = true
    simp [AV.flat, AV.flatL, h1, h2]
  | .q j s b => by
    have h1 := Fm.flat b
    have h2 := s.flata
    simp only [Fm.enc, fnode, AV.flat, AV.flatL, Bool.true_and, Bool.and_true, Bool.and_eq_true] at h1
    show AV.flat (fnode _ _ s.a [] [fnode b.k b.t b.u b.ts b.fs]) = true
    simp [AV.flat, AV.flatL, h1, h2]

theorem shared3 {x : AV} {b : Int} {g : Nat} {p : Nat} : AV.flatL [x, .int .i64 b, .func g [] [.ptr p 0]] = false := by simp [AV.flatL, AV.flat]
theorem shared4 {x : AV} {b : Int} {g : Nat} {p q : Nat} : AV.flatL [x, .int .i64 b, .func g [] [.ptr p 0, .ptr q 0]] = false := by simp [AV.flatL, AV.flat]

theorem f213 : ∀ f : Fm, f.tok → f.size < 2 ^ 60 → EvF G 213 [f.enc] (.tuple [.int .i64 f.size, .bool true])
  | .eq s t, ht, h => ⟨flat1 (Fm.flat _), by
    obtain ⟨ts, tt⟩ := ht
    simp only [Fm.size] at h
    have hfl := flat1 (Fm.flat (Fm.eq s t))
    have hs := f272 s ts (by omega)
    have ht := f272 t tt (by omega)
    have e0 : IntKind.wrap .i64 (1 + (s.size : Int)) = ((s.size + 1 : Nat) : Int) := wrapEq (by omega) (by omega)
    have e1 : IntKind.wrap .i64 (((s.size + 1 : Nat) : Int) + (t.size : Int)) = ((s.size + t.size + 1 : Nat) : Int) := wrapEq (by omega) (by omega)
    exact Ev.run (.subF hfl (.en (.f (f318n)) <| .nil) <| .sub (.en (.f (hs)) <| .en (.w (e0)) <| .sub (.en (.f (ht)) <| .en (.w (e1)) <| .sub (.nil) <| .nil) <| .nil) <| .sub (.nil) <| .nil) (by kernel_rfl)⟩
  | .two .and a b, ht, h => ⟨flat1 (Fm.flat _), by
    obtain ⟨ta, tb⟩ := ht
    simp only [Fm.size] at h
    have hfl := flat1 (Fm.flat (Fm.two .and a b))
    have ha := f213 a ta (by omega)
    have hb := f213 b tb (by omega)
    have e0 : IntKind.wrap .i64 (1 + (a.size : Int)) = ((a.size + 1 : Nat) : Int) := wrapEq (by omega) (by omega)
    have e1 : IntKind.wrap .i64 (((a.size + 1 : Nat) : Int) + (b.size : Int)) = ((a.size + b.size + 1 : Nat) : Int) := wrapEq (by omega) (by omega)
    exact Ev.run (.subF hfl (.en (.f (f318n)) <| .nil) <| .sub (.nil) <| .sub (.en (.f (ha)) <| .en (.w (e0)) <| .sub (.en (.f (hb)) <| .en (.w (e1)) <| .sub (.nil) <| .nil) <| .nil) <| .nil) (by kernel_rfl)⟩
  | .two .imp a b, ht, h => ⟨flat1 (Fm.flat _), by
    obtain ⟨ta, tb⟩ := ht
    simp only [Fm.size] at h
    have hfl := flat1 (Fm.flat (Fm.two .imp a b))
    have ha := f213 a ta (by omega)
    have hb := f213 b tb (by omega)
    have e0 : IntKind.wrap .i64 (1 + (a.size : Int)) = ((a.size + 1 : Nat) : Int) := wrapEq (by omega) (by omega)
    have e1 : IntKind.wrap .i64 (((a.size + 1 : Nat) : Int) + (b.size : Int)) = ((a.size + b.size + 1 : Nat) : Int) := wrapEq (by omega) (by omega)
    exact Ev.run (.subF hfl (.en (.f (f318n)) <| .nil) <| .sub (.nil) <| .sub (.en (.f (ha)) <| .en (.w (e0)) <| .sub (.en (.f (hb)) <| .en (.w (e1)) <| .sub (.nil) <| .nil) <| .nil) <| .nil) (by kernel_rfl)⟩
  | .q .all s b, ht, h => ⟨flat1 (Fm.flat _), by
    obtain ⟨hs, tb⟩ := ht
    simp only [Fm.size] at h
    have hfl := flat1 (Fm.flat (Fm.q .all s b))
    have hb := f213 b tb (by omega)
    have e0 : IntKind.wrap .i64 (1 + (b.size : Int)) = ((b.size + 1 : Nat) : Int) := wrapEq (by omega) (by omega)
    have hc := f177 hs
    exact Ev.run (.subF hfl (.en (.f (hc)) <| .nil) <| .sub (.nil) <| .sub (.en (.f (hb)) <| .en (.w (e0)) <| .sub (.nil) <| .nil) <| .nil) (by kernel_rfl)⟩
  | .q .ex s b, ht, h => ⟨flat1 (Fm.flat _), by
    obtain ⟨hs, tb⟩ := ht
    simp only [Fm.size] at h
    have hfl := flat1 (Fm.flat (Fm.q .ex s b))
    have hb := f213 b tb (by omega)
    have e0 : IntKind.wrap .i64 (1 + (b.size : Int)) = ((b.size + 1 : Nat) : Int) := wrapEq (by omega) (by omega)
    have hc := f177 hs
    exact Ev.run (.subF hfl (.en (.f (hc)) <| .nil) <| .sub (.nil) <| .sub (.en (.f (hb)) <| .en (.w (e0)) <| .sub (.nil) <| .nil) <| .nil) (by kernel_rfl)⟩
  | .q .allU s b, ht, h => ⟨flat1 (Fm.flat _), by
    obtain ⟨hs, tb⟩ := ht
    simp only [Fm.size] at h
    have hfl := flat1 (Fm.flat (Fm.q .allU s b))
    have hb := f213 b tb (by omega)
    have e0 : IntKind.wrap .i64 (1 + (b.size : Int)) = ((b.size + 1 : Nat) : Int) := wrapEq (by omega) (by omega)
    have hc := f177 hs
    exact Ev.run (.subF hfl (.en (.f (hc)) <| .nil) <| .sub (.nil) <| .sub (.en (.f (hb)) <| .en (.w (e0)) <| .sub (.nil) <| .nil) <| .nil) (by kernel_rfl)⟩
  | .q .exU s b, ht, h => ⟨flat1 (Fm.flat _), by
    obtain ⟨hs, tb⟩ := ht
    simp only [Fm.size] at h
    have hfl := flat1 (Fm.flat (Fm.q .exU s b))
    have hb := f213 b tb (by omega)
    have e0 : IntKind.wrap .i64 (1 + (b.size : Int)) = ((b.size + 1 : Nat) : Int) := wrapEq (by omega) (by omega)
    have hc := f177 hs
    exact Ev.run (.subF hfl (.en (.f (hc)) <| .nil) <| .sub (.nil) <| .sub (.en (.f (hb)) <| .en (.w (e0)) <| .sub (.nil) <| .nil) <| .nil) (by kernel_rfl)⟩

theorem f143 {f : Fm} (h : f.fit) : EvF G 143 [f.enc] (.tuple [.int .i64 f.size, .int .i64 0]) := ⟨flat1 f.flat, by
  have h' := h.2
  have h1 := f213 f h.1 (by omega)
  have e : decide ((4096 : Int) < f.size) = false := decide_eq_false (by omega)
  exact Ev.run (.en (.f (h1)) <| .en (.v e) <| .nil) (by kernel_rfl)⟩
theorem f82 {f : Fm} (h : f.fit) : EvF G 82 [f.enc] (.int .i64 0) := ⟨flat1 f.flat, by have h1 := f143 h; exact Ev.run (.en (.f (h1)) <| .nil) (by kernel_rfl)⟩
theorem f148 {f : Fm} (h : f.fit) : EvF G 148 [f.enc] (.tuple [.int .i64 f.size, .int .i64 0]) := ⟨flat1 f.flat, by have h1 := f143 h; exact Ev.run (.en (.f (h1)) <| .nil) (by kernel_rfl)⟩
theorem f265 : ∀ f : Fm, EvF G 265 [f.enc, f.enc] (.bool true)
  | .eq s t => ⟨flat2 (Fm.flat _) (Fm.flat _), by
    have hs := f312 s
    have ht := f312 t
    exact Ev.run (.en (.f (f165n)) <| .sub (.en (.f (hs)) <| .sub (.en (.f (ht)) <| .sub (.nil) <| .nil) <| .nil) <| .sub (.nil) <| .nil) (by kernel_rfl)⟩
  | .two .and a b => ⟨flat2 (Fm.flat _) (Fm.flat _), by
    have ha := f265 a
    have hb := f265 b
    exact Ev.run (.en (.f (f165n)) <| .sub (.nil) <| .sub (.en (.f (ha)) <| .sub (.en (.f (hb)) <| .sub (.nil) <| .nil) <| .nil) <| .nil) (by kernel_rfl)⟩
  | .two .imp a b => ⟨flat2 (Fm.flat _) (Fm.flat _), by
    have ha := f265 a
    have hb := f265 b
    exact Ev.run (.en (.f (f165n)) <| .sub (.nil) <| .sub (.en (.f (ha)) <| .sub (.en (.f (hb)) <| .sub (.nil) <| .nil) <| .nil) <| .nil) (by kernel_rfl)⟩
  | .q .all s b => ⟨flat2 (Fm.flat _) (Fm.flat _), by
    have hb := f265 b
    exact Ev.run (.en (.f (f165r s)) <| .sub (.nil) <| .sub (.en (.f (hb)) <| .sub (.nil) <| .nil) <| .nil) (by kernel_rfl)⟩
  | .q .ex s b => ⟨flat2 (Fm.flat _) (Fm.flat _), by
    have hb := f265 b
    exact Ev.run (.en (.f (f165r s)) <| .sub (.nil) <| .sub (.en (.f (hb)) <| .sub (.nil) <| .nil) <| .nil) (by kernel_rfl)⟩
  | .q .allU s b => ⟨flat2 (Fm.flat _) (Fm.flat _), by
    have hb := f265 b
    exact Ev.run (.en (.f (f165r s)) <| .sub (.nil) <| .sub (.en (.f (hb)) <| .sub (.nil) <| .nil) <| .nil) (by kernel_rfl)⟩
  | .q .exU s b => ⟨flat2 (Fm.flat _) (Fm.flat _), by
    have hb := f265 b
    exact Ev.run (.en (.f (f165r s)) <| .sub (.nil) <| .sub (.en (.f (hb)) <| .sub (.nil) <| .nil) <| .nil) (by kernel_rfl)⟩

/-! ### tree.PutFormula, tree.OwnFormula -/

abbrev SPf (m : Nat) (u : Tm) : Sig := [.box [.int .i64 (m : Int)] [], .box u.cells []]
theorem c226 (m d : Nat) (x u : Tm) (hm : m + d < 2 ^ 58) (hx : x.near (2 ^ 59)) (hs : x.size < 2 ^ 58) (hu : u.near (2 ^ 59)) (hus : u.size < 2 ^ 59) :
    EvC G 226 [x.enc, .int .i64 (d : Int), .ptr 0 0, .ptr 1 0] (SPf m u) false (x.put u (m + d)).enc (SPf m u) := .with (by
  have e : IntKind.wrap .i64 ((m : Int) + (d : Int)) = ((m + d : Nat) : Int) := wrapEq (by omega) (by omega)
  have h := f208 (m := m + d) hm hx hs hu hus
  exact Ev.run (.en (.w (e)) <| .en (.f (h)) <| .nil) (by kernel_rfl)) shareds
theorem c225p (m : Nat) (u : Tm) (hu : u.near (2 ^ 59)) (hus : u.size < 2 ^ 59) : ∀ (f : Fm) (d : Nat), f.near (2 ^ 59) → m + d + f.size < 2 ^ 58 → EvC G 225 [f.enc, .int .i64 (d : Int), .func 226 [] [.ptr 0 0, .ptr 1 0]] (SPf m u) false (f.put u (m + d)).enc (SPf m u)
  | .eq s t, d, hx, hb => .with (by
    obtain ⟨ns, nt⟩ := hx
    simp only [Fm.size] at hb
    have hs := c226 m d s u (by omega) ns (by omega) hu hus
    have ht := c226 m d t u (by omega) nt (by omega) hu hus
    exact Ev.run (.en (.f (f171n)) <| .sub (.en (.r (hs)) <| .sub (.en (.r (ht)) <| .sub (.nil) <| .nil) <| .nil) <| .sub (.nil) <| .sub (.nil) <| .nil) (by kernel_rfl)) shared4
  | .two .and a b, d, hx, hb => .with (by
    obtain ⟨na, nb⟩ := hx
    simp only [Fm.size] at hb
    have ha := c225p m u hu hus a d na (by omega)
    have hb := c225p m u hu hus b d nb (by omega)
    exact Ev.run (.en (.f (f171n)) <| .sub (.nil) <| .sub (.nil) <| .sub (.en (.r (ha)) <| .sub (.en (.r (hb)) <| .sub (.nil) <| .nil) <| .nil) <| .nil) (by kernel_rfl)) shared4
  | .two .imp a b, d, hx, hb => .with (by
    obtain ⟨na, nb⟩ := hx
    simp only [Fm.size] at hb
    have ha := c225p m u hu hus a d na (by omega)
    have hb := c225p m u hu hus b d nb (by omega)
    exact Ev.run (.en (.f (f171n)) <| .sub (.nil) <| .sub (.nil) <| .sub (.en (.r (ha)) <| .sub (.en (.r (hb)) <| .sub (.nil) <| .nil) <| .nil) <| .nil) (by kernel_rfl)) shared4
  | .q .all s b, d, hx, hb => .with (by
    have nb := hx
    simp only [Fm.size] at hb
    have w : IntKind.wrap .i64 ((d : Int) + 1) = ((d + 1 : Nat) : Int) := wrapEq (by omega) (by omega)
    have hb := c225p m u hu hus b (d + 1) nb (by omega)
    exact Ev.run (.en (.f (f171 s)) <| .sub (.nil) <| .sub (.nil) <| .en (.w (w)) <| .sub (.en (.r (hb)) <| .sub (.nil) <| .nil) <| .nil) (by kernel_rfl)) shared4
  | .q .ex s b, d, hx, hb => .with (by
    have nb := hx
    simp only [Fm.size] at hb
    have w : IntKind.wrap .i64 ((d : Int) + 1) = ((d + 1 : Nat) : Int) := wrapEq (by omega) (by omega)
    have hb := c225p m u hu hus b (d + 1) nb (by omega)
    exact Ev.run (.en (.f (f171 s)) <| .sub (.nil) <| .sub (.nil) <| .en (.w (w)) <| .sub (.en (.r (hb)) <| .sub (.nil) <| .nil) <| .nil) (by kernel_rfl)) shared4
  | .q .allU s b, d, hx, hb => .with (by
    have nb := hx
    simp only [Fm.size] at hb
    have w : IntKind.wrap .i64 ((d : Int) + 1) = ((d + 1 : Nat) : Int) := wrapEq (by omega) (by omega)
    have hb := c225p m u hu hus b (d + 1) nb (by omega)
    exact Ev.run (.en (.f (f171 s)) <| .sub (.nil) <| .sub (.nil) <| .en (.w (w)) <| .sub (.en (.r (hb)) <| .sub (.nil) <| .nil) <| .nil) (by kernel_rfl)) shared4
  | .q .exU s b, d, hx, hb => .with (by
    have nb := hx
    simp only [Fm.size] at hb
    have w : IntKind.wrap .i64 ((d : Int) + 1) = ((d + 1 : Nat) : Int) := wrapEq (by omega) (by omega)
    have hb := c225p m u hu hus b (d + 1) nb (by omega)
    exact Ev.run (.en (.f (f171 s)) <| .sub (.nil) <| .sub (.nil) <| .en (.w (w)) <| .sub (.en (.r (hb)) <| .sub (.nil) <| .nil) <| .nil) (by kernel_rfl)) shared4

theorem f154 {m : Nat} {f : Fm} {u : Tm} (hx : f.near (2 ^ 59)) (hs : m + f.size < 2 ^ 58) (hu : u.near (2 ^ 59)) (hus : u.size < 2 ^ 59) : EvF G 154 [f.enc, .int .i64 (m : Int), u.enc] (f.put u m).enc := ⟨flatTIT f.flat m u.flat, by
  have h := c225p m u hu hus f 0 hx (by omega)
  have hv := (f.put u m).flat
  exact Ev.run (.en (.r (h)) <| .en (.u hv) <| .nil) (by kernel_rfl)⟩
theorem f235 (x : Tm) (d : Int) : EvF G 235 [x.enc, .int .i64 d] x.enc := ⟨flatT1 x.flat d, by have h := f236 x; exact Ev.run (.en (.f (h)) <| .nil) (by kernel_rfl)⟩
theorem flatO {x : AV} (h : x.flat = true) (d : Int) : AV.flatL [x, .int .i64 d, .func 235 [] []] = true := by simp [AV.flatL, AV.flat, h]
theorem f225o : ∀ (f : Fm) (d : Nat), d + f.size < 2 ^ 58 → EvF G 225 [f.enc, .int .i64 (d : Int), .func 235 [] []] f.enc
  | .eq s t, d, hb => ⟨flatO (Fm.flat _) d, by
    simp only [Fm.size] at hb
    have hs := f235 s d
    have ht := f235 t d
    exact Ev.run (.en (.f (f171n)) <| .sub (.en (.f (hs)) <| .sub (.en (.f (ht)) <| .sub (.nil) <| .nil) <| .nil) <| .sub (.nil) <| .sub (.nil) <| .nil) (by kernel_rfl)⟩
  | .two .and a b, d, hb => ⟨flatO (Fm.flat _) d, by
    simp only [Fm.size] at hb
    have ha := f225o a d (by omega)
    have hb := f225o b d (by omega)
    exact Ev.run (.en (.f (f171n)) <| .sub (.nil) <| .sub (.nil) <| .sub (.en (.f (ha)) <| .sub (.en (.f (hb)) <| .sub (.nil) <| .nil) <| .nil) <| .nil) (by kernel_rfl)⟩
  | .two .imp a b, d, hb => ⟨flatO (Fm.flat _) d, by
    simp only [Fm.size] at hb
    have ha := f225o a d (by omega)
    have hb := f225o b d (by omega)
    exact Ev.run (.en (.f (f171n)) <| .sub (.nil) <| .sub (.nil) <| .sub (.en (.f (ha)) <| .sub (.en (.f (hb)) <| .sub (.nil) <| .nil) <| .nil) <| .nil) (by kernel_rfl)⟩
  | .q .all s b, d, hb => ⟨flatO (Fm.flat _) d, by
    simp only [Fm.size] at hb
    have w : IntKind.wrap .i64 ((d : Int) + 1) = ((d + 1 : Nat) : Int) := wrapEq (by omega) (by omega)
    have hb := f225o b (d + 1) (by omega)
    exact Ev.run (.en (.f (f171 s)) <| .sub (.nil) <| .sub (.nil) <| .en (.w (w)) <| .sub (.en (.f (hb)) <| .sub (.nil) <| .nil) <| .nil) (by kernel_rfl)⟩
  | .q .ex s b, d, hb => ⟨flatO (Fm.flat _) d, by
    simp only [Fm.size] at hb
    have w : IntKind.wrap .i64 ((d : Int) + 1) = ((d + 1 : Nat) : Int) := wrapEq (by omega) (by omega)
    have hb := f225o b (d + 1) (by omega)
    exact Ev.run (.en (.f (f171 s)) <| .sub (.nil) <| .sub (.nil) <| .en (.w (w)) <| .sub (.en (.f (hb)) <| .sub (.nil) <| .nil) <| .nil) (by kernel_rfl)⟩
  | .q .allU s b, d, hb => ⟨flatO (Fm.flat _) d, by
    simp only [Fm.size] at hb
    have w : IntKind.wrap .i64 ((d : Int) + 1) = ((d + 1 : Nat) : Int) := wrapEq (by omega) (by omega)
    have hb := f225o b (d + 1) (by omega)
    exact Ev.run (.en (.f (f171 s)) <| .sub (.nil) <| .sub (.nil) <| .en (.w (w)) <| .sub (.en (.f (hb)) <| .sub (.nil) <| .nil) <| .nil) (by kernel_rfl)⟩
  | .q .exU s b, d, hb => ⟨flatO (Fm.flat _) d, by
    simp only [Fm.size] at hb
    have w : IntKind.wrap .i64 ((d : Int) + 1) = ((d + 1 : Nat) : Int) := wrapEq (by omega) (by omega)
    have hb := f225o b (d + 1) (by omega)
    exact Ev.run (.en (.f (f171 s)) <| .sub (.nil) <| .sub (.nil) <| .en (.w (w)) <| .sub (.en (.f (hb)) <| .sub (.nil) <| .nil) <| .nil) (by kernel_rfl)⟩

theorem f172 {f : Fm} (hs : f.size < 2 ^ 57) : EvF G 172 [f.enc] f.enc := ⟨flat1 f.flat, by have h := f225o f 0 (by omega); exact Ev.run (.en (.f (h)) <| .nil) (by kernel_rfl)⟩

/-! ### tree.NearFormula, tree.CountFormula -/

abbrev SNf : Sig := [.box [.bool true] []]
theorem flatOP {x : AV} {b : Int} {p : Nat} : AV.flatL [x, .int .i64 b, .ptr p 0] = false := by simp [AV.flatL, AV.flat]
theorem c220 (x : Tm) (d : Int) (hx : x.near (2 ^ 29)) (hs : x.size < 2 ^ 59) : EvC G 220 [x.enc, .int .i64 d, .ptr 0 0] SNf false (.tuple []) SNf := .with (by have h := f152 hx hs; exact Ev.run (.en (.f (h)) <| .nil) (by kernel_rfl)) flatOP
theorem c219n : ∀ (f : Fm) (d : Nat), f.near (2 ^ 29) → d + f.size < 2 ^ 58 → EvC G 219 [f.enc, .int .i64 (d : Int), .func 220 [] [.ptr 0 0]] SNf false (.tuple []) SNf
  | .eq s t, d, hx, hb => .with (by
    obtain ⟨ns, nt⟩ := hx
    simp only [Fm.size] at hb
    have hs := c220 s d ns (by omega)
    have ht := c220 t d nt (by omega)
    exact Ev.run (.sub (.en (.r (hs)) <| .sub (.en (.r (ht)) <| .sub (.nil) <| .nil) <| .nil) <| .sub (.nil) <| .sub (.nil) <| .nil) (by kernel_rfl)) shared3
  | .two .and a b, d, hx, hb => .with (by
    obtain ⟨na, nb⟩ := hx
    simp only [Fm.size] at hb
    have ha := c219n a d na (by omega)
    have hb := c219n b d nb (by omega)
    exact Ev.run (.sub (.nil) <| .sub (.nil) <| .sub (.en (.r (ha)) <| .sub (.en (.r (hb)) <| .sub (.nil) <| .nil) <| .nil) <| .nil) (by kernel_rfl)) shared3
  | .two .imp a b, d, hx, hb => .with (by
    obtain ⟨na, nb⟩ := hx
    simp only [Fm.size] at hb
    have ha := c219n a d na (by omega)
    have hb := c219n b d nb (by omega)
    exact Ev.run (.sub (.nil) <| .sub (.nil) <| .sub (.en (.r (ha)) <| .sub (.en (.r (hb)) <| .sub (.nil) <| .nil) <| .nil) <| .nil) (by kernel_rfl)) shared3
  | .q .all s b, d, hx, hb => .with (by
    have nb := hx
    simp only [Fm.size] at hb
    have w : IntKind.wrap .i64 ((d : Int) + 1) = ((d + 1 : Nat) : Int) := wrapEq (by omega) (by omega)
    have hb := c219n b (d + 1) nb (by omega)
    exact Ev.run (.sub (.nil) <| .sub (.nil) <| .en (.w (w)) <| .sub (.en (.r (hb)) <| .sub (.nil) <| .nil) <| .nil) (by kernel_rfl)) shared3
  | .q .ex s b, d, hx, hb => .with (by
    have nb := hx
    simp only [Fm.size] at hb
    have w : IntKind.wrap .i64 ((d : Int) + 1) = ((d + 1 : Nat) : Int) := wrapEq (by omega) (by omega)
    have hb := c219n b (d + 1) nb (by omega)
    exact Ev.run (.sub (.nil) <| .sub (.nil) <| .en (.w (w)) <| .sub (.en (.r (hb)) <| .sub (.nil) <| .nil) <| .nil) (by kernel_rfl)) shared3
  | .q .allU s b, d, hx, hb => .with (by
    have nb := hx
    simp only [Fm.size] at hb
    have w : IntKind.wrap .i64 ((d : Int) + 1) = ((d + 1 : Nat) : Int) := wrapEq (by omega) (by omega)
    have hb := c219n b (d + 1) nb (by omega)
    exact Ev.run (.sub (.nil) <| .sub (.nil) <| .en (.w (w)) <| .sub (.en (.r (hb)) <| .sub (.nil) <| .nil) <| .nil) (by kernel_rfl)) shared3
  | .q .exU s b, d, hx, hb => .with (by
    have nb := hx
    simp only [Fm.size] at hb
    have w : IntKind.wrap .i64 ((d : Int) + 1) = ((d + 1 : Nat) : Int) := wrapEq (by omega) (by omega)
    have hb := c219n b (d + 1) nb (by omega)
    exact Ev.run (.sub (.nil) <| .sub (.nil) <| .en (.w (w)) <| .sub (.en (.r (hb)) <| .sub (.nil) <| .nil) <| .nil) (by kernel_rfl)) shared3

theorem f151 {f : Fm} (hx : f.near (2 ^ 29)) (hs : f.size < 2 ^ 57) : EvF G 151 [f.enc] (.bool true) := ⟨flat1 f.flat, by have h := c219n f 0 hx (by omega); exact Ev.run (.en (.r (h)) <| .nil) (by kernel_rfl)⟩

abbrev SCf (m n : Nat) : Sig := [.box [.int .i64 (m : Int)] [], .box [.int .i64 (n : Int)] []]
theorem c223 (m n d : Nat) (x : Tm) (hm : m + d < 2 ^ 58) (hn : n + x.size < 2 ^ 60) (hx : x.near (2 ^ 59)) (hs : x.size < 2 ^ 59) : EvC G 223 [x.enc, .int .i64 (d : Int), .ptr 1 0, .ptr 0 0] (SCf m n) false (.tuple []) (SCf m (n + x.cnt (m + d))) := .with (by
  have e : IntKind.wrap .i64 ((m : Int) + (d : Int)) = ((m + d : Nat) : Int) := wrapEq (by omega) (by omega)
  have k := x.cnt_le (m + d)
  have h := f224 (m := m + d) (by omega) hx hs
  have e2 : IntKind.wrap .i64 ((n : Int) + ((x.cnt (m + d) : Nat) : Int)) = ((n + x.cnt (m + d) : Nat) : Int) := wrapEq (by omega) (by omega)
  exact Ev.run (.en (.w (e)) <| .en (.f (h)) <| .en (.w (e2)) <| .nil) (by kernel_rfl)) shareds
theorem c219c (m : Nat) : ∀ (f : Fm) (d n : Nat), f.near (2 ^ 59) → m + d + n + f.size < 2 ^ 58 → EvC G 219 [f.enc, .int .i64 (d : Int), .func 223 [] [.ptr 1 0, .ptr 0 0]] (SCf m n) false (.tuple []) (SCf m (n + f.cnt (m + d)))
  | .eq s t, d, n, hx, hb => .with (by
    obtain ⟨ns, nt⟩ := hx
    simp only [Fm.size] at hb
    have ks := s.cnt_le (m + d)
    have kt := t.cnt_le (m + d)
    have hs := c223 m n d s (by omega) (by omega) ns (by omega)
    have ht := c223 m (n + s.cnt (m + d)) d t (by omega) (by omega) nt (by omega)
    rw [show n + (Fm.eq s t).cnt (m + d) = ((n + s.cnt (m + d)) + t.cnt (m + d)) by simp only [Fm.cnt]; omega]
    exact Ev.run (.sub (.en (.r (hs)) <| .sub (.en (.r (ht)) <| .sub (.nil) <| .nil) <| .nil) <| .sub (.nil) <| .sub (.nil) <| .nil) (by kernel_rfl)) shared4
  | .two .and a b, d, n, hx, hb => .with (by
    obtain ⟨na, nb⟩ := hx
    simp only [Fm.size] at hb
    have ka := a.cnt_le (m + d)
    have kb := b.cnt_le (m + d)
    have ha := c219c m a d n na (by omega)
    have hb := c219c m b d (n + a.cnt (m + d)) nb (by omega)
    rw [show n + (Fm.two .and a b).cnt (m + d) = ((n + a.cnt (m + d)) + b.cnt (m + d)) by simp only [Fm.cnt]; omega]
    exact Ev.run (.sub (.nil) <| .sub (.nil) <| .sub (.en (.r (ha)) <| .sub (.en (.r (hb)) <| .sub (.nil) <| .nil) <| .nil) <| .nil) (by kernel_rfl)) shared4
  | .two .imp a b, d, n, hx, hb => .with (by
    obtain ⟨na, nb⟩ := hx
    simp only [Fm.size] at hb
    have ka := a.cnt_le (m + d)
    have kb := b.cnt_le (m + d)
    have ha := c219c m a d n na (by omega)
    have hb := c219c m b d (n + a.cnt (m + d)) nb (by omega)
    rw [show n + (Fm.two .imp a b).cnt (m + d) = ((n + a.cnt (m + d)) + b.cnt (m + d)) by simp only [Fm.cnt]; omega]
    exact Ev.run (.sub (.nil) <| .sub (.nil) <| .sub (.en (.r (ha)) <| .sub (.en (.r (hb)) <| .sub (.nil) <| .nil) <| .nil) <| .nil) (by kernel_rfl)) shared4
  | .q .all s b, d, n, hx, hb => .with (by
    have nb := hx
    simp only [Fm.size] at hb
    have w : IntKind.wrap .i64 ((d : Int) + 1) = ((d + 1 : Nat) : Int) := wrapEq (by omega) (by omega)
    have h := c219c m b (d + 1) n nb (by omega)
    exact Ev.run (.sub (.nil) <| .sub (.nil) <| .en (.w (w)) <| .sub (.en (.r (h)) <| .sub (.nil) <| .nil) <| .nil) (by kernel_rfl)) shared4
  | .q .ex s b, d, n, hx, hb => .with (by
    have nb := hx
    simp only [Fm.size] at hb
    have w : IntKind.wrap .i64 ((d : Int) + 1) = ((d + 1 : Nat) : Int) := wrapEq (by omega) (by omega)
    have h := c219c m b (d + 1) n nb (by omega)
    exact Ev.run (.sub (.nil) <| .sub (.nil) <| .en (.w (w)) <| .sub (.en (.r (h)) <| .sub (.nil) <| .nil) <| .nil) (by kernel_rfl)) shared4
  | .q .allU s b, d, n, hx, hb => .with (by
    have nb := hx
    simp only [Fm.size] at hb
    have w : IntKind.wrap .i64 ((d : Int) + 1) = ((d + 1 : Nat) : Int) := wrapEq (by omega) (by omega)
    have h := c219c m b (d + 1) n nb (by omega)
    exact Ev.run (.sub (.nil) <| .sub (.nil) <| .en (.w (w)) <| .sub (.en (.r (h)) <| .sub (.nil) <| .nil) <| .nil) (by kernel_rfl)) shared4
  | .q .exU s b, d, n, hx, hb => .with (by
    have nb := hx
    simp only [Fm.size] at hb
    have w : IntKind.wrap .i64 ((d : Int) + 1) = ((d + 1 : Nat) : Int) := wrapEq (by omega) (by omega)
    have h := c219c m b (d + 1) n nb (by omega)
    exact Ev.run (.sub (.nil) <| .sub (.nil) <| .en (.w (w)) <| .sub (.en (.r (h)) <| .sub (.nil) <| .nil) <| .nil) (by kernel_rfl)) shared4

theorem f153 {f : Fm} {m : Nat} (hx : f.near (2 ^ 59)) (hs : m + f.size < 2 ^ 57) : EvF G 153 [f.enc, .int .i64 (m : Int)] (.int .i64 (f.cnt m : Nat)) := ⟨flatT1 f.flat m, by
  have h := c219c m f 0 0 hx (by omega)
  simp only [Nat.zero_add, Nat.add_zero] at h
  exact Ev.run (.en (.r (h)) <| .nil) (by kernel_rfl)⟩

/-- formula.Put -/
theorem f85 {f : Fm} {u : Tm} {m : Nat} (hf : f.fit) (hu : u.fit) (hm : m ≤ 4096) (hfn : f.near (2 ^ 29)) (hun : u.near (2 ^ 29)) (hs : f.size + f.cnt m * (u.size - 1) ≤ 4096) :
    EvF G 85 [f.enc, .int .i64 (m : Int), u.enc] (.tuple [(f.put u m).enc, .int .i64 0]) := ⟨flatTIT f.flat m u.flat, by
  have h1 := hf.2; have h2 := hu.2; have h3 := u.size_pos
  have k1 := f148 hf
  have k2 := f150 hu
  have k3 := f151 hfn (by omega)
  have k4 := f152 hun (by omega)
  have k5 := f153 (m := m) (Fm.near_mono (by decide) f hfn) (by omega)
  have k6 := f154 (m := m) (Fm.near_mono (by decide) f hfn) (by omega) (Tm.near_mono (by decide) u hun) (by omega)
  have q1 : decide ((0 : Int) ≤ (m : Int)) = true := decide_eq_true (by omega)
  have q2 : decide ((m : Int) ≤ 4096) = true := decide_eq_true (by omega)
  have e1 : IntKind.wrap .i64 ((u.size : Int) - 1) = ((u.size - 1 : Nat) : Int) := wrapEq (by omega) (by omega)
  have e2 : IntKind.wrap .i64 ((f.cnt m : Nat) * ((u.size - 1 : Nat) : Int)) = ((f.cnt m * (u.size - 1) : Nat) : Int) := wrapEq (by simp) (by omega)
  have e3 : IntKind.wrap .i64 ((f.size : Int) + ((f.cnt m * (u.size - 1) : Nat) : Int)) = ((f.size + f.cnt m * (u.size - 1) : Nat) : Int) := wrapEq (by omega) (by omega)
  have q3 : decide ((4096 : Int) < ((f.size + f.cnt m * (u.size - 1) : Nat) : Int)) = false := decide_eq_false (by omega)
  exact Ev.run (.en (.f (k1)) <| .sub (.en (.sk 8) <| .en (.v q2) <| .nil) <| .en (.f (k2)) <| .en (.f (k3)) <| .en (.f (k4)) <| .en (.f (k5)) <| .en (.w (e1)) <| .en (.w (e2)) <| .en (.w (e3)) <| .en (.v q3) <| .en (.f (k6)) <| .nil) (by kernel_rfl)⟩
/-- formula.Put, when there would be too much -/
theorem f85x {f : Fm} {u : Tm} {m : Nat} (hf : f.fit) (hu : u.fit) (hm : m ≤ 4096) (hfn : f.near (2 ^ 29)) (hun : u.near (2 ^ 29)) (hs : ¬ f.size + f.cnt m * (u.size - 1) ≤ 4096) :
    EvF G 85 [f.enc, .int .i64 (m : Int), u.enc] (.tuple [fnode 0 0 [] [] [], .int .i64 4]) := ⟨flatTIT f.flat m u.flat, by
  have h1 := hf.2; have h2 := hu.2; have h3 := u.size_pos; have h4 := f.cnt_le m
  have hbig : f.cnt m * (u.size - 1) ≤ 4096 * 4096 := Nat.mul_le_mul (by omega) (by omega)
  have k1 := f148 hf
  have k2 := f150 hu
  have k3 := f151 hfn (by omega)
  have k4 := f152 hun (by omega)
  have k5 := f153 (m := m) (Fm.near_mono (by decide) f hfn) (by omega)
  have q1 : decide ((0 : Int) ≤ (m : Int)) = true := decide_eq_true (by omega)
  have q2 : decide ((m : Int) ≤ 4096) = true := decide_eq_true (by omega)
  have e1 : IntKind.wrap .i64 ((u.size : Int) - 1) = ((u.size - 1 : Nat) : Int) := wrapEq (by omega) (by omega)
  have e2 : IntKind.wrap .i64 ((f.cnt m : Nat) * ((u.size - 1 : Nat) : Int)) = ((f.cnt m * (u.size - 1) : Nat) : Int) := wrapEq (by simp) (by omega)
  have e3 : IntKind.wrap .i64 ((f.size : Int) + ((f.cnt m * (u.size - 1) : Nat) : Int)) = ((f.size + f.cnt m * (u.size - 1) : Nat) : Int) := wrapEq (by omega) (by omega)
  have q3 : decide ((4096 : Int) < ((f.size + f.cnt m * (u.size - 1) : Nat) : Int)) = true := decide_eq_true (by omega)
  exact Ev.run (.en (.f (k1)) <| .sub (.en (.sk 8) <| .en (.v q2) <| .nil) <| .en (.f (k2)) <| .en (.f (k3)) <| .en (.f (k4)) <| .en (.f (k5)) <| .en (.w (e1)) <| .en (.w (e2)) <| .en (.w (e3)) <| .en (.v q3) <| .nil) (by kernel_rfl)⟩
end Go.AI

