/- Contracts: formulas typed; classes of formulas. -/
import Derived.Test.YtdpamhejneicdaaGreatDoorZH8
namespace Go.AI
set_option linter.unusedVariables false
set_option linter.unusedSimpArgs false
open Go
set_option maxRecDepth 100000
set_option maxHeartbeats 4000000

inductive HasF : List Ty → Fm → Prop where
  | eq {g : List Ty} {s t : Tm} (h1 : HasTy g s .nat) (h2 : HasTy g t .nat) : HasF g (.eq s t)
  | two {g : List Ty} {j : JK} {a b : Fm} (h1 : HasF g a) (h2 : HasF g b) : HasF g (.two j a b)
  | q {g : List Ty} {j : QK} {s : Ty} {b : Fm} (hs : s.ok) (h : HasF (g ++ [s]) b) : HasF g (.q j s b)

theorem c168 {g : List Ty} {f : Fm} (h : HasF g f) : ∀ (L : List AV), L = g.map Ty.szd → (∀ s ∈ g, s.ok) → g.length + f.size < 4294967296 → EvF G 168 [.slice 3 L, f.enc] (.int .i64 0) := by
  induction h with
  | @eq g s t h1 h2 =>
    intro L hL hg hsz
    have hfL : AV.flatL L = true := by rw [hL]; exact ctx_flat g
    refine ⟨flatCT hfL (Fm.flat _), ?_⟩
    simp only [Fm.size] at hsz
    have k1 := c258 h1 L hL hg (by omega)
    have k2 := c258 h2 L hL hg (by omega)
    exact Ev.run (.sub (.subF (args := [.slice 3 L, s.enc]) (by simp [AV.flatL, AV.flat, Ty.flat, Ty.flata, Tm.flat, Tm.flatu, Fm.flat, Ty.szd_flat, hfL]) (.subF (args := [.slice 3 L, s.enc, .int .i64 1]) (by simp [AV.flatL, AV.flat, Ty.flat, Ty.flata, Tm.flat, Tm.flatu, Fm.flat, Ty.szd_flat, hfL]) (.en (.f (k1)) <| .sub (.nil) <| .nil) <| .nil) <| .sub (.subF (args := [.slice 3 L, t.enc]) (by simp [AV.flatL, AV.flat, Ty.flat, Ty.flata, Tm.flat, Tm.flatu, Fm.flat, Ty.szd_flat, hfL]) (.subF (args := [.slice 3 L, t.enc, .int .i64 1]) (by simp [AV.flatL, AV.flat, Ty.flat, Ty.flata, Tm.flat, Tm.flatu, Fm.flat, Ty.szd_flat, hfL]) (.en (.f (k2)) <| .sub (.nil) <| .nil) <| .nil) <| .sub (.nil) <| .nil) <| .nil) <| .nil) (by kernel_rfl)
  | @two g j a b h1 h2 ih1 ih2 =>
    intro L hL hg hsz
    have hfL : AV.flatL L = true := by rw [hL]; exact ctx_flat g
    refine ⟨flatCT hfL (Fm.flat _), ?_⟩
    simp only [Fm.size] at hsz
    have k1 := ih1 L hL hg (by omega)
    have k2 := ih2 L hL hg (by omega)
    cases j <;> exact Ev.run (.sub (.en (.f (k1)) <| .sub (.en (.f (k2)) <| .sub (.nil) <| .nil) <| .nil) <| .nil) (by kernel_rfl)
  | @q g j s b hs h ih =>
    intro L hL hg hsz
    have hfL : AV.flatL L = true := by rw [hL]; exact ctx_flat g
    refine ⟨flatCT hfL (Fm.flat _), ?_⟩
    simp only [Fm.size] at hsz
    have hl : L.length = g.length := by rw [hL]; simp
    have h1 := f232 hs
    have q0 : (decide (0 ≤ L.length) && decide (L.length ≤ L.length) && decide (L.length = L.length)) = true := by simp
    have q1 : decide ((((List.length (List.take ((List.length L) - 0) (List.drop 0 L))) + 1) : Nat) ≤ 4294967296) = true := decide_eq_true (by rw [ctx_cut]; omega)
    have k := ih (List.take ((List.length L) - 0) (List.drop 0 L) ++ [s.szd]) (by rw [ctx_cut, hL]; simp) (by intro x hx; rcases List.mem_append.1 hx with h | h; exact hg x h; simp at h; rw [h]; exact hs) (by simp; omega)
    cases j <;> exact Ev.run (.subF (args := [.slice 3 L, .slice 2 [s.enc]]) (by simp [AV.flatL, AV.flat, Ty.flat, Ty.flata, Tm.flat, Tm.flatu, Fm.flat, Ty.szd_flat, hfL]) (.en (.u q0) <| .subF (args := [.slice 2 [s.enc]]) (by simp [AV.flatL, AV.flat, Ty.flat, Ty.flata, Tm.flat, Tm.flatu, Fm.flat, Ty.szd_flat, hfL]) (.sub (.en (.f (h1)) <| .sub (.nil) <| .nil) <| .nil) <| .en (.u q1) <| .nil) <| .sub (.en (.f (k)) <| .sub (.nil) <| .nil) <| .nil) (by kernel_rfl)

/-- formula.Typed of a closed formula -/
theorem f107 {f : Fm} (hf : f.fit) (h : HasF [] f) : EvF G 107 [.slice 2 [], f.enc] (.int .i64 0) := ⟨by simp [AV.flatL, AV.flat, f.flat], by
  have h1 := f82 hf
  have hs := hf.2
  have h2 := c168 h [] rfl (by simp) (by simp; omega)
  exact Ev.run (.en (.f (f166n)) <| .en (.f (h1)) <| .en (.f (f167n)) <| .en (.f (h2)) <| .nil) (by kernel_rfl)⟩
/-- terms.TypeOf of a closed term -/
theorem f197 {x : Tm} {t : Ty} (hx : x.fit) (h : HasTy [] x t) : EvF G 197 [.slice 2 [], x.enc] (.tuple [t.enc, .int .i64 0]) := ⟨by simp [AV.flatL, AV.flat, x.flat], by
  have h1 := f242 hx
  have hs := hx.2
  have h2 := c258 h [] rfl (by simp) (by simp; omega)
  have h3 := f171 t
  exact Ev.run (.en (.f (f166n)) <| .en (.f (h1)) <| .en (.f (f167n)) <| .en (.f (h2)) <| .en (.f (h3)) <| .nil) (by kernel_rfl)⟩

/-! ### Decidable formulas -/

inductive DFm where
  | eq (s t : Tm)
  | two (j : JK) (a b : DFm)
  | bnd (all : Bool) (t : Tm) (b : DFm)
  deriving DecidableEq
def DFm.fm : DFm → Fm
  | .eq s t => .eq s t
  | .two j a b => .two j a.fm b.fm
  | .bnd all t b => bndM all t b.fm

theorem Tm.cnt_up : ∀ (x : Tm) (m : Nat), (x.up 1 m).cnt m = 0
  | .var i, m => by simp only [Tm.up, Tm.cnt]; split <;> split <;> omega
  | .lam _ a, m => by simp only [Tm.up, Tm.cnt]; exact cnt_up a (m + 1)
  | .app a b, m => by simp only [Tm.up, Tm.cnt]; rw [cnt_up a, cnt_up b]
  | .zero, m => rfl
  | .succ a, m => by simp only [Tm.up, Tm.cnt]; exact cnt_up a m
  | .recN _ a b c, m => by simp only [Tm.up, Tm.cnt]; rw [cnt_up a, cnt_up b, cnt_up c]
  | .nil, m => rfl
  | .cons a b, m => by simp only [Tm.up, Tm.cnt]; rw [cnt_up a, cnt_up b]
  | .fold _ a b c, m => by simp only [Tm.up, Tm.cnt]; rw [cnt_up a, cnt_up b, cnt_up c]
  | .pair a b, m => by simp only [Tm.up, Tm.cnt]; rw [cnt_up a, cnt_up b]
  | .fst a, m => by simp only [Tm.up, Tm.cnt]; exact cnt_up a m
  | .snd a, m => by simp only [Tm.up, Tm.cnt]; exact cnt_up a m
  | .unit, m => rfl
theorem Tm.put_up (u : Tm) : ∀ (x : Tm) (m : Nat), (x.up 1 m).put u m = x
  | .var i, m => by
    simp only [Tm.up, Tm.put]
    split
    · rw [if_neg (by omega), if_pos (by omega)]; simp
    · rw [if_neg (by omega), if_neg (by omega)]
  | .lam s a, m => by simp only [Tm.up, Tm.put]; rw [put_up u a]
  | .app a b, m => by simp only [Tm.up, Tm.put]; rw [put_up u a, put_up u b]
  | .zero, m => rfl
  | .succ a, m => by simp only [Tm.up, Tm.put]; rw [put_up u a]
  | .recN _ a b c, m => by simp only [Tm.up, Tm.put]; rw [put_up u a, put_up u b, put_up u c]
  | .nil, m => rfl
  | .cons a b, m => by simp only [Tm.up, Tm.put]; rw [put_up u a, put_up u b]
  | .fold _ a b c, m => by simp only [Tm.up, Tm.put]; rw [put_up u a, put_up u b, put_up u c]
  | .pair a b, m => by simp only [Tm.up, Tm.put]; rw [put_up u a, put_up u b]
  | .fst a, m => by simp only [Tm.up, Tm.put]; rw [put_up u a]
  | .snd a, m => by simp only [Tm.up, Tm.put]; rw [put_up u a]
  | .unit, m => rfl
theorem Tm.up_near (N : Nat) : ∀ (x : Tm) (m : Nat), x.near N → (x.up 1 m).near (N + 1)
  | .var i, m, h => by have h' : i ≤ N := h; show (if m ≤ i then i + 1 else i) ≤ N + 1; split <;> omega
  | .lam s a, m, h => up_near N a _ h
  | .app a b, m, h => ⟨up_near N a _ h.1, up_near N b _ h.2⟩
  | .zero, m, h => trivial
  | .succ a, m, h => up_near N a m h
  | .recN _ a b c, m, h => ⟨up_near N a _ h.1, up_near N b _ h.2.1, up_near N c _ h.2.2⟩
  | .nil, m, h => trivial
  | .cons a b, m, h => ⟨up_near N a _ h.1, up_near N b _ h.2⟩
  | .fold _ a b c, m, h => ⟨up_near N a _ h.1, up_near N b _ h.2.1, up_near N c _ h.2.2⟩
  | .pair a b, m, h => ⟨up_near N a _ h.1, up_near N b _ h.2⟩
  | .fst a, m, h => up_near N a m h
  | .snd a, m, h => up_near N a m h
  | .unit, m, h => trivial

abbrev uand (x y : Int) : Int := IntKind.wrap .u8 (BitVec.ofInt 8 x &&& BitVec.ofInt 8 y).toNat
abbrev uor (x y : Int) : Int := IntKind.wrap .u8 (BitVec.ofInt 8 x ||| BitVec.ofInt 8 y).toNat
def DFm.flags : DFm → Int
  | .eq _ _ => 6
  | .two .and a b => uor (uand (uand a.flags b.flags) 6) (uand (uor b.flags a.flags) 1)
  | .two .imp a b => uor (uand (uand a.flags b.flags) 6) (uand b.flags 1)
  | .bnd true _ b => uor (uand (uor (uand (uand 6 b.flags) 6) (uand b.flags 1)) 1) (uand b.flags 4)
  | .bnd false _ b => uor (uand (uor (uor (uand (uand 6 b.flags) 6) (uand (uor b.flags 6) 1)) 1) 1) (uand b.flags 4)
theorem DFm.flags_in : ∀ d : DFm, d.flags = 4 ∨ d.flags = 5 ∨ d.flags = 6 ∨ d.flags = 7
  | .eq _ _ => by simp [DFm.flags]
  | .two .and a b => by
    simp only [DFm.flags]
    rcases flags_in a with h | h | h | h <;> rcases flags_in b with h2 | h2 | h2 | h2 <;> rw [h, h2] <;> decide
  | .two .imp a b => by
    simp only [DFm.flags]
    rcases flags_in a with h | h | h | h <;> rcases flags_in b with h2 | h2 | h2 | h2 <;> rw [h, h2] <;> decide
  | .bnd true _ b => by
    simp only [DFm.flags]
    rcases flags_in b with h2 | h2 | h2 | h2 <;> rw [h2] <;> decide
  | .bnd false _ b => by
    simp only [DFm.flags]
    rcases flags_in b with h2 | h2 | h2 | h2 <;> rw [h2] <;> decide

theorem f207 (all : Bool) {t : Tm} {b : Fm} (hn : t.near (2 ^ 29)) (hs : t.size < 2 ^ 50) : EvF G 207 [(bndM all t b).enc] (.tuple [.bool all, (t.up 1 0).enc, b.enc, .bool true]) := ⟨flat1 (Fm.flat _), by
  have h1 := f224 (x := t.up 1 0) (m := 0) (by omega) (Tm.near_mono (by decide) _ (Tm.up_near _ t 0 hn)) (by rw [Tm.up_size]; omega)
  rw [Tm.cnt_up] at h1
  have h2 := f266 (.var 0) (t.up 1 0)
  have h3 := f265 (lessM (.var 0) (t.up 1 0))
  have hv : EvF G 267 [.int .i64 0] (Tm.var 0).enc := f267 0
  cases all <;> exact Ev.run (.sub (.nil) <| .en (.f (h1)) <| .en (.f (hv)) <| .en (.f (h2)) <| .en (.f (h3)) <| .nil) (by kernel_rfl)⟩

/-- All indices are small, all terms are not too large. -/
def DFm.wf : DFm → Prop
  | .eq s t => True
  | .two _ a b => a.wf ∧ b.wf
  | .bnd _ t b => t.near (2 ^ 29) ∧ t.size < 2 ^ 50 ∧ b.wf
theorem f170 : ∀ d : DFm, d.wf → EvF G 170 [d.fm.enc] (.int .u8 d.flags)
  | .eq s t, h => ⟨flat1 (Fm.flat _), by exact Ev.run (.nil) (by kernel_rfl)⟩
  | .two .and a b, h => ⟨flat1 (Fm.flat _), by have ha := f170 a h.1; have hb := f170 b h.2; exact Ev.run (.en (.f (hb)) <| .en (.f (ha)) <| .nil) (by kernel_rfl)⟩
  | .two .imp a b, h => ⟨flat1 (Fm.flat _), by have ha := f170 a h.1; have hb := f170 b h.2; exact Ev.run (.en (.f (hb)) <| .en (.f (ha)) <| .nil) (by kernel_rfl)⟩
  | .bnd true t b, h => ⟨flat1 (Fm.flat _), by
    have hb := f170 b h.2.2
    have h1 := f207 true (t := t) (b := b.fm) h.1 h.2.1
    have fl := flat1 (Fm.flat (.two .imp (lessM (.var 0) (t.up 1 0)) b.fm))
    have e1 : EvF G 170 [(lessM (.var 0) (t.up 1 0)).enc] (.int .u8 6) := ⟨flat1 (Fm.flat _), by exact Ev.run (.nil) (by kernel_rfl)⟩
    exact Ev.run (.subF fl (.en (.f (hb)) <| .en (.f (e1)) <| .nil) <| .en (.f (h1)) <| .en (.f (hb)) <| .nil) (by kernel_rfl)⟩
  | .bnd false t b, h => ⟨flat1 (Fm.flat _), by
    have hb := f170 b h.2.2
    have h1 := f207 false (t := t) (b := b.fm) h.1 h.2.1
    have fl := flat1 (Fm.flat (.two .and (lessM (.var 0) (t.up 1 0)) b.fm))
    have e1 : EvF G 170 [(lessM (.var 0) (t.up 1 0)).enc] (.int .u8 6) := ⟨flat1 (Fm.flat _), by exact Ev.run (.nil) (by kernel_rfl)⟩
    exact Ev.run (.subF fl (.en (.f (hb)) <| .en (.f (e1)) <| .nil) <| .en (.f (h1)) <| .en (.f (hb)) <| .nil) (by kernel_rfl)⟩
/-- class.Decidable -/
theorem f134 {d : DFm} (hf : d.fm.fit) (h : d.wf) : EvF G 134 [d.fm.enc] (.tuple [.bool true, .int .i64 0]) := ⟨flat1 (Fm.flat _), by
  have h1 := f82 hf
  have h2 := f170 d h
  have q : ((uand d.flags 4 : Int) != 0) = true := by rcases d.flags_in with h | h | h | h <;> rw [h] <;> decide
  exact Ev.run (.subF (args := [d.fm.enc, .int .u8 4]) (by simp [AV.flatL, AV.flat, Ty.flat, Ty.flata, Tm.flat, Tm.flatu, Fm.flat, Ty.szd_flat]) (.en (.f (h1)) <| .en (.f (h2)) <| .en (.v q) <| .nil) <| .nil) (by kernel_rfl)⟩
/-- class.Bound -/
theorem f135 (all : Bool) {t : Tm} {b : Fm} (hf : (bndM all t b).fit) (hn : t.near (2 ^ 29)) : EvF G 135 [(bndM all t b).enc] (.tuple [.bool all, t.enc, b.enc, .bool true]) := ⟨flat1 (Fm.flat _), by
  have hs := hf.2
  rw [bndM_size] at hs
  have h1 := f82 hf
  have h2 := f207 all (t := t) (b := b) hn (by omega)
  have h3 := f208n (m := 0) (x := t.up 1 0) (by omega) (Tm.near_mono (by decide) _ (Tm.up_near _ t 0 hn)) (by rw [Tm.up_size]; omega) (Tm.cnt_up t 0)
  rw [Tm.put_up] at h3
  have h4 := f172 (f := b) (by omega)
  exact Ev.run (.en (.f (h1)) <| .en (.f (h2)) <| .en (.f (h3)) <| .en (.f (h4)) <| .nil) (by kernel_rfl)⟩
end Go.AI

