/- Contracts: ref07, ref08. -/
import Derived.Test.YtdpamhejneicdaaGreatDoorZH6
namespace Go.AI
set_option linter.unusedVariables false
set_option linter.unusedSimpArgs false
open Go
set_option maxRecDepth 100000
set_option maxHeartbeats 4000000

theorem flatk2' (k : Int) {a b : AV} (h : a.flat = true) (h2 : b.flat = true) : AV.flatL [.int .i64 k, a, b] = true := by simp [AV.flatL, AV.flat, h, h2]
theorem f69 : ∀ f : Fm, EvF G 69 [f.enc] f.enc
  | .eq s t => ⟨flat1 (Fm.flat _), by
    exact Ev.run (.en (.f (f106n)) <| .sub (.en (.f (f132 s)) <| .sub (.en (.f (f132 t)) <| .sub (.nil) <| .nil) <| .nil) <| .sub (.nil) <| .nil) (by kernel_rfl)⟩
  | .two .and a b => ⟨flat1 (Fm.flat _), by
    have ha := f69 a
    have hb := f69 b
    exact Ev.run (.en (.f (f106n)) <| .sub (.nil) <| .sub (.en (.f (ha)) <| .sub (.en (.f (hb)) <| .sub (.nil) <| .nil) <| .nil) <| .nil) (by kernel_rfl)⟩
  | .two .imp a b => ⟨flat1 (Fm.flat _), by
    have ha := f69 a
    have hb := f69 b
    exact Ev.run (.en (.f (f106n)) <| .sub (.nil) <| .sub (.en (.f (ha)) <| .sub (.en (.f (hb)) <| .sub (.nil) <| .nil) <| .nil) <| .nil) (by kernel_rfl)⟩
  | .q .all s b => ⟨flat1 (Fm.flat _), by
    have hb := f69 b
    exact Ev.run (.en (.f (f106 s)) <| .sub (.nil) <| .sub (.en (.f (hb)) <| .sub (.nil) <| .nil) <| .nil) (by kernel_rfl)⟩
  | .q .ex s b => ⟨flat1 (Fm.flat _), by
    have hb := f69 b
    exact Ev.run (.en (.f (f106 s)) <| .sub (.nil) <| .sub (.en (.f (hb)) <| .sub (.nil) <| .nil) <| .nil) (by kernel_rfl)⟩
  | .q .allU s b => ⟨flat1 (Fm.flat _), by
    have hb := f69 b
    exact Ev.run (.en (.f (f106 s)) <| .sub (.nil) <| .sub (.en (.f (hb)) <| .sub (.nil) <| .nil) <| .nil) (by kernel_rfl)⟩
  | .q .exU s b => ⟨flat1 (Fm.flat _), by
    have hb := f69 b
    exact Ev.run (.en (.f (f106 s)) <| .sub (.nil) <| .sub (.en (.f (hb)) <| .sub (.nil) <| .nil) <| .nil) (by kernel_rfl)⟩

theorem f62 (s t : Tm) : EvF G 62 [s.enc, t.enc] (Fm.eq s t).enc := ⟨flat2 s.flat t.flat, by exact Ev.run (.en (.f (f132 s)) <| .en (.f (f132 t)) <| .nil) (by kernel_rfl)⟩
theorem f20a (a b : Fm) : EvF G 20 [.int .i64 2, a.enc, b.enc] (Fm.two .and a b).enc := ⟨flatk2' 2 a.flat b.flat, by have h1 := f69 a; have h2 := f69 b; exact Ev.run (.en (.f (h1)) <| .en (.f (h2)) <| .nil) (by kernel_rfl)⟩
theorem f20i (a b : Fm) : EvF G 20 [.int .i64 3, a.enc, b.enc] (Fm.two .imp a b).enc := ⟨flatk2' 3 a.flat b.flat, by have h1 := f69 a; have h2 := f69 b; exact Ev.run (.en (.f (h1)) <| .en (.f (h2)) <| .nil) (by kernel_rfl)⟩
theorem f81 (j : QK) (s : Ty) (b : Fm) : EvF G 81 [.int .i64 j.k, s.enc, b.enc] (Fm.q j s b).enc := ⟨flatk2' _ s.flat b.flat, by have h1 := f69 b; have h2 := f106 s; exact Ev.run (.en (.f (h2)) <| .en (.f (h1)) <| .nil) (by kernel_rfl)⟩
theorem f133 : ∀ f : Fm, f.tok → EvF G 133 [f.enc] (.bool true)
  | .eq s t, ht => ⟨flat1 (Fm.flat _), by
    obtain ⟨ts, tt⟩ := ht
    have hfl := flat1 (Fm.flat (Fm.eq s t))
    have hs := f141 s ts
    have ht := f141 t tt
    exact Ev.run (.en (.f (f204n)) <| .en (.f (hs)) <| .en (.f (ht)) <| .nil) (by kernel_rfl)⟩
  | .two .and a b, ht => ⟨flat1 (Fm.flat _), by
    obtain ⟨ta, tb⟩ := ht
    have hfl := flat1 (Fm.flat (Fm.two .and a b))
    have ha := f133 a ta
    have hb := f133 b tb
    exact Ev.run (.en (.f (f204n)) <| .en (.f (ha)) <| .en (.f (hb)) <| .nil) (by kernel_rfl)⟩
  | .two .imp a b, ht => ⟨flat1 (Fm.flat _), by
    obtain ⟨ta, tb⟩ := ht
    have hfl := flat1 (Fm.flat (Fm.two .imp a b))
    have ha := f133 a ta
    have hb := f133 b tb
    exact Ev.run (.en (.f (f204n)) <| .en (.f (ha)) <| .en (.f (hb)) <| .nil) (by kernel_rfl)⟩
  | .q .all s b, ht => ⟨flat1 (Fm.flat _), by
    obtain ⟨hs, tb⟩ := ht
    have hfl := flat1 (Fm.flat (Fm.q .all s b))
    have hb := f133 b tb
    have hc := f183 hs
    exact Ev.run (.sub (.nil) <| .en (.f (hc)) <| .en (.f (hb)) <| .nil) (by kernel_rfl)⟩
  | .q .ex s b, ht => ⟨flat1 (Fm.flat _), by
    obtain ⟨hs, tb⟩ := ht
    have hfl := flat1 (Fm.flat (Fm.q .ex s b))
    have hb := f133 b tb
    have hc := f183 hs
    exact Ev.run (.sub (.nil) <| .en (.f (hc)) <| .en (.f (hb)) <| .nil) (by kernel_rfl)⟩
  | .q .allU s b, ht => ⟨flat1 (Fm.flat _), by
    obtain ⟨hs, tb⟩ := ht
    have hfl := flat1 (Fm.flat (Fm.q .allU s b))
    have hb := f133 b tb
    have hc := f183 hs
    exact Ev.run (.sub (.nil) <| .en (.f (hc)) <| .en (.f (hb)) <| .nil) (by kernel_rfl)⟩
  | .q .exU s b, ht => ⟨flat1 (Fm.flat _), by
    obtain ⟨hs, tb⟩ := ht
    have hfl := flat1 (Fm.flat (Fm.q .exU s b))
    have hb := f133 b tb
    have hc := f183 hs
    exact Ev.run (.sub (.nil) <| .en (.f (hc)) <| .en (.f (hb)) <| .nil) (by kernel_rfl)⟩
theorem f78 : ∀ f : Fm, f.size < 2 ^ 60 → EvF G 78 [f.enc] (.int .i64 f.size)
  | .eq s t, h => ⟨flat1 (Fm.flat _), by
    simp only [Fm.size] at h
    have hs := f77 s (by omega)
    have ht := f77 t (by omega)
    have e0 : IntKind.wrap .i64 (1 + (s.size : Int)) = ((s.size + 1 : Nat) : Int) := wrapEq (by omega) (by omega)
    have e1 : IntKind.wrap .i64 (((s.size + 1 : Nat) : Int) + (t.size : Int)) = ((s.size + t.size + 1 : Nat) : Int) := wrapEq (by omega) (by omega)
    exact Ev.run (.sub (.en (.f (hs)) <| .en (.w (e0)) <| .sub (.en (.f (ht)) <| .en (.w (e1)) <| .sub (.nil) <| .nil) <| .nil) <| .sub (.nil) <| .nil) (by kernel_rfl)⟩
  | .two .and a b, h => ⟨flat1 (Fm.flat _), by
    simp only [Fm.size] at h
    have ha := f78 a (by omega)
    have hb := f78 b (by omega)
    have e0 : IntKind.wrap .i64 (1 + (a.size : Int)) = ((a.size + 1 : Nat) : Int) := wrapEq (by omega) (by omega)
    have e1 : IntKind.wrap .i64 (((a.size + 1 : Nat) : Int) + (b.size : Int)) = ((a.size + b.size + 1 : Nat) : Int) := wrapEq (by omega) (by omega)
    exact Ev.run (.sub (.nil) <| .sub (.en (.f (ha)) <| .en (.w (e0)) <| .sub (.en (.f (hb)) <| .en (.w (e1)) <| .sub (.nil) <| .nil) <| .nil) <| .nil) (by kernel_rfl)⟩
  | .two .imp a b, h => ⟨flat1 (Fm.flat _), by
    simp only [Fm.size] at h
    have ha := f78 a (by omega)
    have hb := f78 b (by omega)
    have e0 : IntKind.wrap .i64 (1 + (a.size : Int)) = ((a.size + 1 : Nat) : Int) := wrapEq (by omega) (by omega)
    have e1 : IntKind.wrap .i64 (((a.size + 1 : Nat) : Int) + (b.size : Int)) = ((a.size + b.size + 1 : Nat) : Int) := wrapEq (by omega) (by omega)
    exact Ev.run (.sub (.nil) <| .sub (.en (.f (ha)) <| .en (.w (e0)) <| .sub (.en (.f (hb)) <| .en (.w (e1)) <| .sub (.nil) <| .nil) <| .nil) <| .nil) (by kernel_rfl)⟩
  | .q .all s b, h => ⟨flat1 (Fm.flat _), by
    simp only [Fm.size] at h
    have hb := f78 b (by omega)
    have e0 : IntKind.wrap .i64 (1 + (b.size : Int)) = ((b.size + 1 : Nat) : Int) := wrapEq (by omega) (by omega)
    exact Ev.run (.sub (.nil) <| .sub (.en (.f (hb)) <| .en (.w (e0)) <| .sub (.nil) <| .nil) <| .nil) (by kernel_rfl)⟩
  | .q .ex s b, h => ⟨flat1 (Fm.flat _), by
    simp only [Fm.size] at h
    have hb := f78 b (by omega)
    have e0 : IntKind.wrap .i64 (1 + (b.size : Int)) = ((b.size + 1 : Nat) : Int) := wrapEq (by omega) (by omega)
    exact Ev.run (.sub (.nil) <| .sub (.en (.f (hb)) <| .en (.w (e0)) <| .sub (.nil) <| .nil) <| .nil) (by kernel_rfl)⟩
  | .q .allU s b, h => ⟨flat1 (Fm.flat _), by
    simp only [Fm.size] at h
    have hb := f78 b (by omega)
    have e0 : IntKind.wrap .i64 (1 + (b.size : Int)) = ((b.size + 1 : Nat) : Int) := wrapEq (by omega) (by omega)
    exact Ev.run (.sub (.nil) <| .sub (.en (.f (hb)) <| .en (.w (e0)) <| .sub (.nil) <| .nil) <| .nil) (by kernel_rfl)⟩
  | .q .exU s b, h => ⟨flat1 (Fm.flat _), by
    simp only [Fm.size] at h
    have hb := f78 b (by omega)
    have e0 : IntKind.wrap .i64 (1 + (b.size : Int)) = ((b.size + 1 : Nat) : Int) := wrapEq (by omega) (by omega)
    exact Ev.run (.sub (.nil) <| .sub (.en (.f (hb)) <| .en (.w (e0)) <| .sub (.nil) <| .nil) <| .nil) (by kernel_rfl)⟩

theorem f63 {f : Fm} (h : f.fit) : EvF G 63 [f.enc] (.int .i64 0) := ⟨flat1 f.flat, by
  have h' := h.2
  have h1 := f133 f h.1
  have h2 := f78 f (by omega)
  have e : decide ((4096 : Int) < f.size) = false := decide_eq_false (by omega)
  exact Ev.run (.en (.f (h1)) <| .en (.f (h2)) <| .en (.v e) <| .nil) (by kernel_rfl)⟩
theorem f64 {f : Fm} (h : f.size ≤ 4096) : EvF G 64 [f.enc] (.tuple [f.enc, .int .i64 0]) := ⟨flat1 f.flat, by
  have h2 := f78 f (by omega)
  have e : decide ((4096 : Int) < f.size) = false := decide_eq_false (by omega)
  exact Ev.run (.en (.f (h2)) <| .en (.v e) <| .nil) (by kernel_rfl)⟩
def falseM : Fm := .eq .zero (.succ .zero)
theorem f65 : EvF G 65 [] falseM.enc := ⟨rfl, .comp 60 (by kernel_rfl)⟩
theorem f18 {f : Fm} (h : f.fit) (h2 : f.size + 5 ≤ 4096) : EvF G 18 [f.enc] (.tuple [(Fm.two .imp f falseM).enc, .int .i64 0]) := ⟨flat1 f.flat, by
  have h1 := f63 h
  have h3 := f20i f falseM
  have h4 := f64 (f := .two .imp f falseM) (by simp only [Fm.size, falseM, Tm.size]; omega)
  exact Ev.run (.en (.f (h1)) <| .en (.f (f65)) <| .en (.f (h3)) <| .en (.f (h4)) <| .nil) (by kernel_rfl)⟩

theorem f90 (N : Nat) : ∀ f : Fm, f.near N → EvF G 90 [f.enc, .int .i64 (N : Int)] (.bool true)
  | .eq s t, hx => ⟨flatT1 (Fm.flat _) N, by
    obtain ⟨ns, nt⟩ := hx
    have hs := f91 N s ns
    have ht := f91 N t nt
    exact Ev.run (.sub (.en (.f (hs)) <| .sub (.en (.f (ht)) <| .sub (.nil) <| .nil) <| .nil) <| .sub (.nil) <| .nil) (by kernel_rfl)⟩
  | .two .and a b, hx => ⟨flatT1 (Fm.flat _) N, by
    obtain ⟨na, nb⟩ := hx
    have ha := f90 N a na
    have hb := f90 N b nb
    exact Ev.run (.sub (.nil) <| .sub (.en (.f (ha)) <| .sub (.en (.f (hb)) <| .sub (.nil) <| .nil) <| .nil) <| .nil) (by kernel_rfl)⟩
  | .two .imp a b, hx => ⟨flatT1 (Fm.flat _) N, by
    obtain ⟨na, nb⟩ := hx
    have ha := f90 N a na
    have hb := f90 N b nb
    exact Ev.run (.sub (.nil) <| .sub (.en (.f (ha)) <| .sub (.en (.f (hb)) <| .sub (.nil) <| .nil) <| .nil) <| .nil) (by kernel_rfl)⟩
  | .q .all s b, hx => ⟨flatT1 (Fm.flat _) N, by
    have nb := hx
    have hb := f90 N b nb
    exact Ev.run (.sub (.nil) <| .sub (.en (.f (hb)) <| .sub (.nil) <| .nil) <| .nil) (by kernel_rfl)⟩
  | .q .ex s b, hx => ⟨flatT1 (Fm.flat _) N, by
    have nb := hx
    have hb := f90 N b nb
    exact Ev.run (.sub (.nil) <| .sub (.en (.f (hb)) <| .sub (.nil) <| .nil) <| .nil) (by kernel_rfl)⟩
  | .q .allU s b, hx => ⟨flatT1 (Fm.flat _) N, by
    have nb := hx
    have hb := f90 N b nb
    exact Ev.run (.sub (.nil) <| .sub (.en (.f (hb)) <| .sub (.nil) <| .nil) <| .nil) (by kernel_rfl)⟩
  | .q .exU s b, hx => ⟨flatT1 (Fm.flat _) N, by
    have nb := hx
    have hb := f90 N b nb
    exact Ev.run (.sub (.nil) <| .sub (.en (.f (hb)) <| .sub (.nil) <| .nil) <| .nil) (by kernel_rfl)⟩
theorem f92 : ∀ (f : Fm) (m : Nat), m + f.size < 2 ^ 59 → EvF G 92 [f.enc, .int .i64 (m : Int)] (.int .i64 (f.cnt m : Nat))
  | .eq s t, m, hb => ⟨flatT1 (Fm.flat _) m, by
    simp only [Fm.size] at hb
    have hfl := flat1 (Fm.flat (Fm.eq s t))
    have w0 := wzr m (by omega)
    have w1 := ws m (by omega)
    have ks := s.cnt_le m
    have kt := t.cnt_le m
    have hs := f156 s m (by omega)
    have ht := f156 t m (by omega)
    have e0 : IntKind.wrap .i64 (0 + ((s.cnt m : Nat) : Int)) = ((s.cnt m : Nat) : Int) := wrapEq (by omega) (by omega)
    have e1 : IntKind.wrap .i64 (((s.cnt m : Nat) : Int) + ((t.cnt m : Nat) : Int)) = ((s.cnt m + t.cnt m : Nat) : Int) := wrapEq (by omega) (by omega)
    exact Ev.run (.sub (.en (.f (hs)) <| .en (.w (e0)) <| .sub (.en (.f (ht)) <| .en (.w (e1)) <| .sub (.nil) <| .nil) <| .nil) <| .sub (.nil) <| .nil) (by kernel_rfl)⟩
  | .two .and a b, m, hb => ⟨flatT1 (Fm.flat _) m, by
    simp only [Fm.size] at hb
    have hfl := flat1 (Fm.flat (Fm.two .and a b))
    have w0 := wzr m (by omega)
    have w1 := ws m (by omega)
    have ka := a.cnt_le m
    have kb := b.cnt_le m
    have ha := f92 a m (by omega)
    have hb := f92 b m (by omega)
    have e0 : IntKind.wrap .i64 (0 + ((a.cnt m : Nat) : Int)) = ((a.cnt m : Nat) : Int) := wrapEq (by omega) (by omega)
    have e1 : IntKind.wrap .i64 (((a.cnt m : Nat) : Int) + ((b.cnt m : Nat) : Int)) = ((a.cnt m + b.cnt m : Nat) : Int) := wrapEq (by omega) (by omega)
    exact Ev.run (.sub (.nil) <| .sub (.subF hfl (.sub (.nil) <| .nil) <| .en (.w (w0)) <| .en (.f (ha)) <| .en (.w (e0)) <| .sub (.subF hfl (.sub (.nil) <| .nil) <| .en (.w (w0)) <| .en (.f (hb)) <| .en (.w (e1)) <| .sub (.nil) <| .nil) <| .nil) <| .nil) (by kernel_rfl)⟩
  | .two .imp a b, m, hb => ⟨flatT1 (Fm.flat _) m, by
    simp only [Fm.size] at hb
    have hfl := flat1 (Fm.flat (Fm.two .imp a b))
    have w0 := wzr m (by omega)
    have w1 := ws m (by omega)
    have ka := a.cnt_le m
    have kb := b.cnt_le m
    have ha := f92 a m (by omega)
    have hb := f92 b m (by omega)
    have e0 : IntKind.wrap .i64 (0 + ((a.cnt m : Nat) : Int)) = ((a.cnt m : Nat) : Int) := wrapEq (by omega) (by omega)
    have e1 : IntKind.wrap .i64 (((a.cnt m : Nat) : Int) + ((b.cnt m : Nat) : Int)) = ((a.cnt m + b.cnt m : Nat) : Int) := wrapEq (by omega) (by omega)
    exact Ev.run (.sub (.nil) <| .sub (.subF hfl (.sub (.nil) <| .nil) <| .en (.w (w0)) <| .en (.f (ha)) <| .en (.w (e0)) <| .sub (.subF hfl (.sub (.nil) <| .nil) <| .en (.w (w0)) <| .en (.f (hb)) <| .en (.w (e1)) <| .sub (.nil) <| .nil) <| .nil) <| .nil) (by kernel_rfl)⟩
  | .q .all s b, m, hb => ⟨flatT1 (Fm.flat _) m, by
    simp only [Fm.size] at hb
    have hfl := flat1 (Fm.flat (Fm.q .all s b))
    have w0 := wzr m (by omega)
    have w1 := ws m (by omega)
    have k1 := b.cnt_le (m + 1)
    have h1 := f92 b (m + 1) (by omega)
    have e0 : IntKind.wrap .i64 (0 + ((b.cnt (m + 1) : Nat) : Int)) = ((b.cnt (m + 1) : Nat) : Int) := wrapEq (by omega) (by omega)
    exact Ev.run (.sub (.nil) <| .sub (.subF hfl (.sub (.nil) <| .nil) <| .en (.w (w1)) <| .en (.f (h1)) <| .en (.w (e0)) <| .sub (.nil) <| .nil) <| .nil) (by kernel_rfl)⟩
  | .q .ex s b, m, hb => ⟨flatT1 (Fm.flat _) m, by
    simp only [Fm.size] at hb
    have hfl := flat1 (Fm.flat (Fm.q .ex s b))
    have w0 := wzr m (by omega)
    have w1 := ws m (by omega)
    have k1 := b.cnt_le (m + 1)
    have h1 := f92 b (m + 1) (by omega)
    have e0 : IntKind.wrap .i64 (0 + ((b.cnt (m + 1) : Nat) : Int)) = ((b.cnt (m + 1) : Nat) : Int) := wrapEq (by omega) (by omega)
    exact Ev.run (.sub (.nil) <| .sub (.subF hfl (.sub (.nil) <| .nil) <| .en (.w (w1)) <| .en (.f (h1)) <| .en (.w (e0)) <| .sub (.nil) <| .nil) <| .nil) (by kernel_rfl)⟩
  | .q .allU s b, m, hb => ⟨flatT1 (Fm.flat _) m, by
    simp only [Fm.size] at hb
    have hfl := flat1 (Fm.flat (Fm.q .allU s b))
    have w0 := wzr m (by omega)
    have w1 := ws m (by omega)
    have k1 := b.cnt_le (m + 1)
    have h1 := f92 b (m + 1) (by omega)
    have e0 : IntKind.wrap .i64 (0 + ((b.cnt (m + 1) : Nat) : Int)) = ((b.cnt (m + 1) : Nat) : Int) := wrapEq (by omega) (by omega)
    exact Ev.run (.sub (.nil) <| .sub (.subF hfl (.sub (.nil) <| .nil) <| .en (.w (w1)) <| .en (.f (h1)) <| .en (.w (e0)) <| .sub (.nil) <| .nil) <| .nil) (by kernel_rfl)⟩
  | .q .exU s b, m, hb => ⟨flatT1 (Fm.flat _) m, by
    simp only [Fm.size] at hb
    have hfl := flat1 (Fm.flat (Fm.q .exU s b))
    have w0 := wzr m (by omega)
    have w1 := ws m (by omega)
    have k1 := b.cnt_le (m + 1)
    have h1 := f92 b (m + 1) (by omega)
    have e0 : IntKind.wrap .i64 (0 + ((b.cnt (m + 1) : Nat) : Int)) = ((b.cnt (m + 1) : Nat) : Int) := wrapEq (by omega) (by omega)
    exact Ev.run (.sub (.nil) <| .sub (.subF hfl (.sub (.nil) <| .nil) <| .en (.w (w1)) <| .en (.f (h1)) <| .en (.w (e0)) <| .sub (.nil) <| .nil) <| .nil) (by kernel_rfl)⟩
theorem f93 (m : Nat) (u : Tm) (hu : u.near (2 ^ 59)) (hus : u.size < 2 ^ 58) : ∀ (f : Fm) (d : Nat), f.near (2 ^ 59) → m + d + f.size < 2 ^ 58 → EvF G 93 [f.enc, .int .i64 (m : Int), .int .i64 (d : Int), u.enc] (f.put u (m + d)).enc
  | .eq s t, d, hx, hb => ⟨flatTIIT (Fm.flat _) m d u.flat, by
    obtain ⟨ns, nt⟩ := hx
    simp only [Fm.size] at hb
    have hfl := flat1 (Fm.flat (Fm.eq s t))
    have w0 := wzr d (by omega)
    have w1 := ws d (by omega)
    have hs := f158 m u hu hus s d ns (by omega)
    have ht := f158 m u hu hus t d nt (by omega)
    exact Ev.run (.sub (.en (.f (hs)) <| .sub (.en (.f (ht)) <| .sub (.nil) <| .nil) <| .nil) <| .sub (.nil) <| .nil) (by kernel_rfl)⟩
  | .two .and a b, d, hx, hb => ⟨flatTIIT (Fm.flat _) m d u.flat, by
    obtain ⟨na, nb⟩ := hx
    simp only [Fm.size] at hb
    have hfl := flat1 (Fm.flat (Fm.two .and a b))
    have w0 := wzr d (by omega)
    have w1 := ws d (by omega)
    have ha := f93 m u hu hus a d na (by omega)
    have hb := f93 m u hu hus b d nb (by omega)
    exact Ev.run (.sub (.nil) <| .sub (.subF hfl (.sub (.nil) <| .nil) <| .en (.w (w0)) <| .en (.f (ha)) <| .sub (.subF hfl (.sub (.nil) <| .nil) <| .en (.w (w0)) <| .en (.f (hb)) <| .sub (.nil) <| .nil) <| .nil) <| .nil) (by kernel_rfl)⟩
  | .two .imp a b, d, hx, hb => ⟨flatTIIT (Fm.flat _) m d u.flat, by
    obtain ⟨na, nb⟩ := hx
    simp only [Fm.size] at hb
    have hfl := flat1 (Fm.flat (Fm.two .imp a b))
    have w0 := wzr d (by omega)
    have w1 := ws d (by omega)
    have ha := f93 m u hu hus a d na (by omega)
    have hb := f93 m u hu hus b d nb (by omega)
    exact Ev.run (.sub (.nil) <| .sub (.subF hfl (.sub (.nil) <| .nil) <| .en (.w (w0)) <| .en (.f (ha)) <| .sub (.subF hfl (.sub (.nil) <| .nil) <| .en (.w (w0)) <| .en (.f (hb)) <| .sub (.nil) <| .nil) <| .nil) <| .nil) (by kernel_rfl)⟩
  | .q .all s b, d, hx, hb => ⟨flatTIIT (Fm.flat _) m d u.flat, by
    have nb := hx
    simp only [Fm.size] at hb
    have hfl := flat1 (Fm.flat (Fm.q .all s b))
    have w0 := wzr d (by omega)
    have w1 := ws d (by omega)
    have hb := f93 m u hu hus b (d + 1) nb (by omega)
    exact Ev.run (.sub (.nil) <| .sub (.subF hfl (.sub (.nil) <| .nil) <| .en (.w (w1)) <| .en (.f (hb)) <| .sub (.nil) <| .nil) <| .nil) (by kernel_rfl)⟩
  | .q .ex s b, d, hx, hb => ⟨flatTIIT (Fm.flat _) m d u.flat, by
    have nb := hx
    simp only [Fm.size] at hb
    have hfl := flat1 (Fm.flat (Fm.q .ex s b))
    have w0 := wzr d (by omega)
    have w1 := ws d (by omega)
    have hb := f93 m u hu hus b (d + 1) nb (by omega)
    exact Ev.run (.sub (.nil) <| .sub (.subF hfl (.sub (.nil) <| .nil) <| .en (.w (w1)) <| .en (.f (hb)) <| .sub (.nil) <| .nil) <| .nil) (by kernel_rfl)⟩
  | .q .allU s b, d, hx, hb => ⟨flatTIIT (Fm.flat _) m d u.flat, by
    have nb := hx
    simp only [Fm.size] at hb
    have hfl := flat1 (Fm.flat (Fm.q .allU s b))
    have w0 := wzr d (by omega)
    have w1 := ws d (by omega)
    have hb := f93 m u hu hus b (d + 1) nb (by omega)
    exact Ev.run (.sub (.nil) <| .sub (.subF hfl (.sub (.nil) <| .nil) <| .en (.w (w1)) <| .en (.f (hb)) <| .sub (.nil) <| .nil) <| .nil) (by kernel_rfl)⟩
  | .q .exU s b, d, hx, hb => ⟨flatTIIT (Fm.flat _) m d u.flat, by
    have nb := hx
    simp only [Fm.size] at hb
    have hfl := flat1 (Fm.flat (Fm.q .exU s b))
    have w0 := wzr d (by omega)
    have w1 := ws d (by omega)
    have hb := f93 m u hu hus b (d + 1) nb (by omega)
    exact Ev.run (.sub (.nil) <| .sub (.subF hfl (.sub (.nil) <| .nil) <| .en (.w (w1)) <| .en (.f (hb)) <| .sub (.nil) <| .nil) <| .nil) (by kernel_rfl)⟩

/-- ref07.Put -/
theorem f35 {f : Fm} {u : Tm} {m : Nat} (hf : f.fit) (hu : u.fit) (hm : m ≤ 4096) (hfn : f.near (2 ^ 29)) (hun : u.near (2 ^ 29)) (hs : f.size + f.cnt m * (u.size - 1) ≤ 4096) :
    EvF G 35 [f.enc, .int .i64 (m : Int), u.enc] (.tuple [(f.put u m).enc, .int .i64 0]) := ⟨flatTIT f.flat m u.flat, by
  have h1 := hf.2; have h2 := hu.2; have h3 := u.size_pos
  have k1 := f63 hf
  have k2 := f75 hu
  have k3 := f90 536870912 f hfn
  have k4 := f91 536870912 u hun
  have k5 := f92 f m (by omega)
  have k6 := f93 m u (Tm.near_mono (by decide) u hun) (by omega) f 0 (Fm.near_mono (by decide) f hfn) (by omega)
  have k7 := f77 u (by omega)
  have k8 := f78 f (by omega)
  have k9 := f69 (f.put u m)
  have q1 : decide ((m : Int) < 0) = false := decide_eq_false (by omega)
  have q2 : decide ((4096 : Int) < (m : Int)) = false := decide_eq_false (by omega)
  have e1 : IntKind.wrap .i64 ((u.size : Int) - 1) = ((u.size - 1 : Nat) : Int) := wrapEq (by omega) (by omega)
  have e2 : IntKind.wrap .i64 ((f.cnt m : Nat) * ((u.size - 1 : Nat) : Int)) = ((f.cnt m * (u.size - 1) : Nat) : Int) := wrapEq (by simp) (by omega)
  have e3 : IntKind.wrap .i64 ((f.size : Int) + ((f.cnt m * (u.size - 1) : Nat) : Int)) = ((f.size + f.cnt m * (u.size - 1) : Nat) : Int) := wrapEq (by omega) (by omega)
  have q3 : decide ((4096 : Int) < ((f.size + f.cnt m * (u.size - 1) : Nat) : Int)) = false := decide_eq_false (by omega)
  exact Ev.run (.en (.f (k1)) <| .en (.sk 8) <| .en (.sk 8) <| .en (.v q2) <| .en (.f (k2)) <| .en (.f (k3)) <| .en (.f (k4)) <| .en (.f (k8)) <| .en (.f (k5)) <| .en (.f (k7)) <| .en (.w (e1)) <| .en (.w (e2)) <| .en (.w (e3)) <| .en (.v q3) <| .en (.f (k6)) <| .en (.f (k9)) <| .nil) (by kernel_rfl)⟩

/-! ### Less, Bounded -/

def lessM (s t : Tm) : Fm := .eq (.app (.app subM (.succ s)) t) .zero
theorem f76 (s t : Tm) : EvF G 76 [s.enc, t.enc] (lessM s t).enc := ⟨flat2 s.flat t.flat, by
  have h1 := f127_1 5 s
  have h2 := f127_2 3 subM (.succ s)
  have h3 := f127_2 3 (.app subM (.succ s)) t
  have h4 := f127_0 4
  have h5 := f62 (.app (.app subM (.succ s)) t) .zero
  exact Ev.run (.en (.f (f131)) <| .en (.f (h1)) <| .en (.f (h2)) <| .en (.f (h3)) <| .en (.f (h4)) <| .en (.f (h5)) <| .nil) (by kernel_rfl)⟩
theorem f266 (s t : Tm) : EvF G 266 [s.enc, t.enc] (lessM s t).enc := ⟨flat2 s.flat t.flat, by
  have h1 := f216_1 5 s
  have h2 := f216_2 3 subM (.succ s)
  have h3 := f216_2 3 (.app subM (.succ s)) t
  have h4 := f216_0 4
  have fl : AV.flatL [subM.enc, .slice 5 [(Tm.succ s).enc, t.enc]] = true := by
    have e1 := (Tm.succ s).flat; have e2 := t.flat; have e3 := subM.flat
    simp [AV.flatL, AV.flat, e1, e2, e3]
  have fl2 := flat2 (Tm.flat (.app (.app subM (.succ s)) t)) (Tm.flat .zero)
  exact Ev.run (.en (.f (f315)) <| .en (.f (h1)) <| .subF fl (.sub (.en (.f (h2)) <| .sub (.en (.f (h3)) <| .sub (.nil) <| .nil) <| .nil) <| .nil) <| .en (.f (h4)) <| .subF fl2 (.nil) <| .nil) (by kernel_rfl)⟩
theorem subM_size : subM.size = 16 := by decide
theorem f27 {s t : Tm} (hs : s.fit) (ht : t.fit) (h : s.size + t.size + 21 ≤ 4096) : EvF G 27 [s.enc, t.enc] (.tuple [(lessM s t).enc, .int .i64 0]) := ⟨flat2 s.flat t.flat, by
  have h1 := f75 hs; have h2 := f75 ht; have h3 := f76 s t
  have e1 : (Tm.app (.app subM (.succ s)) t).size = s.size + t.size + 19 := by simp only [Tm.size, subM_size]; omega
  have e2 : (lessM s t).size = s.size + t.size + 21 := by simp only [lessM, Fm.size, Tm.size, subM_size]; omega
  have h4 := f77 (x := .app (.app subM (.succ s)) t) (by omega)
  have h5 := f78 (lessM s t) (by omega)
  rw [e1] at h4; rw [e2] at h5
  have q1 : decide ((4096 : Int) < ((s.size + t.size + 19 : Nat) : Int)) = false := decide_eq_false (by omega)
  have q2 : decide ((4096 : Int) < ((s.size + t.size + 21 : Nat) : Int)) = false := decide_eq_false (by omega)
  exact Ev.run (.en (.f (h1)) <| .en (.f (h2)) <| .en (.f (h3)) <| .en (.f (h4)) <| .en (.v q1) <| .en (.f (h5)) <| .en (.v q2) <| .nil) (by kernel_rfl)⟩
/-- A bounded quantifier. -/
def bndM (all : Bool) (t : Tm) (f : Fm) : Fm := .q (if all then .all else .ex) .nat (.two (if all then .imp else .and) (lessM (.var 0) (t.up 1 0)) f)
theorem Tm.up_size : ∀ (x : Tm) (n m : Nat), (x.up n m).size = x.size
  | .var _, _, _ => rfl
  | .lam _ a, n, m => by simp only [Tm.up, Tm.size, up_size a]
  | .app a b, n, m => by simp only [Tm.up, Tm.size, up_size a, up_size b]
  | .zero, _, _ => rfl
  | .succ a, n, m => by simp only [Tm.up, Tm.size, up_size a]
  | .recN _ a b c, n, m => by simp only [Tm.up, Tm.size, up_size a, up_size b, up_size c]
  | .nil, _, _ => rfl
  | .cons a b, n, m => by simp only [Tm.up, Tm.size, up_size a, up_size b]
  | .fold _ a b c, n, m => by simp only [Tm.up, Tm.size, up_size a, up_size b, up_size c]
  | .pair a b, n, m => by simp only [Tm.up, Tm.size, up_size a, up_size b]
  | .fst a, n, m => by simp only [Tm.up, Tm.size, up_size a]
  | .snd a, n, m => by simp only [Tm.up, Tm.size, up_size a]
  | .unit, _, _ => rfl
theorem Tm.up_tok : ∀ (x : Tm) (n m : Nat), x.tok → (x.up n m).tok
  | .var _, _, _, _ => trivial
  | .lam _ a, n, m, h => ⟨h.1, up_tok a _ _ h.2⟩
  | .app a b, n, m, h => ⟨up_tok a _ _ h.1, up_tok b _ _ h.2⟩
  | .zero, _, _, _ => trivial
  | .succ a, n, m, h => up_tok a n m h
  | .recN _ a b c, n, m, h => ⟨h.1, up_tok a _ _ h.2.1, up_tok b _ _ h.2.2.1, up_tok c _ _ h.2.2.2⟩
  | .nil, _, _, _ => trivial
  | .cons a b, n, m, h => ⟨up_tok a _ _ h.1, up_tok b _ _ h.2⟩
  | .fold _ a b c, n, m, h => ⟨h.1, up_tok a _ _ h.2.1, up_tok b _ _ h.2.2.1, up_tok c _ _ h.2.2.2⟩
  | .pair a b, n, m, h => ⟨up_tok a _ _ h.1, up_tok b _ _ h.2⟩
  | .fst a, n, m, h => up_tok a n m h
  | .snd a, n, m, h => up_tok a n m h
  | .unit, _, _, _ => trivial
theorem lessM_size (s t : Tm) : (lessM s t).size = s.size + t.size + 21 := by simp only [lessM, Fm.size, Tm.size, subM_size]; omega
theorem bndM_size (all : Bool) (t : Tm) (f : Fm) : (bndM all t f).size = t.size + f.size + 24 := by simp only [bndM, Fm.size, lessM_size, Tm.up_size, Tm.size]; omega
theorem f31 (all : Bool) {t : Tm} {f : Fm} (ht : t.fit) (hn : t.near (2 ^ 29)) (hf : f.fit) (h : t.size + f.size + 24 ≤ 4096) : EvF G 31 [.bool all, t.enc, f.enc] (.tuple [(bndM all t f).enc, .int .i64 0]) := ⟨by have h1 := t.flat; have h2 := f.flat; simp [AV.flatL, AV.flat, h1, h2], by
  have h1 := f80 (m := 0) (n := 1) ht hn (by omega) (by omega)
  have h2 := f63 hf
  have hu : (t.up 1 0).fit := ⟨Tm.up_tok _ _ _ ht.1, by rw [Tm.up_size]; exact ht.2⟩
  have h3 := f27 (s := .var 0) (t := t.up 1 0) ⟨trivial, by decide⟩ hu (by simp only [Tm.up_size, Tm.size]; omega)
  have hv : EvF G 29 [.int .i64 0] (Tm.var 0).enc := f29 0
  have e := bndM_size all t f
  have h5 := f78 (bndM all t f) (by omega)
  rw [e] at h5
  have q2 : decide ((4096 : Int) < ((t.size + f.size + 24 : Nat) : Int)) = false := decide_eq_false (by omega)
  have g1 := f20a (lessM (.var 0) (t.up 1 0)) f
  have g2 := f20i (lessM (.var 0) (t.up 1 0)) f
  have g3 := f81 .all .nat (.two .imp (lessM (.var 0) (t.up 1 0)) f)
  have g4 := f81 .ex .nat (.two .and (lessM (.var 0) (t.up 1 0)) f)
  cases all
  · exact Ev.run (.en (.f (h1)) <| .en (.f (h2)) <| .en (.f (hv)) <| .en (.f (h3)) <| .en (.f (f23)) <| .en (.f (g1)) <| .en (.f (g4)) <| .en (.f (h5)) <| .en (.v q2) <| .nil) (by kernel_rfl)
  · exact Ev.run (.en (.f (h1)) <| .en (.f (h2)) <| .en (.f (hv)) <| .en (.f (h3)) <| .en (.f (f23)) <| .en (.f (g1)) <| .en (.f (g4)) <| .en (.f (f23)) <| .en (.f (g2)) <| .en (.f (g3)) <| .en (.f (h5)) <| .en (.v q2) <| .nil) (by kernel_rfl)⟩
end Go.AI

