/- Contracts: typing. -/
import Derived.Test.YtdpamhejneicdaaGreatDoorZH7
namespace Go.AI
set_option linter.unusedVariables false
set_option linter.unusedSimpArgs false
open Go
set_option maxRecDepth 100000
set_option maxHeartbeats 4000000

inductive HasTy : List Ty → Tm → Ty → Prop where
  | var {g : List Ty} {i : Nat} {t : Ty} (hi : i < g.length) (h : g[g.length - 1 - i]? = some t) : HasTy g (.var i) t
  | lam {g : List Ty} {s r : Ty} {b : Tm} (hs : s.ok) (h : HasTy (g ++ [s]) b r) (ho : (Ty.fn s r).ok) : HasTy g (.lam s b) (.fn s r)
  | app {g : List Ty} {s r : Ty} {f a : Tm} (h1 : HasTy g f (.fn s r)) (h2 : HasTy g a s) : HasTy g (.app f a) r
  | zero {g : List Ty} : HasTy g .zero .nat
  | succ {g : List Ty} {a : Tm} (h : HasTy g a .nat) : HasTy g (.succ a) .nat
  | recN {g : List Ty} {s : Ty} {a b c : Tm} (hs : s.ok) (h1 : HasTy g a s) (h2 : HasTy g b (.fn .nat (.fn s s))) (h3 : HasTy g c .nat) : HasTy g (.recN s a b c) s
  | nil {g : List Ty} : HasTy g .nil .list
  | cons {g : List Ty} {a b : Tm} (h1 : HasTy g a .nat) (h2 : HasTy g b .list) : HasTy g (.cons a b) .list
  | fold {g : List Ty} {s : Ty} {a b c : Tm} (hs : s.ok) (h1 : HasTy g a s) (h2 : HasTy g b (.fn .nat (.fn .list (.fn s s)))) (h3 : HasTy g c .list) : HasTy g (.fold s a b c) s
  | pair {g : List Ty} {s t : Ty} {a b : Tm} (h1 : HasTy g a s) (h2 : HasTy g b t) (ho : (Ty.pair s t).ok) : HasTy g (.pair a b) (.pair s t)
  | fst {g : List Ty} {s t : Ty} {a : Tm} (h : HasTy g a (.pair s t)) : HasTy g (.fst a) s
  | snd {g : List Ty} {s t : Ty} {a : Tm} (h : HasTy g a (.pair s t)) : HasTy g (.snd a) t
  | unit {g : List Ty} : HasTy g .unit .unit

theorem Ty.ok_fn {s r : Ty} (h : (Ty.fn s r).ok) : s.ok ∧ r.ok := by unfold Ty.ok at *; simp only [Ty.size] at h; omega
theorem Ty.ok_pair {s r : Ty} (h : (Ty.pair s r).ok) : s.ok ∧ r.ok := by unfold Ty.ok at *; simp only [Ty.size] at h; omega

theorem HasTy.ok {g : List Ty} {x : Tm} {t : Ty} (h : HasTy g x t) : (∀ s ∈ g, s.ok) → t.ok := by
  induction h with
  | var hi h => intro hg; exact hg _ (List.mem_of_getElem? h)
  | lam hs h ho ih => intro _; exact ho
  | app h1 h2 ih1 ih2 => intro hg; exact (Ty.ok_fn (ih1 hg)).2
  | zero => intro _; simp [Ty.ok, Ty.size]
  | succ h ih => intro _; simp [Ty.ok, Ty.size]
  | recN hs _ _ _ _ _ _ => intro _; exact hs
  | nil => intro _; simp [Ty.ok, Ty.size]
  | cons _ _ _ _ => intro _; simp [Ty.ok, Ty.size]
  | fold hs _ _ _ _ _ _ => intro _; exact hs
  | pair _ _ ho _ _ => intro _; exact ho
  | fst h ih => intro hg; exact (Ty.ok_pair (ih hg)).1
  | snd h ih => intro hg; exact (Ty.ok_pair (ih hg)).2
  | unit => intro _; simp [Ty.ok, Ty.size]

theorem Ty.szd_flat (t : Ty) : t.szd.flat = true := by simp [Ty.szd, AV.flat, AV.flatL, t.flata]
theorem ctx_flat (g : List Ty) : AV.flatL (g.map Ty.szd) = true := flatL_map _ fun x _ => x.szd_flat
theorem flatCT {L : List AV} {x : AV} (hL : AV.flatL L = true) (h : x.flat = true) : AV.flatL [.slice 3 L, x] = true := by simp [AV.flatL, AV.flat, hL, h]

theorem eqself (n : Nat) : ((n : Int) == (n : Int)) = true := by simp
theorem neself (n : Nat) : ((n : Int) != (n : Int)) = false := by simp

theorem ctx_cut (L : List AV) : List.take (L.length - 0) (List.drop 0 L) = L := by simp

set_option hygiene false in
theorem c258 {g : List Ty} {x : Tm} {t : Ty} (h : HasTy g x t) : ∀ (L : List AV), L = g.map Ty.szd → (∀ s ∈ g, s.ok) → g.length + x.size < 4294967296 → EvF G 258 [.slice 3 L, x.enc] (.tuple [t.szd, .int .i64 0]) := by
  induction h with
  | @var g i t hi h =>
    intro L hL hg hs
    refine ⟨flatCT (by rw [hL]; exact ctx_flat g) (Tm.flat _), ?_⟩
    have hl : L.length = g.length := by rw [hL]; simp
    have q : decide ((L.length : Int) ≤ (i : Int)) = false := decide_eq_false (by omega)
    have e1 : IntKind.wrap .i64 ((L.length : Int) - 1) = ((g.length - 1 : Nat) : Int) := wrapEq (by omega) (by omega)
    have e2 : IntKind.wrap .i64 (((g.length - 1 : Nat) : Int) - (i : Int)) = ((g.length - 1 - i : Nat) : Int) := wrapEq (by omega) (by omega)
    have hget : L[g.length - 1 - i]? = some t.szd := by rw [hL, List.getElem?_map, h]; rfl
    exact Ev.run (.en (.sk 8) <| .en (.v q) <| .en (.w (e1)) <| .en (.w (e2)) <| .en (.a hget) <| .nil) (by kernel_rfl)
  | @lam g s r b hs h ho ih =>
    intro L hL hg hsz
    refine ⟨flatCT (by rw [hL]; exact ctx_flat g) (Tm.flat _), ?_⟩
    have hl : L.length = g.length := by rw [hL]; simp
    simp only [Tm.size] at hsz
    have hr := Ty.ok_fn ho
    have ho' : s.size + r.size + 1 ≤ 64 := by have := ho; unfold Ty.ok at this; simpa only [Ty.size] using this
    have h1 := f232 hs
    have q0 : (decide (0 ≤ L.length) && decide (L.length ≤ L.length) && decide (L.length = L.length)) = true := by simp
    have q1 : decide ((((List.length (List.take ((List.length L) - 0) (List.drop 0 L))) + 1) : Nat) ≤ 4294967296) = true := decide_eq_true (by rw [ctx_cut]; omega)
    have h2 := ih (List.take ((List.length L) - 0) (List.drop 0 L) ++ [s.szd]) (by rw [ctx_cut, hL]; simp) (by intro x hx; rcases List.mem_append.1 hx with h | h; exact hg x h; simp at h; rw [h]; exact hs) (by simp; omega)
    have e1 : IntKind.wrap .i64 (1 + (s.size : Int)) = ((s.size + 1 : Nat) : Int) := wrapEq (by omega) (by omega)
    have e2 : IntKind.wrap .i64 (((s.size + 1 : Nat) : Int) + (r.size : Int)) = ((s.size + r.size + 1 : Nat) : Int) := wrapEq (by omega) (by omega)
    have q2 : decide ((64 : Int) < ((s.size + r.size + 1 : Nat) : Int)) = false := decide_eq_false (by omega)
    have fl : AV.flatL [.int .i64 4, s.szd, r.szd] = true := by simp [AV.flatL, AV.flat, s.szd_flat, r.szd_flat]
    exact Ev.run (.en (.f (h1)) <| .en (.u q0) <| .en (.u q1) <| .en (.f (h2)) <| .subF fl (.en (.w (e1)) <| .en (.w (e2)) <| .en (.v q2) <| .nil) <| .nil) (by kernel_rfl)
  | @app g s r f a h1 h2 ih1 ih2 =>
    intro L hL hg hsz
    refine ⟨flatCT (by rw [hL]; exact ctx_flat g) (Tm.flat _), ?_⟩
    simp only [Tm.size] at hsz
    have k1 := ih1 L hL hg (by omega)
    have k2 := ih2 L hL hg (by omega)
    have hr := Ty.ok_fn (h1.ok hg)
    have m1 := f232 hr.1; have m2 := f232 hr.2; have m3 := f165r s
    have m4 := eqself s.size
    have hfl := (Tm.app f a).flat
    exact Ev.run (.sub (.en (.f (k1)) <| .sub (.en (.f (k2)) <| .sub (.nil) <| .nil) <| .nil) <| .subF (args := [.agg [.int .i64 3, .int .i64 0, .int .i64 0, .slice 2 [], .slice 5 [f.enc, a.enc]], .agg [.int .i64 4, .slice 2 [s.enc, r.enc], .int .i64 ((↑(s.fn r).size : Int)), .int .i64 s.k, .slice 2 s.a, .int .i64 ((↑s.size : Int)), .int .i64 0, .slice 2 [], .int .i64 0]]) (by simp [AV.flatL, AV.flat, Ty.flat, Ty.flata, Tm.flat, Tm.flatu, Fm.flat, Ty.szd_flat, hfl]) (.sub (.nil) <| .subF (args := [.agg [.int .i64 4, .slice 2 [s.enc, r.enc], .int .i64 ((↑(s.fn r).size : Int))], .int .i64 4]) (by simp [AV.flatL, AV.flat, Ty.flat, Ty.flata, Tm.flat, Tm.flatu, Fm.flat, Ty.szd_flat, hfl]) (.nil) <| .subF (args := [.agg [.int .i64 4, .slice 2 [s.enc, r.enc], .int .i64 ((↑(s.fn r).size : Int))], .int .i64 0]) (by simp [AV.flatL, AV.flat, Ty.flat, Ty.flata, Tm.flat, Tm.flatu, Fm.flat, Ty.szd_flat, hfl]) (.en (.f (m1)) <| .nil) <| .subF (args := [s.szd, s.szd]) (by simp [AV.flatL, AV.flat, Ty.flat, Ty.flata, Tm.flat, Tm.flatu, Fm.flat, Ty.szd_flat, hfl]) (.en (.v m4) <| .en (.f (m3)) <| .nil) <| .subF (args := [.agg [.int .i64 4, .slice 2 [s.enc, r.enc], .int .i64 ((↑(s.fn r).size : Int))], .int .i64 1]) (by simp [AV.flatL, AV.flat, Ty.flat, Ty.flata, Tm.flat, Tm.flatu, Fm.flat, Ty.szd_flat, hfl]) (.en (.f (m2)) <| .nil) <| .nil) <| .nil) (by kernel_rfl)
  | @zero g => intro L hL hg hsz; exact ⟨flatCT (by rw [hL]; exact ctx_flat g) (Tm.flat _), by exact Ev.run (.sub (.nil) <| .sub (.sub (.nil) <| .sub (.nil) <| .sub (.sub (.sub (.sub (.nil) <| .nil) <| .nil) <| .nil) <| .nil) <| .nil) (by kernel_rfl)⟩
  | @nil g => intro L hL hg hsz; exact ⟨flatCT (by rw [hL]; exact ctx_flat g) (Tm.flat _), by exact Ev.run (.sub (.nil) <| .sub (.sub (.nil) <| .sub (.nil) <| .sub (.sub (.sub (.sub (.nil) <| .nil) <| .nil) <| .nil) <| .nil) <| .nil) (by kernel_rfl)⟩
  | @unit g => intro L hL hg hsz; exact ⟨flatCT (by rw [hL]; exact ctx_flat g) (Tm.flat _), by exact Ev.run (.sub (.nil) <| .sub (.sub (.nil) <| .sub (.nil) <| .sub (.sub (.sub (.sub (.nil) <| .nil) <| .nil) <| .nil) <| .nil) <| .nil) (by kernel_rfl)⟩
  | @succ g a h ih =>
    intro L hL hg hsz
    refine ⟨flatCT (by rw [hL]; exact ctx_flat g) (Tm.flat _), ?_⟩
    simp only [Tm.size] at hsz
    have k1 := ih L hL hg (by omega)
    exact Ev.run (.sub (.en (.f (k1)) <| .sub (.nil) <| .nil) <| .subF (args := [.agg [.int .i64 5, .int .i64 0, .int .i64 0, .slice 2 [], .slice 5 [a.enc]], .agg [.int .i64 1, .slice 2 [], .int .i64 1, .int .i64 0, .slice 2 [], .int .i64 0, .int .i64 0, .slice 2 [], .int .i64 0]]) (by simp [AV.flatL, AV.flat, Ty.flat, Ty.flata, Tm.flat, Tm.flatu, Fm.flat, Ty.szd_flat]) (.sub (.nil) <| .sub (.sub (.nil) <| .sub (.nil) <| .nil) <| .sub (.sub (.sub (.sub (.nil) <| .nil) <| .nil) <| .nil) <| .nil) <| .nil) (by kernel_rfl)
  | @cons g a b h1 h2 ih1 ih2 =>
    intro L hL hg hsz
    refine ⟨flatCT (by rw [hL]; exact ctx_flat g) (Tm.flat _), ?_⟩
    simp only [Tm.size] at hsz
    have k1 := ih1 L hL hg (by omega)
    have k2 := ih2 L hL hg (by omega)
    exact Ev.run (.sub (.en (.f (k1)) <| .sub (.en (.f (k2)) <| .sub (.nil) <| .nil) <| .nil) <| .subF (args := [.agg [.int .i64 8, .int .i64 0, .int .i64 0, .slice 2 [], .slice 5 [a.enc, b.enc]], .agg [.int .i64 1, .slice 2 [], .int .i64 1, .int .i64 2, .slice 2 [], .int .i64 1, .int .i64 0, .slice 2 [], .int .i64 0]]) (by simp [AV.flatL, AV.flat, Ty.flat, Ty.flata, Tm.flat, Tm.flatu, Fm.flat, Ty.szd_flat]) (.sub (.nil) <| .sub (.sub (.nil) <| .sub (.sub (.nil) <| .sub (.nil) <| .nil) <| .nil) <| .sub (.sub (.sub (.sub (.nil) <| .nil) <| .nil) <| .nil) <| .nil) <| .nil) (by kernel_rfl)
  | @recN g s a b c hs h1 h2 h3 ih1 ih2 ih3 =>
    intro L hL hg hsz
    refine ⟨flatCT (by rw [hL]; exact ctx_flat g) (Tm.flat _), ?_⟩
    simp only [Tm.size] at hsz
    have k1 := ih1 L hL hg (by omega)
    have k2 := ih2 L hL hg (by omega)
    have k3 := ih3 L hL hg (by omega)
    have m1 := f232 hs; have m3 := f165r s; have m5 := f165r (.fn .nat (.fn s s))
    have m4 := eqself s.size
    exact Ev.run (.sub (.en (.f (k1)) <| .sub (.en (.f (k2)) <| .sub (.en (.f (k3)) <| .sub (.nil) <| .nil) <| .nil) <| .nil) <| .subF (args := [.agg [.int .i64 6, .int .i64 0, .int .i64 s.k, .slice 2 s.a, .slice 5 [a.enc, b.enc, c.enc]], .agg [.int .i64 s.k, .slice 2 s.a, .int .i64 ((↑s.size : Int)), .int .i64 4, .slice 2 [.agg [.int .i64 1, .slice 2 []], .agg [.int .i64 4, .slice 2 [s.enc, s.enc]]], .int .i64 ((↑(Ty.nat.fn (s.fn s)).size : Int)), .int .i64 1, .slice 2 [], .int .i64 1]]) (by simp [AV.flatL, AV.flat, Ty.flat, Ty.flata, Tm.flat, Tm.flatu, Fm.flat, Ty.szd_flat]) (.sub (.nil) <| .en (.f (m1)) <| .subF (args := [s.szd, s.szd]) (by simp [AV.flatL, AV.flat, Ty.flat, Ty.flata, Tm.flat, Tm.flatu, Fm.flat, Ty.szd_flat]) (.en (.v m4) <| .en (.f (m3)) <| .nil) <| .subF (args := [.agg [.int .i64 6, .int .i64 0, .int .i64 s.k, .slice 2 s.a, .slice 5 [a.enc, b.enc, c.enc]]]) (by simp [AV.flatL, AV.flat, Ty.flat, Ty.flata, Tm.flat, Tm.flatu, Fm.flat, Ty.szd_flat]) (.sub (.nil) <| .subF (args := [s.enc, .slice 2 [.agg [.int .i64 1, .slice 2 []], s.enc]]) (by simp [AV.flatL, AV.flat, Ty.flat, Ty.flata, Tm.flat, Tm.flatu, Fm.flat, Ty.szd_flat]) (.sub (.sub (.sub (.nil) <| .nil) <| .nil) <| .nil) <| .nil) <| .en (.f (m5)) <| .sub (.nil) <| .nil) <| .nil) (by kernel_rfl)
  | @fold g s a b c hs h1 h2 h3 ih1 ih2 ih3 =>
    intro L hL hg hsz
    refine ⟨flatCT (by rw [hL]; exact ctx_flat g) (Tm.flat _), ?_⟩
    simp only [Tm.size] at hsz
    have k1 := ih1 L hL hg (by omega)
    have k2 := ih2 L hL hg (by omega)
    have k3 := ih3 L hL hg (by omega)
    have m1 := f232 hs; have m3 := f165r s; have m5 := f165r (.fn .nat (.fn .list (.fn s s)))
    have m4 := eqself s.size
    exact Ev.run (.sub (.en (.f (k1)) <| .sub (.en (.f (k2)) <| .sub (.en (.f (k3)) <| .sub (.nil) <| .nil) <| .nil) <| .nil) <| .subF (args := [.agg [.int .i64 9, .int .i64 0, .int .i64 s.k, .slice 2 s.a, .slice 5 [a.enc, b.enc, c.enc]], .agg [.int .i64 s.k, .slice 2 s.a, .int .i64 ((↑s.size : Int)), .int .i64 4, .slice 2 [.agg [.int .i64 1, .slice 2 []], .agg [.int .i64 4, .slice 2 [.agg [.int .i64 2, .slice 2 []], .agg [.int .i64 4, .slice 2 [s.enc, s.enc]]]]], .int .i64 ((↑(Ty.nat.fn (Ty.list.fn (s.fn s))).size : Int)), .int .i64 2, .slice 2 [], .int .i64 1]]) (by simp [AV.flatL, AV.flat, Ty.flat, Ty.flata, Tm.flat, Tm.flatu, Fm.flat, Ty.szd_flat]) (.sub (.nil) <| .en (.f (m1)) <| .subF (args := [s.szd, s.szd]) (by simp [AV.flatL, AV.flat, Ty.flat, Ty.flata, Tm.flat, Tm.flatu, Fm.flat, Ty.szd_flat]) (.en (.v m4) <| .en (.f (m3)) <| .nil) <| .subF (args := [.agg [.int .i64 9, .int .i64 0, .int .i64 s.k, .slice 2 s.a, .slice 5 [a.enc, b.enc, c.enc]]]) (by simp [AV.flatL, AV.flat, Ty.flat, Ty.flata, Tm.flat, Tm.flatu, Fm.flat, Ty.szd_flat]) (.sub (.nil) <| .sub (.nil) <| .subF (args := [s.enc, .slice 2 [.agg [.int .i64 1, .slice 2 []], .agg [.int .i64 2, .slice 2 []], s.enc]]) (by simp [AV.flatL, AV.flat, Ty.flat, Ty.flata, Tm.flat, Tm.flatu, Fm.flat, Ty.szd_flat]) (.sub (.sub (.sub (.sub (.nil) <| .nil) <| .nil) <| .nil) <| .nil) <| .nil) <| .en (.f (m5)) <| .sub (.nil) <| .nil) <| .nil) (by kernel_rfl)
  | @pair g s t a b h1 h2 ho ih1 ih2 =>
    intro L hL hg hsz
    refine ⟨flatCT (by rw [hL]; exact ctx_flat g) (Tm.flat _), ?_⟩
    simp only [Tm.size] at hsz
    have ho' : s.size + t.size + 1 ≤ 64 := by have := ho; unfold Ty.ok at this; simpa only [Ty.size] using this
    have k1 := ih1 L hL hg (by omega)
    have k2 := ih2 L hL hg (by omega)
    have e1 : IntKind.wrap .i64 (1 + (s.size : Int)) = ((s.size + 1 : Nat) : Int) := wrapEq (by omega) (by omega)
    have e2 : IntKind.wrap .i64 (((s.size + 1 : Nat) : Int) + (t.size : Int)) = ((s.size + t.size + 1 : Nat) : Int) := wrapEq (by omega) (by omega)
    have q2 : decide ((64 : Int) < ((s.size + t.size + 1 : Nat) : Int)) = false := decide_eq_false (by omega)
    have fl : AV.flatL [.int .i64 3, s.szd, t.szd] = true := by simp [AV.flatL, AV.flat, s.szd_flat, t.szd_flat]
    exact Ev.run (.sub (.en (.f (k1)) <| .sub (.en (.f (k2)) <| .sub (.nil) <| .nil) <| .nil) <| .subF (args := [.agg [.int .i64 10, .int .i64 0, .int .i64 0, .slice 2 [], .slice 5 [a.enc, b.enc]], .agg [.int .i64 s.k, .slice 2 s.a, .int .i64 ((↑s.size : Int)), .int .i64 t.k, .slice 2 t.a, .int .i64 ((↑t.size : Int)), .int .i64 0, .slice 2 [], .int .i64 0]]) (by simp [AV.flatL, AV.flat, Ty.flat, Ty.flata, Tm.flat, Tm.flatu, Fm.flat, Ty.szd_flat, fl]) (.sub (.nil) <| .subF fl (.en (.w (e1)) <| .en (.w (e2)) <| .en (.v q2) <| .nil) <| .nil) <| .nil) (by kernel_rfl)
  | @fst g s t a h ih =>
    intro L hL hg hsz
    refine ⟨flatCT (by rw [hL]; exact ctx_flat g) (Tm.flat _), ?_⟩
    simp only [Tm.size] at hsz
    have k1 := ih L hL hg (by omega)
    have hr := Ty.ok_pair (h.ok hg)
    have m1 := f232 hr.1
    exact Ev.run (.sub (.en (.f (k1)) <| .sub (.nil) <| .nil) <| .subF (args := [.agg [.int .i64 11, .int .i64 0, .int .i64 0, .slice 2 [], .slice 5 [a.enc]], .agg [.int .i64 3, .slice 2 [s.enc, t.enc], .int .i64 ((↑(s.pair t).size : Int)), .int .i64 0, .slice 2 [], .int .i64 0, .int .i64 0, .slice 2 [], .int .i64 0]]) (by simp [AV.flatL, AV.flat, Ty.flat, Ty.flata, Tm.flat, Tm.flatu, Fm.flat, Ty.szd_flat]) (.sub (.nil) <| .subF (args := [.agg [.int .i64 3, .slice 2 [s.enc, t.enc], .int .i64 ((↑(s.pair t).size : Int))], .int .i64 3]) (by simp [AV.flatL, AV.flat, Ty.flat, Ty.flata, Tm.flat, Tm.flatu, Fm.flat, Ty.szd_flat]) (.nil) <| .subF (args := [.agg [.int .i64 3, .slice 2 [s.enc, t.enc], .int .i64 ((↑(s.pair t).size : Int))], .int .i64 0]) (by simp [AV.flatL, AV.flat, Ty.flat, Ty.flata, Tm.flat, Tm.flatu, Fm.flat, Ty.szd_flat]) (.en (.f (m1)) <| .nil) <| .nil) <| .nil) (by kernel_rfl)
  | @snd g s t a h ih =>
    intro L hL hg hsz
    refine ⟨flatCT (by rw [hL]; exact ctx_flat g) (Tm.flat _), ?_⟩
    simp only [Tm.size] at hsz
    have k1 := ih L hL hg (by omega)
    have hr := Ty.ok_pair (h.ok hg)
    have m1 := f232 hr.2
    exact Ev.run (.sub (.en (.f (k1)) <| .sub (.nil) <| .nil) <| .subF (args := [.agg [.int .i64 12, .int .i64 0, .int .i64 0, .slice 2 [], .slice 5 [a.enc]], .agg [.int .i64 3, .slice 2 [s.enc, t.enc], .int .i64 ((↑(s.pair t).size : Int)), .int .i64 0, .slice 2 [], .int .i64 0, .int .i64 0, .slice 2 [], .int .i64 0]]) (by simp [AV.flatL, AV.flat, Ty.flat, Ty.flata, Tm.flat, Tm.flatu, Fm.flat, Ty.szd_flat]) (.sub (.nil) <| .subF (args := [.agg [.int .i64 3, .slice 2 [s.enc, t.enc], .int .i64 ((↑(s.pair t).size : Int))], .int .i64 3]) (by simp [AV.flatL, AV.flat, Ty.flat, Ty.flata, Tm.flat, Tm.flatu, Fm.flat, Ty.szd_flat]) (.nil) <| .subF (args := [.agg [.int .i64 3, .slice 2 [s.enc, t.enc], .int .i64 ((↑(s.pair t).size : Int))], .int .i64 1]) (by simp [AV.flatL, AV.flat, Ty.flat, Ty.flata, Tm.flat, Tm.flatu, Fm.flat, Ty.szd_flat]) (.en (.f (m1)) <| .nil) <| .nil) <| .nil) (by kernel_rfl)
end Go.AI

