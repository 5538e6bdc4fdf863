/- The generator: numbers at depth 1. -/
import Derived.Test.YtdpamhejneicdaaGreatDoorZH20
namespace Go.AI
set_option linter.unusedVariables false
set_option linter.unusedSimpArgs false
open Go
set_option maxRecDepth 100000
set_option maxHeartbeats 4000000

def Ty.noFn : Ty → Prop | .fn _ _ => False | _ => True
theorem Ty.base_noFn {s : Ty} (h : s.base) : s.noFn := by cases s <;> first | trivial | exact h.elim
theorem Ty.base_size {s : Ty} (h : s.base) : s.size = 1 := by cases s <;> first | rfl | exact h.elim
abbrev EV60 (l : List AV) (i : Nat) : Env := mkEnv [(0, .val (.ptr 0 0) []), (1, .val (.slice 2 l) []), (3, .val (.int .i64 1) []), (6, .loc [.int .i64 1, .slice 2 []] []), (8, .loc [.int .i64 0, .int .i64 0, .int .i64 0, .slice 2 [], .slice 5 []] [3, 4]), (176, .val (.int .i64 (l.length : Int)) []), (177, .val (.int .i64 (i : Int)) [])]
theorem loop60 (σ : Sig) (B : Nat) (g : List Ty) (l : List AV) (hl : l = g.map Ty.enc) (hg : g.length < 1000) (hn : ∀ s ∈ g, s.noFn) : ∀ (m i : Nat), i + m = g.length →
    Ev G (.loop (eeOf G 60 B none) (.loop (lpOf G 60 0)) (EV60 l i) σ)
      (.code (.exit 1) (mkEnv [(0, .val (.ptr 0 0) []), (1, .val (.slice 2 l) []), (3, .val (.int .i64 1) []), (6, .loc [.int .i64 1, .slice 2 []] []), (8, .loc [.int .i64 0, .int .i64 0, .int .i64 0, .slice 2 [], .slice 5 []] [3, 4])]) σ)
  | 0, i, him => by
    have hln : l.length = g.length := by rw [hl]; simp
    have q : decide ((i : Int) < (l.length : Int)) = false := decide_eq_false (by omega)
    exact Ev.run (.en (.v q) <| .nil) (by kernel_rfl)
  | m + 1, i, him => by
    have hln : l.length = g.length := by rw [hl]; simp
    have q : decide ((i : Int) < (l.length : Int)) = true := decide_eq_true (by omega)
    have w : IntKind.wrap .i64 ((i : Int) + 1) = ((i + 1 : Nat) : Int) := wrapEq (by omega) (by omega)
    have w1 : IntKind.wrap .i64 ((l.length : Int) - 1) = ((g.length - 1 : Nat) : Int) := wrapEq (by omega) (by omega)
    have w2 : IntKind.wrap .i64 (((g.length - 1 : Nat) : Int) - (i : Int)) = ((g.length - 1 - i : Nat) : Int) := wrapEq (by omega) (by omega)
    obtain ⟨x, hx⟩ : ∃ x, g[g.length - 1 - i]? = some x := ⟨_, List.getElem?_eq_getElem (by omega)⟩
    have hget : l[g.length - 1 - i]? = some x.enc := by rw [hl, List.getElem?_map, hx]; rfl
    have ih := loop60 σ B g l hl hg hn m (i + 1) (by omega)
    have hnf := hn x (List.mem_of_getElem? hx)
    have q4 : ((x.k : Int) == 4) = false := by cases x <;> first | rfl | exact hnf.elim
    exact Ev.run (.en (.v q) <| .en (.w (w1)) <| .en (.w (w2)) <| .en (.a hget) <| .en (.v q4) <| .en (.w (w)) <| .en (.c ih) <| .nil) (by kernel_rfl)

theorem subM_nf : subM.nf := by simp [subM, predM, Tm.nf]
theorem plusM_nf : plusM.nf := by simp [plusM, Tm.nf]
theorem plusM_size : plusM.size = 9 := by decide
theorem list_ok : Ty.list.ok := by simp [Ty.ok, Ty.size]
theorem ok_small {s : Ty} (h : s.size ≤ 64) : s.ok := h
/-- What is known of a number that is made. -/
structure Made1 (g : List Ty) (x : Tm) : Prop where
  ty : HasTy g x .nat
  n1 : x.n1
  size : x.size ≤ 30
theorem flA2 {f a b : AV} (hf : f.flat = true) (ha : a.flat = true) (hb : b.flat = true) : AV.flatL [f, .slice 5 [a, b]] = true := by simp [AV.flatL, AV.flat, hf, ha, hb]

/-- The end of a term of numbers: a successor, a sum, a difference, a number. -/
theorem tail60 (t : List Int) (ht : t.length ≤ 500) {g : List Ty} {l : List AV} (hl : l = g.map Ty.enc) (hg : g.length < 900) (k0 : Nat) (hk0 : k0 ≤ t.length) :
    ∃ (x : Tm) (k' : Nat), Made1 g x ∧ k' ≤ t.length ∧ ∃ (c k1 : Nat), EvC G 47 [.ptr 0 0, .int .i64 5] (Deck t k0) false (.int .i64 (c : Int)) (Deck t k1) ∧
      ((c = 0 ∧ ∃ a, x = .succ a ∧ EvC G 60 [.ptr 0 0, .slice 2 l, Ty.nat.enc, .int .i64 0] (Deck t k1) false a.enc (Deck t k')) ∨
       (c = 1 ∧ ∃ a b k2, x = .app (.app plusM a) b ∧ EvC G 60 [.ptr 0 0, .slice 2 l, Ty.nat.enc, .int .i64 0] (Deck t k1) false a.enc (Deck t k2) ∧ EvC G 60 [.ptr 0 0, .slice 2 l, Ty.nat.enc, .int .i64 0] (Deck t k2) false b.enc (Deck t k')) ∨
       (c = 2 ∧ ∃ a b k2, x = .app (.app subM a) b ∧ EvC G 60 [.ptr 0 0, .slice 2 l, Ty.nat.enc, .int .i64 0] (Deck t k1) false a.enc (Deck t k2) ∧ EvC G 60 [.ptr 0 0, .slice 2 l, Ty.nat.enc, .int .i64 0] (Deck t k2) false b.enc (Deck t k')) ∨
       ((c = 3 ∨ c = 4) ∧ ∃ y : Nat, y < 3 ∧ x = .num y ∧ EvC G 47 [.ptr 0 0, .int .i64 3] (Deck t k1) false (.int .i64 (y : Int)) (Deck t k'))) := by
  obtain ⟨c, k1, hc, hk1, h⟩ := c47 t k0 5 (by omega) (by omega) ht hk0
  have hc' : c = 0 ∨ c = 1 ∨ c = 2 ∨ (c = 3 ∨ c = 4) := by omega
  rcases hc' with rfl | rfl | rfl | hc
  · obtain ⟨a, k2, ta, na, za, la, ha⟩ := c60_0 t ht (s := .nat) hl (by omega) trivial k1 hk1
    exact ⟨.succ a, k2, ⟨.succ ta, na, by simp only [Tm.size]; omega⟩, la, 0, k1, h, .inl ⟨rfl, a, rfl, ha⟩⟩
  · obtain ⟨a, k2, ta, na, za, la, ha⟩ := c60_0 t ht (s := .nat) hl (by omega) trivial k1 hk1
    obtain ⟨b, k3, tb, nb, zb, lb, hb⟩ := c60_0 t ht (s := .nat) hl (by omega) trivial k2 la
    exact ⟨_, k3, ⟨.app (.app (plusM_ty g) ta) tb, ⟨⟨plusM_nf, na⟩, nb⟩, by simp only [Tm.size, plusM_size]; omega⟩, lb, 1, k1, h, .inr (.inl ⟨rfl, a, b, k2, rfl, ha, hb⟩)⟩
  · obtain ⟨a, k2, ta, na, za, la, ha⟩ := c60_0 t ht (s := .nat) hl (by omega) trivial k1 hk1
    obtain ⟨b, k3, tb, nb, zb, lb, hb⟩ := c60_0 t ht (s := .nat) hl (by omega) trivial k2 la
    exact ⟨_, k3, ⟨.app (.app (subM_ty g) ta) tb, ⟨⟨subM_nf, na⟩, nb⟩, by simp only [Tm.size, subM_size]; omega⟩, lb, 2, k1, h, .inr (.inr (.inl ⟨rfl, a, b, k2, rfl, ha, hb⟩))⟩
  · obtain ⟨y, k2, hy, hk2, hn⟩ := c47 t k1 3 (by omega) (by omega) ht hk1
    exact ⟨.num y, k2, ⟨Tm.num_ty y g, Tm.nf_n1 (Tm.num_nf y), by rw [Tm.num_size]; omega⟩, hk2, c, k1, h, .inr (.inr (.inr ⟨hc, y, hy, rfl, hn⟩))⟩

theorem c60_1 (t : List Int) (ht : t.length ≤ 500) {g : List Ty} {l : List AV} (hl : l = g.map Ty.enc) (hg : g.length < 800) (hnf : ∀ s ∈ g, s.noFn) (k : Nat) (hk : k ≤ t.length) :
    ∃ (x : Tm) (k' : Nat), Made1 g x ∧ k' ≤ t.length ∧ EvC G 60 [.ptr 0 0, .slice 2 l, Ty.nat.enc, .int .i64 1] (Deck t k) false x.enc (Deck t k') := by
  have hv := f126 g l .nat hl (by omega)
  have hmem := vIdx_mem (g := g) (s := .nat) g.length 0 (by omega)
  have hlen := vIdx_len (g := g) (s := .nat) g.length 0
  generalize hL : vIdx g .nat g.length 0 = L at hv hmem hlen
  -- behind the variables
  have body : ∀ k0, k0 ≤ t.length → (L = [] ∧ k0 = k) ∨ (L ≠ [] ∧ EvC G 47 [.ptr 0 0, .int .i64 3] (Deck t k) false (.int .i64 0) (Deck t k0)) →
      ∃ (x : Tm) (k' : Nat), Made1 g x ∧ k' ≤ t.length ∧ EvC G 60 [.ptr 0 0, .slice 2 l, Ty.nat.enc, .int .i64 1] (Deck t k) false x.enc (Deck t k') := by
    intro k0 hk0 hpre
    have q : L ≠ [] → decide ((0 : Int) < ((((L).map iN).length : Nat) : Int)) = true := fun h => decide_eq_true (by simp only [List.length_map]; have := List.length_pos_iff.2 h; omega)
    obtain ⟨c, k1, hc, hk1, hnext⟩ := c47 t k0 8 (by omega) (by omega) ht hk0
    have hc' : c = 0 ∨ c = 1 ∨ c = 2 ∨ c = 3 ∨ c = 4 ∨ c = 5 ∨ c = 6 ∨ c = 7 := by omega
    rcases hc' with rfl | rfl | rfl | rfl | rfl | rfl | rfl | rfl
    · obtain ⟨s, k2, hs, hk2, h53⟩ := c53 t k1 ht hk1
      obtain ⟨a, k3, ta, na, za, la, ha⟩ := c60_0 t ht (g := g ++ [s]) (l := l ++ [s.enc]) (s := .nat) (by rw [hl]; simp) (by simp; omega) trivial k2 hk2
      obtain ⟨b, k4, tb, nb, zb, lb, hb⟩ := c60_0 t ht (s := s) hl (by omega) hs k3 la
      have h61 := f61 g l s hl (by omega)
      have m1 := f128_1 2 s a
      have m2 := f127_2 3 (.lam s a) b
      refine ⟨.app (.lam s a) b, k4, ⟨.app (.lam (ok_small (by rw [Ty.base_size hs]; omega)) ta (ok_small (by simp only [Ty.size, Ty.base_size hs]; omega))) tb, ⟨na, nb⟩, by simp only [Tm.size]; omega⟩, lb, .with ?_ rfl⟩
      rcases hpre with ⟨rfl, rfl⟩ | ⟨hne, hpre⟩
      · clear q hmem hlen
        exact Ev.run (.en (.f (hv)) <| .en (.r (hnext)) <| .en (.r (h53)) <| .en (.f (h61)) <| .en (.r (ha)) <| .en (.f (m1)) <| .en (.r (hb)) <| .en (.f (m2)) <| .nil) (by kernel_rfl)
      · have q' := q hne
        clear q hmem hlen
        exact Ev.run (.en (.f (hv)) <| .en (.v q') <| .en (.r (hpre)) <| .en (.r (hnext)) <| .en (.r (h53)) <| .en (.f (h61)) <| .en (.r (ha)) <| .en (.f (m1)) <| .en (.r (hb)) <| .en (.f (m2)) <| .nil) (by kernel_rfl)
    · obtain ⟨s, k2, hs, hk2, h53⟩ := c53 t k1 ht hk1
      obtain ⟨a, k3, ta, na, za, la, ha⟩ := c60_0 t ht (s := .nat) hl (by omega) trivial k2 hk2
      obtain ⟨b, k4, tb, nb, zb, lb, hb⟩ := c60_0 t ht (s := s) hl (by omega) hs k3 la
      have m1 := f127_2 10 a b
      have m2 := f127_1 11 (.pair a b)
      refine ⟨.fst (.pair a b), k4, ⟨.fst (.pair ta tb (ok_small (by simp only [Ty.size, Ty.base_size hs]; omega))), ⟨na, nb⟩, by simp only [Tm.size]; omega⟩, lb, .with ?_ rfl⟩
      rcases hpre with ⟨rfl, rfl⟩ | ⟨hne, hpre⟩
      · clear q hmem hlen
        exact Ev.run (.en (.f (hv)) <| .en (.r (hnext)) <| .en (.r (h53)) <| .en (.r (ha)) <| .en (.r (hb)) <| .en (.f (m1)) <| .en (.f (m2)) <| .nil) (by kernel_rfl)
      · have q' := q hne
        clear q hmem hlen
        exact Ev.run (.en (.f (hv)) <| .en (.v q') <| .en (.r (hpre)) <| .en (.r (hnext)) <| .en (.r (h53)) <| .en (.r (ha)) <| .en (.r (hb)) <| .en (.f (m1)) <| .en (.f (m2)) <| .nil) (by kernel_rfl)
    · obtain ⟨a, k2, ta, na, za, la, ha⟩ := c60_0 t ht (g := g ++ [.nat, .nat]) (l := l ++ [Ty.nat.enc, Ty.nat.enc]) (s := .nat) (by rw [hl]; simp) (by simp; omega) trivial k1 hk1
      obtain ⟨b, k3, tb, nb, zb, lb, hb⟩ := c60_0 t ht (s := .nat) hl (by omega) trivial k2 la
      obtain ⟨y, k4, hy, hk4, h3⟩ := c47 t k3 3 (by omega) (by omega) ht lb
      have h61 := f61_2 g l .nat .nat hl (by omega)
      have m1 := f128_1 2 .nat a
      have m2 := f128_1 2 .nat (.lam .nat a)
      have m3 := f28 (n := y) (by omega)
      have m4 := f128_3 6 .nat b (.lam .nat (.lam .nat a)) (.num y)
      refine ⟨.recN .nat b (.lam .nat (.lam .nat a)) (.num y), k4, ⟨.recN nat_ok tb (.lam nat_ok (.lam nat_ok (by simpa using ta) fn_nat_ok) fn2_nat_ok) (Tm.num_ty y g), ⟨nb, na, Tm.num_nf y⟩, by simp only [Tm.size, Tm.num_size]; omega⟩, hk4, .with ?_ rfl⟩
      rcases hpre with ⟨rfl, rfl⟩ | ⟨hne, hpre⟩
      · clear q hmem hlen
        exact Ev.run (.en (.f (hv)) <| .en (.r (hnext)) <| .en (.f (f23)) <| .en (.f (f23)) <| .en (.f (h61)) <| .en (.r (ha)) <| .en (.f (m1)) <| .en (.f (m2)) <| .en (.r (hb)) <| .en (.r (h3)) <| .en (.f (m3)) <| .en (.f (m4)) <| .nil) (by kernel_rfl)
      · have q' := q hne
        clear q hmem hlen
        exact Ev.run (.en (.f (hv)) <| .en (.v q') <| .en (.r (hpre)) <| .en (.r (hnext)) <| .en (.f (f23)) <| .en (.f (f23)) <| .en (.f (h61)) <| .en (.r (ha)) <| .en (.f (m1)) <| .en (.f (m2)) <| .en (.r (hb)) <| .en (.r (h3)) <| .en (.f (m3)) <| .en (.f (m4)) <| .nil) (by kernel_rfl)
    · obtain ⟨a, k2, ta, na, za, la, ha⟩ := c60_0 t ht (g := g ++ [.nat, .list, .nat]) (l := l ++ [Ty.nat.enc, Ty.list.enc, Ty.nat.enc]) (s := .nat) (by rw [hl]; simp) (by simp; omega) trivial k1 hk1
      obtain ⟨b, k3, tb, nb, zb, lb, hb⟩ := c60_0 t ht (s := .nat) hl (by omega) trivial k2 la
      obtain ⟨c, k4, tc, nc, zc, lc, hc⟩ := c60_0 t ht (s := .list) hl (by omega) trivial k3 lb
      have h61 := f61_3 g l .nat .list .nat hl (by omega)
      have m1 := f128_1 2 .nat a
      have m2 := f128_1 2 .list (.lam .nat a)
      have m3 := f128_1 2 .nat (.lam .list (.lam .nat a))
      have m4 := f128_3 9 .nat b (.lam .nat (.lam .list (.lam .nat a))) c
      refine ⟨.fold .nat b (.lam .nat (.lam .list (.lam .nat a))) c, k4, ⟨.fold nat_ok tb (.lam nat_ok (.lam list_ok (.lam nat_ok (by simpa using ta) fn_nat_ok) (by simp [Ty.ok, Ty.size])) (by simp [Ty.ok, Ty.size])) tc, ⟨nb, na, nc⟩, by simp only [Tm.size]; omega⟩, lc, .with ?_ rfl⟩
      rcases hpre with ⟨rfl, rfl⟩ | ⟨hne, hpre⟩
      · clear q hmem hlen
        exact Ev.run (.en (.f (hv)) <| .en (.r (hnext)) <| .en (.f (f23)) <| .en (.f (f94)) <| .en (.f (f23)) <| .en (.f (f94)) <| .en (.f (h61)) <| .en (.r (ha)) <| .en (.f (m1)) <| .en (.f (m2)) <| .en (.f (m3)) <| .en (.r (hb)) <| .en (.f (f94)) <| .en (.r (hc)) <| .en (.f (m4)) <| .nil) (by kernel_rfl)
      · have q' := q hne
        clear q hmem hlen
        exact Ev.run (.en (.f (hv)) <| .en (.v q') <| .en (.r (hpre)) <| .en (.r (hnext)) <| .en (.f (f23)) <| .en (.f (f94)) <| .en (.f (f23)) <| .en (.f (f94)) <| .en (.f (h61)) <| .en (.r (ha)) <| .en (.f (m1)) <| .en (.f (m2)) <| .en (.f (m3)) <| .en (.r (hb)) <| .en (.f (f94)) <| .en (.r (hc)) <| .en (.f (m4)) <| .nil) (by kernel_rfl)
    · obtain ⟨s, k2, hs, hk2, h53⟩ := c53 t k1 ht hk1
      obtain ⟨a, k3, ta, na, za, la, ha⟩ := c60_0 t ht (s := s) hl (by omega) hs k2 hk2
      obtain ⟨b, k4, tb, nb, zb, lb, hb⟩ := c60_0 t ht (s := .nat) hl (by omega) trivial k3 la
      have m1 := f127_2 10 a b
      have m2 := f127_1 12 (.pair a b)
      refine ⟨.snd (.pair a b), k4, ⟨.snd (.pair ta tb (ok_small (by simp only [Ty.size, Ty.base_size hs]; omega))), ⟨na, nb⟩, by simp only [Tm.size]; omega⟩, lb, .with ?_ rfl⟩
      rcases hpre with ⟨rfl, rfl⟩ | ⟨hne, hpre⟩
      · clear q hmem hlen
        exact Ev.run (.en (.f (hv)) <| .en (.r (hnext)) <| .en (.r (h53)) <| .en (.r (ha)) <| .en (.r (hb)) <| .en (.f (m1)) <| .en (.f (m2)) <| .nil) (by kernel_rfl)
      · have q' := q hne
        clear q hmem hlen
        exact Ev.run (.en (.f (hv)) <| .en (.v q') <| .en (.r (hpre)) <| .en (.r (hnext)) <| .en (.r (h53)) <| .en (.r (ha)) <| .en (.r (hb)) <| .en (.f (m1)) <| .en (.f (m2)) <| .nil) (by kernel_rfl)
    · obtain ⟨x, k', hx, hk', c, k2, h5, htail⟩ := tail60 t ht hl (by omega) k1 hk1
      have hloop := loop60 (Deck t k1) 1 g l hl (by omega) hnf g.length 0 (by omega)
      refine ⟨x, k', hx, hk', .with ?_ rfl⟩
      rcases htail with ⟨rfl, a, rfl, ha⟩ | ⟨rfl, a, b, k3, rfl, ha, hb⟩ | ⟨rfl, a, b, k3, rfl, ha, hb⟩ | ⟨hc5, y, hy, rfl, hy3⟩
      · have m1 := f127_1 5 a
        rcases hpre with ⟨rfl, rfl⟩ | ⟨hne, hpre⟩
        · clear q hmem hlen
          exact Ev.run (.en (.f (hv)) <| .en (.r (hnext)) <| .en (.c hloop) <| .en (.r (h5)) <| .en (.r (ha)) <| .en (.f (m1)) <| .nil) (by kernel_rfl)
        · have q' := q hne
          clear q hmem hlen
          exact Ev.run (.en (.f (hv)) <| .en (.v q') <| .en (.r (hpre)) <| .en (.r (hnext)) <| .en (.c hloop) <| .en (.r (h5)) <| .en (.r (ha)) <| .en (.f (m1)) <| .nil) (by kernel_rfl)
      · have m1 := f127_2 3 plusM a
        have m2 := f127_2 3 (.app plusM a) b
        have fl := flA2 plusM.flat a.flat b.flat
        rcases hpre with ⟨rfl, rfl⟩ | ⟨hne, hpre⟩
        · clear q hmem hlen
          exact Ev.run (.en (.f (hv)) <| .en (.r (hnext)) <| .en (.c hloop) <| .en (.r (h5)) <| .en (.f (f130)) <| .en (.r (ha)) <| .en (.r (hb)) <| .subF fl (.sub (.en (.f (m1)) <| .sub (.en (.f (m2)) <| .sub (.nil) <| .nil) <| .nil) <| .nil) <| .nil) (by kernel_rfl)
        · have q' := q hne
          clear q hmem hlen
          exact Ev.run (.en (.f (hv)) <| .en (.v q') <| .en (.r (hpre)) <| .en (.r (hnext)) <| .en (.c hloop) <| .en (.r (h5)) <| .en (.f (f130)) <| .en (.r (ha)) <| .en (.r (hb)) <| .subF fl (.sub (.en (.f (m1)) <| .sub (.en (.f (m2)) <| .sub (.nil) <| .nil) <| .nil) <| .nil) <| .nil) (by kernel_rfl)
      · have m1 := f127_2 3 subM a
        have m2 := f127_2 3 (.app subM a) b
        have fl := flA2 subM.flat a.flat b.flat
        rcases hpre with ⟨rfl, rfl⟩ | ⟨hne, hpre⟩
        · clear q hmem hlen
          exact Ev.run (.en (.f (hv)) <| .en (.r (hnext)) <| .en (.c hloop) <| .en (.r (h5)) <| .en (.f (f131)) <| .en (.r (ha)) <| .en (.r (hb)) <| .subF fl (.sub (.en (.f (m1)) <| .sub (.en (.f (m2)) <| .sub (.nil) <| .nil) <| .nil) <| .nil) <| .nil) (by kernel_rfl)
        · have q' := q hne
          clear q hmem hlen
          exact Ev.run (.en (.f (hv)) <| .en (.v q') <| .en (.r (hpre)) <| .en (.r (hnext)) <| .en (.c hloop) <| .en (.r (h5)) <| .en (.f (f131)) <| .en (.r (ha)) <| .en (.r (hb)) <| .subF fl (.sub (.en (.f (m1)) <| .sub (.en (.f (m2)) <| .sub (.nil) <| .nil) <| .nil) <| .nil) <| .nil) (by kernel_rfl)
      · have m1 := f28 (n := y) (by omega)
        rcases hc5 with rfl | rfl
        · skip
          rcases hpre with ⟨rfl, rfl⟩ | ⟨hne, hpre⟩
          · clear q hmem hlen
            exact Ev.run (.en (.f (hv)) <| .en (.r (hnext)) <| .en (.c hloop) <| .en (.r (h5)) <| .en (.r (hy3)) <| .en (.f (m1)) <| .nil) (by kernel_rfl)
          · have q' := q hne
            clear q hmem hlen
            exact Ev.run (.en (.f (hv)) <| .en (.v q') <| .en (.r (hpre)) <| .en (.r (hnext)) <| .en (.c hloop) <| .en (.r (h5)) <| .en (.r (hy3)) <| .en (.f (m1)) <| .nil) (by kernel_rfl)
        · skip
          rcases hpre with ⟨rfl, rfl⟩ | ⟨hne, hpre⟩
          · clear q hmem hlen
            exact Ev.run (.en (.f (hv)) <| .en (.r (hnext)) <| .en (.c hloop) <| .en (.r (h5)) <| .en (.r (hy3)) <| .en (.f (m1)) <| .nil) (by kernel_rfl)
          · have q' := q hne
            clear q hmem hlen
            exact Ev.run (.en (.f (hv)) <| .en (.v q') <| .en (.r (hpre)) <| .en (.r (hnext)) <| .en (.c hloop) <| .en (.r (h5)) <| .en (.r (hy3)) <| .en (.f (m1)) <| .nil) (by kernel_rfl)
    · obtain ⟨x, k', hx, hk', c, k2, h5, htail⟩ := tail60 t ht hl (by omega) k1 hk1
      refine ⟨x, k', hx, hk', .with ?_ rfl⟩
      rcases htail with ⟨rfl, a, rfl, ha⟩ | ⟨rfl, a, b, k3, rfl, ha, hb⟩ | ⟨rfl, a, b, k3, rfl, ha, hb⟩ | ⟨hc5, y, hy, rfl, hy3⟩
      · have m1 := f127_1 5 a
        rcases hpre with ⟨rfl, rfl⟩ | ⟨hne, hpre⟩
        · clear q hmem hlen
          exact Ev.run (.en (.f (hv)) <| .en (.r (hnext)) <| .en (.r (h5)) <| .en (.r (ha)) <| .en (.f (m1)) <| .nil) (by kernel_rfl)
        · have q' := q hne
          clear q hmem hlen
          exact Ev.run (.en (.f (hv)) <| .en (.v q') <| .en (.r (hpre)) <| .en (.r (hnext)) <| .en (.r (h5)) <| .en (.r (ha)) <| .en (.f (m1)) <| .nil) (by kernel_rfl)
      · have m1 := f127_2 3 plusM a
        have m2 := f127_2 3 (.app plusM a) b
        have fl := flA2 plusM.flat a.flat b.flat
        rcases hpre with ⟨rfl, rfl⟩ | ⟨hne, hpre⟩
        · clear q hmem hlen
          exact Ev.run (.en (.f (hv)) <| .en (.r (hnext)) <| .en (.r (h5)) <| .en (.f (f130)) <| .en (.r (ha)) <| .en (.r (hb)) <| .subF fl (.sub (.en (.f (m1)) <| .sub (.en (.f (m2)) <| .sub (.nil) <| .nil) <| .nil) <| .nil) <| .nil) (by kernel_rfl)
        · have q' := q hne
          clear q hmem hlen
          exact Ev.run (.en (.f (hv)) <| .en (.v q') <| .en (.r (hpre)) <| .en (.r (hnext)) <| .en (.r (h5)) <| .en (.f (f130)) <| .en (.r (ha)) <| .en (.r (hb)) <| .subF fl (.sub (.en (.f (m1)) <| .sub (.en (.f (m2)) <| .sub (.nil) <| .nil) <| .nil) <| .nil) <| .nil) (by kernel_rfl)
      · have m1 := f127_2 3 subM a
        have m2 := f127_2 3 (.app subM a) b
        have fl := flA2 subM.flat a.flat b.flat
        rcases hpre with ⟨rfl, rfl⟩ | ⟨hne, hpre⟩
        · clear q hmem hlen
          exact Ev.run (.en (.f (hv)) <| .en (.r (hnext)) <| .en (.r (h5)) <| .en (.f (f131)) <| .en (.r (ha)) <| .en (.r (hb)) <| .subF fl (.sub (.en (.f (m1)) <| .sub (.en (.f (m2)) <| .sub (.nil) <| .nil) <| .nil) <| .nil) <| .nil) (by kernel_rfl)
        · have q' := q hne
          clear q hmem hlen
          exact Ev.run (.en (.f (hv)) <| .en (.v q') <| .en (.r (hpre)) <| .en (.r (hnext)) <| .en (.r (h5)) <| .en (.f (f131)) <| .en (.r (ha)) <| .en (.r (hb)) <| .subF fl (.sub (.en (.f (m1)) <| .sub (.en (.f (m2)) <| .sub (.nil) <| .nil) <| .nil) <| .nil) <| .nil) (by kernel_rfl)
      · have m1 := f28 (n := y) (by omega)
        rcases hc5 with rfl | rfl
        · skip
          rcases hpre with ⟨rfl, rfl⟩ | ⟨hne, hpre⟩
          · clear q hmem hlen
            exact Ev.run (.en (.f (hv)) <| .en (.r (hnext)) <| .en (.r (h5)) <| .en (.r (hy3)) <| .en (.f (m1)) <| .nil) (by kernel_rfl)
          · have q' := q hne
            clear q hmem hlen
            exact Ev.run (.en (.f (hv)) <| .en (.v q') <| .en (.r (hpre)) <| .en (.r (hnext)) <| .en (.r (h5)) <| .en (.r (hy3)) <| .en (.f (m1)) <| .nil) (by kernel_rfl)
        · skip
          rcases hpre with ⟨rfl, rfl⟩ | ⟨hne, hpre⟩
          · clear q hmem hlen
            exact Ev.run (.en (.f (hv)) <| .en (.r (hnext)) <| .en (.r (h5)) <| .en (.r (hy3)) <| .en (.f (m1)) <| .nil) (by kernel_rfl)
          · have q' := q hne
            clear q hmem hlen
            exact Ev.run (.en (.f (hv)) <| .en (.v q') <| .en (.r (hpre)) <| .en (.r (hnext)) <| .en (.r (h5)) <| .en (.r (hy3)) <| .en (.f (m1)) <| .nil) (by kernel_rfl)
    · obtain ⟨x, k', hx, hk', c, k2, h5, htail⟩ := tail60 t ht hl (by omega) k1 hk1
      refine ⟨x, k', hx, hk', .with ?_ rfl⟩
      rcases htail with ⟨rfl, a, rfl, ha⟩ | ⟨rfl, a, b, k3, rfl, ha, hb⟩ | ⟨rfl, a, b, k3, rfl, ha, hb⟩ | ⟨hc5, y, hy, rfl, hy3⟩
      · have m1 := f127_1 5 a
        rcases hpre with ⟨rfl, rfl⟩ | ⟨hne, hpre⟩
        · clear q hmem hlen
          exact Ev.run (.en (.f (hv)) <| .en (.r (hnext)) <| .en (.r (h5)) <| .en (.r (ha)) <| .en (.f (m1)) <| .nil) (by kernel_rfl)
        · have q' := q hne
          clear q hmem hlen
          exact Ev.run (.en (.f (hv)) <| .en (.v q') <| .en (.r (hpre)) <| .en (.r (hnext)) <| .en (.r (h5)) <| .en (.r (ha)) <| .en (.f (m1)) <| .nil) (by kernel_rfl)
      · have m1 := f127_2 3 plusM a
        have m2 := f127_2 3 (.app plusM a) b
        have fl := flA2 plusM.flat a.flat b.flat
        rcases hpre with ⟨rfl, rfl⟩ | ⟨hne, hpre⟩
        · clear q hmem hlen
          exact Ev.run (.en (.f (hv)) <| .en (.r (hnext)) <| .en (.r (h5)) <| .en (.f (f130)) <| .en (.r (ha)) <| .en (.r (hb)) <| .subF fl (.sub (.en (.f (m1)) <| .sub (.en (.f (m2)) <| .sub (.nil) <| .nil) <| .nil) <| .nil) <| .nil) (by kernel_rfl)
        · have q' := q hne
          clear q hmem hlen
          exact Ev.run (.en (.f (hv)) <| .en (.v q') <| .en (.r (hpre)) <| .en (.r (hnext)) <| .en (.r (h5)) <| .en (.f (f130)) <| .en (.r (ha)) <| .en (.r (hb)) <| .subF fl (.sub (.en (.f (m1)) <| .sub (.en (.f (m2)) <| .sub (.nil) <| .nil) <| .nil) <| .nil) <| .nil) (by kernel_rfl)
      · have m1 := f127_2 3 subM a
        have m2 := f127_2 3 (.app subM a) b
        have fl := flA2 subM.flat a.flat b.flat
        rcases hpre with ⟨rfl, rfl⟩ | ⟨hne, hpre⟩
        · clear q hmem hlen
          exact Ev.run (.en (.f (hv)) <| .en (.r (hnext)) <| .en (.r (h5)) <| .en (.f (f131)) <| .en (.r (ha)) <| .en (.r (hb)) <| .subF fl (.sub (.en (.f (m1)) <| .sub (.en (.f (m2)) <| .sub (.nil) <| .nil) <| .nil) <| .nil) <| .nil) (by kernel_rfl)
        · have q' := q hne
          clear q hmem hlen
          exact Ev.run (.en (.f (hv)) <| .en (.v q') <| .en (.r (hpre)) <| .en (.r (hnext)) <| .en (.r (h5)) <| .en (.f (f131)) <| .en (.r (ha)) <| .en (.r (hb)) <| .subF fl (.sub (.en (.f (m1)) <| .sub (.en (.f (m2)) <| .sub (.nil) <| .nil) <| .nil) <| .nil) <| .nil) (by kernel_rfl)
      · have m1 := f28 (n := y) (by omega)
        rcases hc5 with rfl | rfl
        · skip
          rcases hpre with ⟨rfl, rfl⟩ | ⟨hne, hpre⟩
          · clear q hmem hlen
            exact Ev.run (.en (.f (hv)) <| .en (.r (hnext)) <| .en (.r (h5)) <| .en (.r (hy3)) <| .en (.f (m1)) <| .nil) (by kernel_rfl)
          · have q' := q hne
            clear q hmem hlen
            exact Ev.run (.en (.f (hv)) <| .en (.v q') <| .en (.r (hpre)) <| .en (.r (hnext)) <| .en (.r (h5)) <| .en (.r (hy3)) <| .en (.f (m1)) <| .nil) (by kernel_rfl)
        · skip
          rcases hpre with ⟨rfl, rfl⟩ | ⟨hne, hpre⟩
          · clear q hmem hlen
            exact Ev.run (.en (.f (hv)) <| .en (.r (hnext)) <| .en (.r (h5)) <| .en (.r (hy3)) <| .en (.f (m1)) <| .nil) (by kernel_rfl)
          · have q' := q hne
            clear q hmem hlen
            exact Ev.run (.en (.f (hv)) <| .en (.v q') <| .en (.r (hpre)) <| .en (.r (hnext)) <| .en (.r (h5)) <| .en (.r (hy3)) <| .en (.f (m1)) <| .nil) (by kernel_rfl)
  cases L with
  | nil => exact body k hk (.inl ⟨rfl, rfl⟩)
  | cons i0 L =>
    obtain ⟨c, k1, hc, hk1, hnext⟩ := c47 t k 3 (by omega) (by omega) ht hk
    by_cases h0 : c = 0
    · subst h0
      exact body k1 hk1 (.inr ⟨by simp, hnext⟩)
    · have q : decide ((0 : Int) < ((((i0 :: L).map iN).length : Nat) : Int)) = true := decide_eq_true (by simp only [List.length_map, List.length_cons]; omega)
      have q2 : decide ((0 : Int) < (c : Int)) = true := decide_eq_true (by omega)
      obtain ⟨y, k2, hy, hk2, hnext2⟩ := c47 t k1 ((i0 :: L).map iN).length (by simp) (by simp at hlen ⊢; omega) ht hk1
      rw [List.length_map] at hy
      obtain ⟨i, hi⟩ : ∃ i, (i0 :: L)[y]? = some i := ⟨_, List.getElem?_eq_getElem hy⟩
      have hget : ((i0 :: L).map iN)[y]? = some (.int .i64 (i : Int)) := by rw [List.getElem?_map, hi]; rfl
      obtain ⟨hi1, hi2⟩ := hmem i (List.mem_of_getElem? hi)
      have hf := f29 i
      refine ⟨.var i, k2, ⟨.var hi1 hi2, trivial, by simp [Tm.size]⟩, hk2, .with ?_ rfl⟩
      clear body
      exact Ev.run (.en (.f (hv)) <| .en (.v q) <| .en (.r (hnext)) <| .en (.v q2) <| .en (.r (hnext2)) <| .en (.a hget) <| .en (.f (hf)) <| .nil) (by kernel_rfl)
end Go.AI

