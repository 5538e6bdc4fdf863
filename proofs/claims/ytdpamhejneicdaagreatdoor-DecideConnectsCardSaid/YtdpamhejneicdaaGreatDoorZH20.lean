/- The generator: choices, small types, variables. -/
import Derived.Test.YtdpamhejneicdaaGreatDoorZH16
import Derived.Test.YtdpamhejneicdaaGreatDoorZH19
namespace Go.AI
set_option linter.unusedVariables false
set_option linter.unusedSimpArgs false
open Go
set_option maxRecDepth 100000
set_option maxHeartbeats 4000000

abbrev Deck (t : List Int) (k : Nat) : Sig := [.box [.slice 1 (t.map (AV.int .i64)), .int .i64 (k : Int)] []]
theorem f24 (x : Int) (n : Nat) (h0 : 0 < n) (hn : n < 2 ^ 30) : ∃ y : Nat, y < n ∧ EvF G 24 [.int .i64 x, .int .i64 (n : Int)] (.int .i64 (y : Int)) := by
  have h1 := Int.lt_tmod_of_pos x (show (0 : Int) < n by omega)
  have h2 := Int.tmod_lt_of_pos x (show (0 : Int) < n by omega)
  have h3 := Int.tmod_nonneg (a := Int.tmod x n + n) n (by omega)
  have h4 := Int.tmod_lt_of_pos (Int.tmod x n + n) (show (0 : Int) < n by omega)
  refine ⟨(Int.tmod (Int.tmod x n + n) n).toNat, by omega, rfl, ?_⟩
  have e : IntKind.wrap .i64 (Int.tmod x n + n) = Int.tmod x n + n := wrapI (by omega) (by omega)
  have e2 : ((Int.tmod (Int.tmod x n + n) n).toNat : Int) = Int.tmod (Int.tmod x n + n) n := by omega
  rw [e2]
  have q : decide ((n : Int) ≠ 0) = true := decide_eq_true (by omega)
  exact Ev.run (.en (.u q) <| .en (.w (e)) <| .en (.u q) <| .nil) (by kernel_rfl)
theorem c47 (t : List Int) (k n : Nat) (h0 : 0 < n) (hn : n < 2 ^ 30) (ht : t.length ≤ 500) (hk : k ≤ t.length) : ∃ x k' : Nat, x < n ∧ k' ≤ t.length ∧ EvC G 47 [.ptr 0 0, .int .i64 (n : Int)] (Deck t k) false (.int .i64 (x : Int)) (Deck t k') := by
  have q1 : decide ((n : Int) < 1) = false := decide_eq_false (by omega)
  have hl : (t.map (AV.int .i64)).length = t.length := by simp
  by_cases h : k < t.length
  · obtain ⟨y, hy, h1⟩ := f24 t[k] n h0 hn
    have q2 : decide (((t.map (AV.int .i64)).length : Int) ≤ (k : Int)) = false := decide_eq_false (by omega)
    have g : (t.map (AV.int .i64))[k]? = some (.int .i64 t[k]) := by rw [List.getElem?_map, List.getElem?_eq_getElem h]; rfl
    have e : IntKind.wrap .i64 ((k : Int) + 1) = ((k + 1 : Nat) : Int) := wrapEq (by omega) (by omega)
    exact ⟨y, k + 1, hy, by omega, .with (by exact Ev.run (.en (.v q1) <| .en (.v q2) <| .en (.a g) <| .en (.w (e)) <| .en (.f (h1)) <| .nil) (by kernel_rfl)) rfl⟩
  · have q2 : decide (((t.map (AV.int .i64)).length : Int) ≤ (k : Int)) = true := decide_eq_true (by omega)
    exact ⟨0, k, h0, hk, .with (by exact Ev.run (.en (.v q1) <| .en (.v q2) <| .nil) (by kernel_rfl)) rfl⟩

/-- Types that are made at depth 0. -/
def Ty.base : Ty → Prop | .nat => True | .list => True | .unit => True | _ => False
theorem c53 (t : List Int) (k : Nat) (ht : t.length ≤ 500) (hk : k ≤ t.length) : ∃ (s : Ty) (k' : Nat), s.base ∧ k' ≤ t.length ∧ EvC G 53 [.ptr 0 0, .int .i64 0] (Deck t k) false s.enc (Deck t k') := by
  obtain ⟨x, k', hx, hk', h⟩ := c47 t k 7 (by omega) (by omega) ht hk
  have hx' : x = 0 ∨ x = 1 ∨ x = 2 ∨ x = 3 ∨ x = 4 ∨ x = 5 ∨ x = 6 := by omega
  rcases hx' with rfl | rfl | rfl | rfl | rfl | rfl | rfl
  · exact ⟨.nat, k', trivial, hk', .with (by exact Ev.run (.en (.r (h)) <| .sub (.nil) <| .nil) (by kernel_rfl)) rfl⟩
  · exact ⟨.nat, k', trivial, hk', .with (by exact Ev.run (.en (.r (h)) <| .sub (.nil) <| .nil) (by kernel_rfl)) rfl⟩
  · exact ⟨.nat, k', trivial, hk', .with (by exact Ev.run (.en (.r (h)) <| .sub (.nil) <| .nil) (by kernel_rfl)) rfl⟩
  · exact ⟨.list, k', trivial, hk', .with (by exact Ev.run (.en (.r (h)) <| .sub (.nil) <| .nil) (by kernel_rfl)) rfl⟩
  · exact ⟨.unit, k', trivial, hk', .with (by exact Ev.run (.en (.r (h)) <| .sub (.nil) <| .nil) (by kernel_rfl)) rfl⟩
  · exact ⟨.nat, k', trivial, hk', .with (by exact Ev.run (.en (.r (h)) <| .sub (.nil) <| .nil) (by kernel_rfl)) rfl⟩
  · exact ⟨.nat, k', trivial, hk', .with (by exact Ev.run (.en (.r (h)) <| .sub (.nil) <| .nil) (by kernel_rfl)) rfl⟩

theorem gflat (g : List Ty) : AV.flatL (g.map Ty.enc) = true := flatL_map _ fun (x : Ty) _ => x.flat
theorem f61 (g : List Ty) (l : List AV) (s : Ty) (hl : l = g.map Ty.enc) (hg : g.length < 1000) : EvF G 61 [.slice 2 l, .slice 2 [s.enc]] (.slice 2 (l ++ [s.enc])) := ⟨by rw [hl]; simp [AV.flatL, AV.flat, gflat, s.flat], by
  have hln : l.length = g.length := by rw [hl]; simp
  have q : decide (0 + l.length ≤ 4294967296) = true := decide_eq_true (by omega)
  have q2 : decide (l.length + 1 ≤ 4294967296) = true := decide_eq_true (by omega)
  have q3 : decide (([] ++ l).length + 1 ≤ 4294967296) = true := decide_eq_true (by simp; omega)
  exact Ev.run (.en (.u q) <| .en (.u q3) <| .nil) (by kernel_rfl)⟩
theorem f61_2 (g : List Ty) (l : List AV) (s s2 : Ty) (hl : l = g.map Ty.enc) (hg : g.length < 1000) : EvF G 61 [.slice 2 l, .slice 2 [s.enc, s2.enc]] (.slice 2 (l ++ [s.enc, s2.enc])) := ⟨by rw [hl]; simp [AV.flatL, AV.flat, gflat, s.flat, s2.flat], by
  have hln : l.length = g.length := by rw [hl]; simp
  have q : decide (0 + l.length ≤ 4294967296) = true := decide_eq_true (by omega)
  have q2 : decide (l.length + 2 ≤ 4294967296) = true := decide_eq_true (by omega)
  have q3 : decide (([] ++ l).length + 2 ≤ 4294967296) = true := decide_eq_true (by simp; omega)
  exact Ev.run (.en (.u q) <| .en (.u q3) <| .nil) (by kernel_rfl)⟩
theorem f61_3 (g : List Ty) (l : List AV) (s s2 s3 : Ty) (hl : l = g.map Ty.enc) (hg : g.length < 1000) : EvF G 61 [.slice 2 l, .slice 2 [s.enc, s2.enc, s3.enc]] (.slice 2 (l ++ [s.enc, s2.enc, s3.enc])) := ⟨by rw [hl]; simp [AV.flatL, AV.flat, gflat, s.flat, s2.flat, s3.flat], by
  have hln : l.length = g.length := by rw [hl]; simp
  have q : decide (0 + l.length ≤ 4294967296) = true := decide_eq_true (by omega)
  have q2 : decide (l.length + 3 ≤ 4294967296) = true := decide_eq_true (by omega)
  have q3 : decide (([] ++ l).length + 3 ≤ 4294967296) = true := decide_eq_true (by simp; omega)
  exact Ev.run (.en (.u q) <| .en (.u q3) <| .nil) (by kernel_rfl)⟩

/-- The variables of a type. -/
def vIdx (g : List Ty) (s : Ty) : Nat → Nat → List Nat
  | 0, _ => []
  | m + 1, i => if g[g.length - 1 - i]? = some s then i :: vIdx g s m (i + 1) else vIdx g s m (i + 1)
theorem vIdx_mem {g : List Ty} {s : Ty} : ∀ (m i : Nat), i + m = g.length → ∀ j ∈ vIdx g s m i, j < g.length ∧ g[g.length - 1 - j]? = some s
  | 0, i, _, j, h => by simp [vIdx] at h
  | m + 1, i, him, j, h => by
    simp only [vIdx] at h
    split at h
    · rename_i hs
      rcases List.mem_cons.1 h with rfl | h
      · exact ⟨by omega, hs⟩
      · exact vIdx_mem m (i + 1) (by omega) j h
    · exact vIdx_mem m (i + 1) (by omega) j h
theorem vIdx_len {g : List Ty} {s : Ty} : ∀ (m i : Nat), (vIdx g s m i).length ≤ m
  | 0, i => by simp [vIdx]
  | m + 1, i => by simp only [vIdx]; have := vIdx_len (g := g) (s := s) m (i + 1); split <;> simp <;> omega
abbrev iN (x : Nat) : AV := .int .i64 (x : Int)
theorem loop126 (g : List Ty) (l : List AV) (s : Ty) (hl : l = g.map Ty.enc) (hg : g.length < 1000) : ∀ (m i : Nat) (acc : List AV), i + m = g.length → acc.length + m < 2000 →
    Ev G (.loop (eeOf G 126 0 none) (.loop (lpOf G 126 0)) (mkEnv [(0, .val (.slice 2 l) []), (3, .loc [.int .i64 s.k, .slice 2 s.a] []), (5, .val (.slice 1 acc) [0]), (8, .val (.int .i64 (l.length : Int)) []), (9, .val (.int .i64 (i : Int)) [])]) [])
      (.code (.exit 0) (mkEnv [(5, .val (.slice 1 (acc ++ (vIdx g s m i).map iN)) [0])]) [])
  | 0, i, acc, him, ha => by
    have hln : l.length = g.length := by rw [hl]; simp
    rw [show acc ++ (vIdx g s 0 i).map iN = acc by simp [vIdx]]
    have q : decide ((i : Int) < (l.length : Int)) = false := decide_eq_false (by omega)
    exact Ev.run (.en (.v q) <| .nil) (by kernel_rfl)
  | m + 1, i, acc, him, ha => by
    have hln : l.length = g.length := by rw [hl]; simp
    have q : decide ((i : Int) < (l.length : Int)) = true := decide_eq_true (by omega)
    have w : IntKind.wrap .i64 ((i : Int) + 1) = ((i + 1 : Nat) : Int) := wrapEq (by omega) (by omega)
    have w1 : IntKind.wrap .i64 ((l.length : Int) - 1) = ((g.length - 1 : Nat) : Int) := wrapEq (by omega) (by omega)
    have w2 : IntKind.wrap .i64 (((g.length - 1 : Nat) : Int) - (i : Int)) = ((g.length - 1 - i : Nat) : Int) := wrapEq (by omega) (by omega)
    obtain ⟨x, hx⟩ : ∃ x, g[g.length - 1 - i]? = some x := ⟨_, List.getElem?_eq_getElem (by omega)⟩
    have hget : l[g.length - 1 - i]? = some x.enc := by rw [hl, List.getElem?_map, hx]; rfl
    have k := f40 x s
    have q2 : decide (acc.length + 1 ≤ 4294967296) = true := decide_eq_true (by omega)
    by_cases h : x = s
    · have ih := loop126 g l s hl hg m (i + 1) (acc ++ [iN i]) (by omega) (by simp; omega)
      rw [show acc ++ (vIdx g s (m + 1) i).map iN = (acc ++ [iN i]) ++ (vIdx g s m (i + 1)).map iN by simp [vIdx, hx, h]]
      have e := decide_eq_true h
      exact Ev.run (.en (.v q) <| .en (.w (w1)) <| .en (.w (w2)) <| .en (.a hget) <| .en (.f (k)) <| .en (.b e) <| .en (.u q2) <| .en (.w (w)) <| .en (.c ih) <| .nil) (by kernel_rfl)
    · have ih := loop126 g l s hl hg m (i + 1) acc (by omega) (by omega)
      rw [show acc ++ (vIdx g s (m + 1) i).map iN = acc ++ (vIdx g s m (i + 1)).map iN by simp [vIdx, hx, h]]
      have e := decide_eq_false h
      exact Ev.run (.en (.v q) <| .en (.w (w1)) <| .en (.w (w2)) <| .en (.a hget) <| .en (.f (k)) <| .en (.b e) <| .en (.w (w)) <| .en (.c ih) <| .nil) (by kernel_rfl)
theorem f126 (g : List Ty) (l : List AV) (s : Ty) (hl : l = g.map Ty.enc) (hg : g.length < 1000) : EvF G 126 [.slice 2 l, s.enc] (.slice 1 ((vIdx g s g.length 0).map iN)) := ⟨by rw [hl]; simp [AV.flatL, AV.flat, gflat, s.flat], by
  have k := loop126 g l s hl hg g.length 0 [] (by omega) (by simp; omega)
  rw [List.nil_append] at k
  exact Ev.run (.en (.c k) <| .nil) (by kernel_rfl)⟩

/-! ### Terms at depth 0 -/

theorem c60_0 (t : List Int) (ht : t.length ≤ 500) {g : List Ty} {l : List AV} {s : Ty} (hl : l = g.map Ty.enc) (hg : g.length < 1000) (hs : s.base) (k : Nat) (hk : k ≤ t.length) :
    ∃ (x : Tm) (k' : Nat), HasTy g x s ∧ x.nf ∧ x.size ≤ 3 ∧ k' ≤ t.length ∧ EvC G 60 [.ptr 0 0, .slice 2 l, s.enc, .int .i64 0] (Deck t k) false x.enc (Deck t k') := by
  have hv := f126 g l s hl hg
  have hmem := vIdx_mem (g := g) (s := s) g.length 0 (by omega)
  have hlen := vIdx_len (g := g) (s := s) g.length 0
  -- what is made without a variable
  have rest : ∀ k1, k1 ≤ t.length → ∃ (x : Tm) (k' : Nat), HasTy g x s ∧ x.nf ∧ x.size ≤ 3 ∧ k' ≤ t.length ∧
      (s = .nat → ∃ y : Nat, y < 3 ∧ x = .num y ∧ EvC G 47 [.ptr 0 0, .int .i64 3] (Deck t k1) false (.int .i64 (y : Int)) (Deck t k')) ∧ (s ≠ .nat → k' = k1) ∧ (s = .list → x = .nil) ∧ (s = .unit → x = .unit) := by
    intro k1 hk1
    cases s with
    | nat =>
      obtain ⟨y, k', hy, hk', h⟩ := c47 t k1 3 (by omega) (by omega) ht hk1
      exact ⟨.num y, k', Tm.num_ty y g, Tm.num_nf y, by rw [Tm.num_size]; omega, hk', fun _ => ⟨y, hy, rfl, h⟩, fun h => absurd rfl h, (fun h => by cases h), (fun h => by cases h)⟩
    | list => exact ⟨.nil, k1, .nil, trivial, by simp [Tm.size], hk1, (fun h => by cases h), (fun _ => rfl), (fun _ => rfl), (fun h => by cases h)⟩
    | unit => exact ⟨.unit, k1, .unit, trivial, by simp [Tm.size], hk1, (fun h => by cases h), (fun _ => rfl), (fun h => by cases h), (fun _ => rfl)⟩
    | pair _ _ => exact hs.elim
    | fn _ _ => exact hs.elim
  generalize hL : vIdx g s g.length 0 = L at hv hmem hlen
  have f29' := f29
  cases L with
  | nil =>
    obtain ⟨x, k', hx, hn, hsz, hk', hnat, hoth, hli, hun⟩ := rest k hk
    refine ⟨x, k', hx, hn, hsz, hk', .with ?_ rfl⟩
    cases s with
    | nat =>
      obtain ⟨y, hy, rfl, h⟩ := hnat rfl
      have hf := f28 (n := y) (by omega)
      clear rest hnat hoth hli hun f29'
      exact Ev.run (.en (.f (hv)) <| .en (.r (h)) <| .en (.f (hf)) <| .nil) (by kernel_rfl)
    | list => obtain rfl := hoth (by simp); obtain rfl := hli rfl; clear rest hnat hoth hli hun f29'; exact Ev.run (.en (.f (hv)) <| .sub (.sub (.nil) <| .nil) <| .nil) (by kernel_rfl)
    | unit => obtain rfl := hoth (by simp); obtain rfl := hun rfl; clear rest hnat hoth hli hun f29'; exact Ev.run (.en (.f (hv)) <| .sub (.sub (.nil) <| .nil) <| .nil) (by kernel_rfl)
    | pair _ _ => exact hs.elim
    | fn _ _ => exact hs.elim
  | cons i0 L =>
    have q : decide ((0 : Int) < ((((i0 :: L).map iN).length : Nat) : Int)) = true := decide_eq_true (by simp only [List.length_map, List.length_cons]; omega)
    obtain ⟨c, k1, hc, hk1, hnext⟩ := c47 t k 3 (by omega) (by omega) ht hk
    by_cases h0 : c = 0
    · subst h0
      obtain ⟨x, k', hx, hn, hsz, hk', hnat, hoth, hli, hun⟩ := rest k1 hk1
      refine ⟨x, k', hx, hn, hsz, hk', .with ?_ rfl⟩
      cases s with
      | nat =>
        obtain ⟨y, hy, rfl, h⟩ := hnat rfl
        have hf := f28 (n := y) (by omega)
        clear rest hnat hoth hli hun f29'
        exact Ev.run (.en (.f (hv)) <| .en (.v q) <| .en (.r (hnext)) <| .en (.r (h)) <| .en (.f (hf)) <| .nil) (by kernel_rfl)
      | list => obtain rfl := hoth (by simp); obtain rfl := hli rfl; clear rest hnat hoth hli hun f29'; exact Ev.run (.en (.f (hv)) <| .en (.v q) <| .en (.r (hnext)) <| .sub (.sub (.nil) <| .nil) <| .nil) (by kernel_rfl)
      | unit => obtain rfl := hoth (by simp); obtain rfl := hun rfl; clear rest hnat hoth hli hun f29'; exact Ev.run (.en (.f (hv)) <| .en (.v q) <| .en (.r (hnext)) <| .sub (.sub (.nil) <| .nil) <| .nil) (by kernel_rfl)
      | pair _ _ => exact hs.elim
      | fn _ _ => exact hs.elim
    · have q2 : decide ((0 : Int) < (c : Int)) = true := decide_eq_true (by omega)
      obtain ⟨y, k2, hy, hk2, hnext2⟩ := c47 t k1 ((i0 :: L).map iN).length (by simp) (by simp at hlen ⊢; omega) ht hk1
      rw [List.length_map] at hy
      obtain ⟨i, hi⟩ : ∃ i, (i0 :: L)[y]? = some i := ⟨_, List.getElem?_eq_getElem hy⟩
      have hget : ((i0 :: L).map iN)[y]? = some (.int .i64 (i : Int)) := by rw [List.getElem?_map, hi]; rfl
      obtain ⟨hi1, hi2⟩ := hmem i (List.mem_of_getElem? hi)
      have hf := f29 i
      refine ⟨.var i, k2, .var hi1 hi2, trivial, by simp [Tm.size], hk2, .with ?_ rfl⟩
      clear rest f29'
      exact Ev.run (.en (.f (hv)) <| .en (.v q) <| .en (.r (hnext)) <| .en (.v q2) <| .en (.r (hnext2)) <| .en (.a hget) <| .en (.f (hf)) <| .nil) (by kernel_rfl)
end Go.AI

