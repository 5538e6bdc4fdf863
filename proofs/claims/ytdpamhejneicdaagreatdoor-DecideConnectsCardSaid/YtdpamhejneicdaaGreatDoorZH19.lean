/- decide answers; more work does no harm to it. -/
import Derived.Test.YtdpamhejneicdaaGreatDoorZH18
namespace Go.AI
set_option linter.unusedVariables false
set_option linter.unusedSimpArgs false
open Go

theorem numM_fuel {n n' : Nat} (hn : n ≤ n') {t : Tm} {r : Nat} {res : Option (Nat × Nat)} (h : numM n t r = some res) : numM n' t r = some res := by
  unfold numM at h ⊢
  split at h
  · rename_i he; rw [evalT_fuel hn he]; exact h
  · rename_i k r' he; rw [evalT_fuel hn he]; exact h
  · cases h
theorem numM_sh (q : Nat) {n : Nat} {t : Tm} {r k r' : Nat} (h : numM n t r = some (some (k, r'))) : numM n t (r + q) = some (some (k, r' + q)) := by
  unfold numM at h ⊢
  split at h
  · cases h
  · rename_i k r' he; rw [evalT_sh q n he]
    simp only [Option.some.injEq, Prod.mk.injEq] at h ⊢
    exact ⟨h.1, by omega⟩
  · cases h
theorem numM_snd {n : Nat} {t : Tm} {r : Nat} (hx : HasTy [] t .nat) (hn : t.n1) (hs : t.size ≤ 4096) (hr : r < n) (hb : r ≤ 65536) : numM n t r = some none ∨ ∃ k r', numM n t r = some (some (k, r')) ∧ r' ≤ r ∧ k ≤ r := by
  rcases evalT_snd hx hn hs hr hb with h | ⟨v, r', h, h1, h2⟩
  · left; unfold numM; rw [h]
  · right
    cases h2 with
    | @num k hk => exact ⟨k, r', by unfold numM; rw [h], h1, by omega⟩

theorem tb_le {x x' : Option TR} {k k' : Bool → Nat → Option TR} {res : TR} (h : tb x k = some res) (hx : ∀ y, x = some y → x' = some y) (hk : ∀ v r, k v r = some res → k' v r = some res) : tb x' k' = some res := by
  rcases tb_some h with ⟨e, r, h1, rfl⟩ | ⟨v, r, h1, h2⟩
  · rw [hx _ h1]; rfl
  · rw [hx _ h1]; exact hk _ _ h2
theorem nb_le {x x' : Option (Option (Nat × Nat))} {r : Nat} {k k' : Nat → Nat → Option TR} {res : TR} (h : nb x r k = some res) (hx : ∀ y, x = some y → x' = some y) (hk : ∀ v r, k v r = some res → k' v r = some res) : nb x' r k' = some res := by
  rcases nb_some h with ⟨h1, rfl⟩ | ⟨v, r, h1, h2⟩
  · rw [hx _ h1]; rfl
  · rw [hx _ h1]; exact hk _ _ h2
theorem withM_fuel {tr tr' : DFm → Nat → Option TR} (h : ∀ d r res, tr d r = some res → tr' d r = some res) {b : DFm} {k r : Nat} {res : TR} (hx : withM tr b k r = some res) : withM tr' b k r = some res := by
  unfold withM at hx ⊢
  split at hx
  · rename_i h1
    rw [if_pos h1]
    split at hx
    · rename_i h2; rw [if_pos h2]; exact h _ _ _ hx
    · rename_i h2; rw [if_neg h2]; exact hx
  · rename_i h1; rw [if_neg h1]; exact hx
theorem loopB_fuel {tr tr' : DFm → Nat → Option TR} (h : ∀ d r res, tr d r = some res → tr' d r = some res) (all : Bool) (b : DFm) : ∀ (m k r : Nat) (res : TR), loopB tr all b m k r = some res → loopB tr' all b m k r = some res
  | 0, _, _, _, hx => hx
  | m + 1, k, 0, res, hx => hx
  | m + 1, k, r + 1, res, hx => tb_le hx (fun _ => withM_fuel h) fun is r2 hx => by
    split at hx
    · rename_i h1; rw [if_pos h1]; exact loopB_fuel h all b m _ _ _ hx
    · rename_i h1; rw [if_neg h1]; exact hx
theorem truthM_succ : ∀ (n : Nat) (d : DFm) (r : Nat) (res : TR), truthM n d r = some res → truthM (n + 1) d r = some res
  | 0, d, r, res, h => by cases d <;> cases h
  | n + 1, .eq s t, r, res, h => nb_le h (fun _ => numM_fuel (Nat.le_succ n)) fun _ _ h => nb_le h (fun _ => numM_fuel (Nat.le_succ n)) fun _ _ h => h
  | n + 1, .two .and a b, r, res, h => tb_le h (fun _ => truthM_succ n _ _ _) fun x r1 h => by
    cases x with
    | false => exact h
    | true => exact truthM_succ n _ _ _ h
  | n + 1, .two .imp a b, r, res, h => tb_le h (fun _ => truthM_succ n _ _ _) fun x r1 h => by
    cases x with
    | false => exact h
    | true => exact truthM_succ n _ _ _ h
  | n + 1, .bnd all t b, r, res, h => nb_le h (fun _ => numM_fuel (Nat.le_succ n)) fun m r1 h => by
    split at h
    · rename_i h1; rw [if_pos h1]; exact loopB_fuel (fun d r res h => truthM_succ n d r res h) all b m 0 r1 res h
    · cases h
theorem truthM_fuel {n n' : Nat} (hn : n ≤ n') {d : DFm} {r : Nat} {res : TR} (h : truthM n d r = some res) : truthM n' d r = some res := by
  induction hn with
  | refl => exact h
  | step _ ih => exact truthM_succ _ _ _ _ ih

/-! ### More work -/

theorem tb_sh {x x' : Option TR} {k k' : Bool → Nat → Option TR} {b : Bool} {r q : Nat} (h : tb x k = some (.ok b r)) (hx : ∀ b r, x = some (.ok b r) → x' = some (.ok b (r + q))) (hk : ∀ c s, k c s = some (.ok b r) → k' c (s + q) = some (.ok b (r + q))) : tb x' k' = some (.ok b (r + q)) := by
  rcases tb_some h with ⟨e, r, h1, h2⟩ | ⟨v, r, h1, h2⟩
  · cases h2
  · rw [hx _ _ h1]; exact hk _ _ h2
theorem nb_sh {x x' : Option (Option (Nat × Nat))} {r0 r1 : Nat} {k k' : Nat → Nat → Option TR} {b : Bool} {r q : Nat} (h : nb x r0 k = some (.ok b r)) (hx : ∀ b r, x = some (some (b, r)) → x' = some (some (b, r + q))) (hk : ∀ c s, k c s = some (.ok b r) → k' c (s + q) = some (.ok b (r + q))) : nb x' r1 k' = some (.ok b (r + q)) := by
  rcases nb_some h with ⟨h1, h2⟩ | ⟨v, r, h1, h2⟩
  · cases h2
  · rw [hx _ _ h1]; exact hk _ _ h2
theorem withM_sh {tr : DFm → Nat → Option TR} {q : Nat} (h : ∀ d r b r', tr d r = some (.ok b r') → tr d (r + q) = some (.ok b (r' + q))) {d : DFm} {k r : Nat} {b : Bool} {r' : Nat} (hx : withM tr d k r = some (.ok b r')) : withM tr d k (r + q) = some (.ok b (r' + q)) := by
  unfold withM at hx ⊢
  split at hx
  · rename_i h1
    rw [if_pos h1]
    split at hx
    · rename_i h2; rw [if_pos h2]; exact h _ _ _ _ hx
    · cases hx
  · cases hx
theorem ok_eq {b b' : Bool} {r r' q : Nat} (h : some (TR.ok b r) = some (TR.ok b' r')) : some (TR.ok b (r + q)) = some (TR.ok b' (r' + q)) := by
  simp only [Option.some.injEq, TR.ok.injEq] at h ⊢
  exact ⟨h.1, by omega⟩
theorem loopB_sh {tr : DFm → Nat → Option TR} {q : Nat} (h : ∀ d r b r', tr d r = some (.ok b r') → tr d (r + q) = some (.ok b (r' + q))) (all : Bool) (d : DFm) : ∀ (m k r : Nat) (b : Bool) (r' : Nat), loopB tr all d m k r = some (.ok b r') → loopB tr all d m k (r + q) = some (.ok b (r' + q))
  | 0, k, r, b, r', hx => ok_eq hx
  | m + 1, k, 0, b, r', hx => by cases hx
  | m + 1, k, r + 1, b, r', hx => by
    rw [show r + 1 + q = (r + q) + 1 by omega]
    simp only [loopB] at hx ⊢
    refine tb_sh hx (fun _ _ => withM_sh h) fun is s hx => ?_
    split at hx
    · rename_i h1; rw [if_pos h1]; exact loopB_sh h all d m _ _ _ _ hx
    · rename_i h1; rw [if_neg h1]; exact ok_eq hx
theorem truthM_sh (q : Nat) : ∀ (n : Nat) (d : DFm) (r : Nat) (b : Bool) (r' : Nat), truthM n d r = some (.ok b r') → truthM n d (r + q) = some (.ok b (r' + q))
  | 0, d, r, b, r', h => by cases d <;> cases h
  | n + 1, .eq s t, r, b, r', h => nb_sh h (fun _ _ => numM_sh q) fun _ _ h => nb_sh h (fun _ _ => numM_sh q) fun _ _ h => ok_eq h
  | n + 1, .two .and a c, r, b, r', h => tb_sh h (fun _ _ => truthM_sh q n _ _ _ _) fun x r1 h => by
    cases x with
    | false => exact ok_eq h
    | true => exact truthM_sh q n _ _ _ _ h
  | n + 1, .two .imp a c, r, b, r', h => tb_sh h (fun _ _ => truthM_sh q n _ _ _ _) fun x r1 h => by
    cases x with
    | false => exact ok_eq h
    | true => exact truthM_sh q n _ _ _ _ h
  | n + 1, .bnd all t c, r, b, r', h => nb_sh h (fun _ _ => numM_sh q) fun m r1 h => by
    split at h
    · rename_i h1; rw [if_pos h1]; exact loopB_sh (fun d r b r' h => truthM_sh q n d r b r' h) all c m 0 r1 b r' h
    · cases h

/-! ### It answers -/

theorem Tm.up_nf : ∀ (x : Tm) (n m : Nat), x.nf → (x.up n m).nf
  | .var _, _, _, _ => trivial
  | .lam _ a, n, m, h => up_nf a _ _ h
  | .app a b, n, m, h => ⟨up_nf a _ _ h.1, up_nf b _ _ h.2⟩
  | .zero, _, _, _ => trivial
  | .succ a, n, m, h => up_nf a n m h
  | .recN _ a b c, n, m, h => ⟨up_nf a _ _ h.1, up_nf b _ _ h.2.1, up_nf c _ _ h.2.2⟩
  | .nil, _, _, _ => trivial
  | .cons a b, n, m, h => ⟨up_nf a _ _ h.1, up_nf b _ _ h.2⟩
  | .fold _ _ _ _, _, _, h => h.elim
  | .pair a b, n, m, h => ⟨up_nf a _ _ h.1, up_nf b _ _ h.2⟩
  | .fst a, n, m, h => up_nf a n m h
  | .snd a, n, m, h => up_nf a n m h
  | .unit, _, _, _ => trivial
theorem Tm.put_nf {u : Tm} (hu : u.nf) : ∀ (x : Tm) (m : Nat), x.nf → (x.put u m).nf
  | .var i, m, _ => by
    simp only [Tm.put]
    split
    · exact Tm.up_nf _ _ _ hu
    · split <;> trivial
  | .lam _ a, m, h => put_nf hu a _ h
  | .app a b, m, h => ⟨put_nf hu a _ h.1, put_nf hu b _ h.2⟩
  | .zero, _, _ => trivial
  | .succ a, m, h => put_nf hu a m h
  | .recN _ a b c, m, h => ⟨put_nf hu a _ h.1, put_nf hu b _ h.2.1, put_nf hu c _ h.2.2⟩
  | .nil, _, _ => trivial
  | .cons a b, m, h => ⟨put_nf hu a _ h.1, put_nf hu b _ h.2⟩
  | .fold _ _ _ _, _, h => h.elim
  | .pair a b, m, h => ⟨put_nf hu a _ h.1, put_nf hu b _ h.2⟩
  | .fst a, m, h => put_nf hu a m h
  | .snd a, m, h => put_nf hu a m h
  | .unit, _, _ => trivial
theorem Tm.nf_n1 : ∀ {x : Tm}, x.nf → x.n1 := by
  intro x h; cases x <;> first | exact h | exact h.elim
theorem Tm.put_n1 {u : Tm} (hu : u.nf) (x : Tm) (m : Nat) (h : x.n1) : (x.put u m).n1 := by
  cases x with
  | fold s a b c => exact ⟨put_nf hu a _ h.1, put_nf hu b _ h.2.1, put_nf hu c _ h.2.2⟩
  | _ => exact Tm.nf_n1 (Tm.put_nf hu _ m h)
theorem succs_nf : ∀ (n : Nat) (x : Tm), x.nf → (Tm.succs n x).nf
  | 0, _, h => h
  | n + 1, x, h => succs_nf n (.succ x) h
theorem Tm.num_nf (n : Nat) : (Tm.num n).nf := succs_nf n _ trivial
def DN : DFm → Prop
  | .eq s t => s.n1 ∧ t.n1
  | .two _ a b => DN a ∧ DN b
  | .bnd _ t b => t.n1 ∧ DN b
theorem DN.put {u : Tm} (hu : u.nf) : ∀ (d : DFm) (m : Nat), DN d → DN (d.put u m)
  | .eq s t, m, h => ⟨Tm.put_n1 hu s m h.1, Tm.put_n1 hu t m h.2⟩
  | .two _ a b, m, h => ⟨DN.put hu a m h.1, DN.put hu b m h.2⟩
  | .bnd _ t b, m, h => ⟨Tm.put_n1 hu t m h.1, DN.put hu b (m + 1) h.2⟩
def DFm.depth : DFm → Nat
  | .eq _ _ => 1
  | .two _ a b => a.depth + b.depth + 1
  | .bnd _ _ b => b.depth + 1
theorem DFm.put_depth (u : Tm) : ∀ (d : DFm) (m : Nat), (d.put u m).depth = d.depth
  | .eq s t, m => rfl
  | .two _ a b, m => by simp only [DFm.put, DFm.depth]; rw [put_depth u a, put_depth u b]
  | .bnd _ t b, m => by simp only [DFm.put, DFm.depth]; rw [put_depth u b]
theorem loopB_tot {tr : DFm → Nat → Option TR} {b : DFm} (R : Nat) (hle : ∀ d r res, tr d r = some res → res.r ≤ r) (h : ∀ k r, r ≤ R → b.fm.size + b.fm.cnt 0 * k ≤ 4096 → ∃ res, tr (b.put (.num k) 0) r = some res) (all : Bool) : ∀ (m k r : Nat), r ≤ R → ∃ res, loopB tr all b m k r = some res
  | 0, k, r, hr => ⟨_, rfl⟩
  | m + 1, k, 0, hr => ⟨_, rfl⟩
  | m + 1, k, r + 1, hr => by
    have hw : ∃ res, withM tr b k r = some res := by
      unfold withM
      split
      · split
        · rename_i h2; exact h k r (by omega) h2
        · exact ⟨_, rfl⟩
      · exact ⟨_, rfl⟩
    obtain ⟨res, hw⟩ := hw
    simp only [loopB]
    have hl := withM_le hle hw
    rw [hw]
    cases res with
    | err e r1 => exact ⟨_, rfl⟩
    | ok is r1 =>
      simp only [TR.r] at hl
      simp only [tb]
      split
      · exact loopB_tot R hle h all m (k + 1) r1 (by omega)
      · exact ⟨_, rfl⟩
theorem truthM_tot : ∀ (n : Nat) (d : DFm) (r : Nat), GoodD d → DN d → d.depth + r < n → r ≤ 65536 → ∃ res, truthM n d r = some res
  | 0, d, r, _, _, h, _ => by omega
  | n + 1, .eq s t, r, hg, hn, h, hr => by
    have hsz := hg.size
    simp only [DFm.fm, Fm.size] at hsz
    simp only [DFm.depth] at h
    simp only [truthM]
    rcases numM_snd (n := n) hg.ty.1 hn.1 (by omega) (by omega) hr with h1 | ⟨k, r1, h1, l1, _⟩
    · rw [h1]; exact ⟨_, rfl⟩
    · rw [h1]
      simp only [nb]
      rcases numM_snd (n := n) hg.ty.2 hn.2 (by omega) (show r1 < n by omega) (by omega) with h2 | ⟨k2, r2, h2, l2, _⟩
      · rw [h2]; exact ⟨_, rfl⟩
      · rw [h2]; exact ⟨_, rfl⟩
  | n + 1, .two j a b, r, hg, hn, h, hr => by
    have hsz := hg.size
    simp only [DFm.fm, Fm.size] at hsz
    simp only [DFm.depth] at h
    obtain ⟨res, h1⟩ := truthM_tot n a r ⟨hg.ty.1, by omega⟩ hn.1 (by omega) hr
    have l1 := truthM_le n _ _ _ h1
    cases j <;> simp only [truthM] <;> rw [h1] <;> cases res with
    | err e r1 => exact ⟨_, rfl⟩
    | ok x r1 =>
      simp only [TR.r] at l1
      simp only [tb]
      cases x with
      | false => exact ⟨_, rfl⟩
      | true => exact truthM_tot n b r1 ⟨hg.ty.2, by omega⟩ hn.2 (by omega) (by omega)
  | n + 1, .bnd all t b, r, hg, hn, h, hr => by
    have hsz := hg.size
    rw [DFm.part_bnd] at hsz
    simp only [DFm.depth] at h
    simp only [truthM]
    rcases numM_snd (n := n) hg.ty.1 hn.1 (by omega) (by omega) hr with h1 | ⟨k, r1, h1, l1, hk⟩
    · rw [h1]; exact ⟨_, rfl⟩
    · rw [h1]
      simp only [nb]
      rw [if_pos (by omega)]
      exact loopB_tot r (fun d r res h => truthM_le n d r res h) (fun k r2 hr2 hs => truthM_tot n _ r2 (put_num_good hg.ty.2 hs) (DN.put (Tm.num_nf k) _ _ hn.2) (by rw [DFm.put_depth]; omega) (by omega)) all k 0 r1 (by omega)
end Go.AI

