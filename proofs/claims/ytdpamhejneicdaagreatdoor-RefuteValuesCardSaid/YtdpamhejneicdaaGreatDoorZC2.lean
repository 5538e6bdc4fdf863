/- RefuteValues: what it returns. -/
import Derived.Test.YtdpamhejneicdaaGreatDoorZC1
import Derived.Test.YtdpamhejneicdaaGreatDoorZS1
import Derived.Test.YtdpamhejneicdaaGreatDoorZVa
import Derived.Test.YtdpamhejneicdaaGreatDoorZVb
import Derived.Test.YtdpamhejneicdaaGreatDoorZVc
import Derived.Test.YtdpamhejneicdaaGreatDoorZVd
import Derived.Test.YtdpamhejneicdaaGreatDoorZVe
import Derived.Test.YtdpamhejneicdaaGreatDoorZVt
namespace Go.AI
set_option linter.unusedVariables false
set_option linter.unusedSimpArgs false
open Go

theorem vals_at (s : PTy) (n : Nat) (hn : n < 6) : ValuesAt s n := by
  match s, n, hn with
  | .nat, 0, _ => exact val_nat_0 | .nat, 1, _ => exact val_nat_1 | .nat, 2, _ => exact val_nat_2 | .nat, 3, _ => exact val_nat_3 | .nat, 4, _ => exact val_nat_4 | .nat, 5, _ => exact val_nat_5
  | .list, 0, _ => exact val_list_0 | .list, 1, _ => exact val_list_1 | .list, 2, _ => exact val_list_2 | .list, 3, _ => exact val_list_3 | .list, 4, _ => exact val_list_4 | .list, 5, _ => exact val_list_5
  | .unit, 0, _ => exact val_unit_0 | .unit, 1, _ => exact val_unit_1 | .unit, 2, _ => exact val_unit_2 | .unit, 3, _ => exact val_unit_3 | .unit, 4, _ => exact val_unit_4 | .unit, 5, _ => exact val_unit_5
  | .natList, 0, _ => exact val_natList_0 | .natList, 1, _ => exact val_natList_1 | .natList, 2, _ => exact val_natList_2 | .natList, 3, _ => exact val_natList_3 | .natList, 4, _ => exact val_natList_4 | .natList, 5, _ => exact val_natList_5
  | .natNat, 0, _ => exact val_natNat_0 | .natNat, 1, _ => exact val_natNat_1 | .natNat, 2, _ => exact val_natNat_2 | .natNat, 3, _ => exact val_natNat_3 | .natNat, 4, _ => exact val_natNat_4 | .natNat, 5, _ => exact val_natNat_5
  | _, n + 6, h => omega

theorem map_eq {α β : Type} {f g : α → β} {l : List α} (h : l.map f = l.map g) {x : α} (hx : x ∈ l) : f x = g x := List.map_inj_left.1 h x hx

theorem three_parts {α : Type} {l : List α} (h : l.length ≤ 60) {v : α} (hv : v ∈ l) : v ∈ (l.drop 0).take 20 ∨ v ∈ (l.drop 20).take 20 ∨ v ∈ (l.drop 40).take 20 := by
  obtain ⟨i, hi, rfl⟩ := List.mem_iff_getElem.1 hv
  have key : ∀ c, c ≤ i → i < c + 20 → l[i] ∈ (l.drop c).take 20 := by
    intro c h1 h2
    refine List.mem_iff_getElem.2 ⟨i - c, by simp; omega, ?_⟩
    simp only [List.getElem_take, List.getElem_drop]
    congr 1
    omega
  by_cases h1 : i < 20
  · exact .inl (key 0 (by omega) (by omega))
  · by_cases h2 : i < 40
    · exact .inr (.inl (key 20 (by omega) (by omega)))
    · exact .inr (.inr (key 40 (by omega) (by omega)))

theorem typ_of {s : PTy} {l : List Val} (h : TypAt s l) {v : Val} (hv : v ∈ l) : Ev G (.call 39 [v.enc] []) (.ret (.tuple [s.enc, .int .i64 0]) []) := .comp 60 (map_eq h hv)

theorem vals_60 (s : PTy) (n : Nat) : (valsM s n).length ≤ 60 := by unfold valsM; simp; omega

theorem typ_at (s : PTy) {n : Nat} (hn : n < 6) {v : Val} (hv : v ∈ valsM s n) (hs : v ∈ allM s 5) : Ev G (.call 39 [v.enc] []) (.ret (.tuple [s.enc, .int .i64 0]) []) := by
  cases s
  · exact typ_of typ_nat hs
  · exact typ_of typ_list hs
  · exact typ_of typ_unit hs
  · have hp := three_parts (vals_60 _ _) hv
    match n, hn with
    | 0, _ => exact hp.elim (typ_of typ_natList_0_0) fun h => h.elim (typ_of typ_natList_0_1) (typ_of typ_natList_0_2)
    | 1, _ => exact hp.elim (typ_of typ_natList_1_0) fun h => h.elim (typ_of typ_natList_1_1) (typ_of typ_natList_1_2)
    | 2, _ => exact hp.elim (typ_of typ_natList_2_0) fun h => h.elim (typ_of typ_natList_2_1) (typ_of typ_natList_2_2)
    | 3, _ => exact hp.elim (typ_of typ_natList_3_0) fun h => h.elim (typ_of typ_natList_3_1) (typ_of typ_natList_3_2)
    | 4, _ => exact hp.elim (typ_of typ_natList_4_0) fun h => h.elim (typ_of typ_natList_4_1) (typ_of typ_natList_4_2)
    | 5, _ => exact hp.elim (typ_of typ_natList_5_0) fun h => h.elim (typ_of typ_natList_5_1) (typ_of typ_natList_5_2)
    | n + 6, h => omega
  · exact typ_of typ_natNat hs

theorem tsame_at (s : PTy) : Ev G (.call 40 [s.enc, s.enc] []) (.ret (.bool true) []) := by
  cases s
  · exact .comp 60 tsame_nat
  · exact .comp 60 tsame_list
  · exact .comp 60 tsame_unit
  · exact .comp 60 tsame_natList
  · exact .comp 60 tsame_natNat

theorem vals_sub : ∀ (s : PTy) (n : Nat), n < 6 → ((valsM s n).all fun v => (allM s 5).contains v) = true := by
  intro s n hn
  have : (([PTy.nat, .list, .unit, .natList, .natNat].all fun s => (List.range 6).all fun n => (valsM s n).all fun v => (allM s 5).contains v)) = true := by decide +kernel
  rw [List.all_eq_true] at this
  have := this s (by cases s <;> simp)
  rw [List.all_eq_true] at this
  exact this n (List.mem_range.2 hn)

theorem vals_small : ∀ (s : PTy) (n : Nat), n < 6 → ((valsM s n).all Val.small) = true := by
  intro s n hn
  have : (([PTy.nat, .list, .unit, .natList, .natNat].all fun s => (List.range 6).all fun n => (valsM s n).all Val.small)) = true := by decide +kernel
  rw [List.all_eq_true] at this
  have := this s (by cases s <;> simp)
  rw [List.all_eq_true] at this
  exact this n (List.mem_range.2 hn)

theorem vals_nodup : ∀ (s : PTy) (n : Nat), n < 6 → (valsM s n).Nodup := by
  intro s n hn
  have : (([PTy.nat, .list, .unit, .natList, .natNat].all fun s => (List.range 6).all fun n => decide (valsM s n).Nodup)) = true := by decide +kernel
  rw [List.all_eq_true] at this
  have := this s (by cases s <;> simp)
  rw [List.all_eq_true] at this
  simpa using this n (List.mem_range.2 hn)

theorem vals_len : ∀ (s : PTy) (n m : Nat), n ≤ m → m < 6 → (valsM s n).length ≤ (valsM s m).length := by
  intro s n m hnm hm
  have : (([PTy.nat, .list, .unit, .natList, .natNat].all fun s => (List.range 6).all fun m => (List.range (m + 1)).all fun n => decide ((valsM s n).length ≤ (valsM s m).length))) = true := by decide +kernel
  rw [List.all_eq_true] at this
  have := this s (by cases s <;> simp)
  rw [List.all_eq_true] at this
  have := this m (List.mem_range.2 hm)
  rw [List.all_eq_true] at this
  simpa using this n (List.mem_range.2 (by omega))

/-! ### The choices -/

abbrev Deck (t : List Int) (k : Int) : Sig := [.box [.slice 1 (t.map intI), .int .i64 k] []]

theorem nodeck {x : AV} (h : AV.flatL [x] = true) : AV.flatL [AV.ptr 0 0, x] = false := by simp [AV.flatL, AV.flat]

theorem next_spec (t : List Int) : ∃ (x k : Int), 0 ≤ x ∧ x < 6 ∧ Ev G (.call 47 [.ptr 0 0, .int .i64 6] (Deck t 0)) (.ret (.int .i64 x) (Deck t k)) := by
  cases t with
  | nil => exact ⟨0, 0, by omega, by omega, p47_1 (by decide) (by simp)⟩
  | cons y t =>
    have hm := p24 (x := y) (n := 6) (by decide) (by decide)
    refine ⟨Int.tmod (IntKind.wrap .i64 (Int.tmod y 6 + 6)) 6, IntKind.wrap .i64 (0 + 1), ?_, ?_, p47_2 (m5 := 0) (n6 := y) (by decide) (by simp) rfl (by simp [intI]) (.flat hm rfl _ _)⟩
    · have h1 := Int.lt_tmod_of_pos y (show (0 : Int) < 6 by omega)
      have h2 := Int.tmod_lt_of_pos y (show (0 : Int) < 6 by omega)
      rw [wrap64 (by omega) (by omega)]
      exact Int.tmod_nonneg _ (by omega)
    · exact Int.tmod_lt_of_pos _ (by omega)

theorem nat_spec (σ : Sig) : EvC G 23 [] σ false (.agg [.int .i64 1, .slice 2 []]) σ := .flat (.comp 20 (by kernel_rfl)) rfl _ _
theorem list_spec (σ : Sig) : EvC G 94 [] σ false (.agg [.int .i64 2, .slice 2 []]) σ := .flat (.comp 20 (by kernel_rfl)) rfl _ _
theorem unit_spec (σ : Sig) : EvC G 95 [] σ false (.agg [.int .i64 5, .slice 2 []]) σ := .flat (.comp 20 (by kernel_rfl)) rfl _ _
theorem two_spec (b : Bool) (σ : Sig) : EvC G 96 [.agg [.int .i64 1, .slice 2 []], .agg [.int .i64 (if b then 2 else 1), .slice 2 []]] σ false (.agg [.int .i64 3, .slice 2 [.agg [.int .i64 1, .slice 2 []], .agg [.int .i64 (if b then 2 else 1), .slice 2 []]]]) σ := by
  cases b
  · exact .flat (.comp 20 (by kernel_rfl)) rfl _ _
  · exact .flat (.comp 20 (by kernel_rfl)) rfl _ _

theorem plain_spec (t : List Int) : ∃ (s : PTy) (k : Int), EvC G 37 [.ptr 0 0] (Deck t 0) false s.enc (Deck t k) := by
  obtain ⟨x, k, h1, h2, h⟩ := next_spec t
  have hn : EvC G 47 [.ptr 0 0, .int .i64 6] (Deck t 0) false (.int .i64 x) (Deck t k) := .with h rfl
  have hx : x = 0 ∨ x = 1 ∨ x = 2 ∨ x = 3 ∨ x = 4 ∨ x = 5 := by omega
  rcases hx with rfl | rfl | rfl | rfl | rfl | rfl
  · exact ⟨.nat, k, .with (p37_0 hn rfl (nat_spec _)) rfl⟩
  · exact ⟨.nat, k, .with (p37_1 hn rfl rfl (nat_spec _)) rfl⟩
  · exact ⟨.list, k, .with (p37_2 hn rfl rfl rfl (list_spec _)) rfl⟩
  · exact ⟨.unit, k, .with (p37_3 hn rfl rfl rfl rfl (unit_spec _)) rfl⟩
  · exact ⟨.natList, k, .with (p37_4 hn rfl rfl rfl rfl rfl (nat_spec _) (list_spec _) (two_spec true _)) rfl⟩
  · exact ⟨.natNat, k, .with (p37_5 hn rfl rfl rfl rfl rfl (nat_spec _) (nat_spec _) (two_spec false _)) rfl⟩

/-! ### The loops -/

theorem succ_wrap {j : Nat} (h : j < 1000) : IntKind.wrap .i64 (((j : Nat) : Int) + 1) = ((j + 1 : Nat) : Int) := by
  rw [wrap64 (by omega) (by omega)]; rfl

theorem inner_ok (t : List Int) (k : Int) (s : PTy) (es : List AV) (i : Nat) (v : Val) (hv : v.small = true) (ws : List Val) (hw : ∀ w ∈ ws, w.small = true) (hn : v ∉ ws) (hl : ws.length < 1000) :
    ∀ d j, j + d = ws.length → Ev G (.loop (eeOf G 8 0 none) (.loop (lpOf G 8 1)) (mkEnv [(7, .loc [.int .i64 s.k, .slice 2 s.a] []), (12, .val (.slice 4 es) []), (15, .loc [.int .i64 v.k, .int .i64 v.n, .slice 1 v.l, .slice 4 v.a] []), (68, .val (.slice 4 es) []), (69, .val (.int .i64 ((List.length es : Nat) : Int)) []), (70, .val (.int .i64 ((i : Nat) : Int)) []), (90, .val (.slice 4 (ws.map Val.enc)) []), (91, .val (.int .i64 ((List.length (ws.map Val.enc) : Nat) : Int)) []), (92, .val (.int .i64 ((j : Nat) : Int)) [])]) (Deck t k))
      (.code (.exit 2) (mkEnv [(7, .loc [.int .i64 s.k, .slice 2 s.a] []), (12, .val (.slice 4 es) []), (68, .val (.slice 4 es) []), (69, .val (.int .i64 ((List.length es : Nat) : Int)) []), (70, .val (.int .i64 ((i : Nat) : Int)) [])]) (Deck t k)) := by
  intro d
  induction d with
  | zero => intro j hj; exact p8i_3 (m := 0) (by simp; omega)
  | succ d ih =>
    intro j hj
    have hjl : j < ws.length := by omega
    obtain ⟨w, hwj⟩ : ∃ w, ws[j]? = some w := ⟨ws[j], List.getElem?_eq_getElem hjl⟩
    have hmem : w ∈ ws := List.mem_of_getElem? hwj
    have hne : v ≠ w := fun e => hn (e ▸ hmem)
    have hsame := same_spec v w hv (hw w hmem)
    refine p8i_1 (m := 0) (n1 := w.k) (n2 := w.n) (l3 := w.l) (l4 := w.a) (b6 := decide (v = w)) (by simp; omega) (by rw [List.getElem?_map, hwj]; rfl) (.flat hsame (flatL_two v.flat w.flat) _ _) (by simp [hne]) ?_
    rw [succ_wrap (by omega)]
    exact ih (j + 1) (by omega)

theorem not_before {α : Type} {l : List α} (h : l.Nodup) {i : Nat} {v : α} (hi : l[i]? = some v) : v ∉ l.take i := by
  intro hm
  obtain ⟨j, hj, hjv⟩ := List.mem_iff_getElem.1 hm
  have hil := (List.getElem?_eq_some_iff.1 hi).1
  simp only [List.length_take] at hj
  have h1 : l[j]? = some v := by
    rw [List.getElem_take] at hjv
    rw [List.getElem?_eq_getElem (by omega), hjv]
  have := (List.getElem?_inj (by omega) h).1 (h1.trans hi.symm)
  omega

theorem outer_ok (t : List Int) (k : Int) (s : PTy) (bs : List Val) (hb : ∀ w ∈ bs, w.small = true) (ht : ∀ w ∈ bs, Ev G (.call 39 [w.enc] []) (.ret (.tuple [s.enc, .int .i64 0]) [])) (hn : bs.Nodup) (hl : bs.length < 1000) :
    ∀ d i, i + d = bs.length → Ev G (.loop (eeOf G 8 0 none) (.loop (lpOf G 8 0)) (mkEnv [(7, .loc [.int .i64 s.k, .slice 2 s.a] []), (12, .val (.slice 4 (bs.map Val.enc)) []), (68, .val (.slice 4 (bs.map Val.enc)) []), (69, .val (.int .i64 ((List.length (bs.map Val.enc) : Nat) : Int)) []), (70, .val (.int .i64 ((i : Nat) : Int)) [])]) (Deck t k))
      (.code (.exit 0) (mkEnv []) (Deck t k)) := by
  intro d
  induction d with
  | zero => intro i hi; exact p8o_5 (by simp; omega)
  | succ d ih =>
    intro i hi
    have hil : i < bs.length := by omega
    obtain ⟨v, hv⟩ : ∃ v, bs[i]? = some v := ⟨bs[i], List.getElem?_eq_getElem hil⟩
    have hmem : v ∈ bs := List.mem_of_getElem? hv
    have e : List.take (i - 0) (List.drop 0 (bs.map Val.enc)) = (bs.take i).map Val.enc := by simp [List.map_take]
    have hin := inner_ok t k s (bs.map Val.enc) i v (hb v hmem) (bs.take i) (fun w hw => hb w (List.mem_of_mem_take hw)) (not_before hn hv) (by simp; omega) (bs.take i).length 0 (by simp)
    refine p8o_1 (n1 := v.k) (n2 := v.n) (l3 := v.l) (l4 := v.a) (n6 := s.k) (l7 := s.a) (n8 := 0) (b12 := true) (by simp; omega) (by rw [List.getElem?_map, hv]; rfl) (.flat (ht v hmem) (by simp [AV.flatL]; exact v.flat) _ _) rfl
      (.flat (tsame_at s) (flatL_two s.flat s.flat) _ _) rfl (by simp; omega) (by rw [e]; exact hin) ?_
    rw [succ_wrap (by omega)]
    exact ih (i + 1) (by omega)

/-- The law returns true. -/
theorem law8 (t : List Int) (yA yB : Int) (hA : 0 ≤ yA ∧ yA < 256) (hB : 0 ≤ yB ∧ yB < 256) : Ev G (.call 8 [.slice 1 (t.map intI), .int .u8 yA, .int .u8 yB] []) (.ret (.bool true) []) := by
  have hs : EvC G 36 [] [] false (.bool true) [] := .flat (.comp 400 sane21) rfl _ _
  have hfew : EvC G 15 [.slice 1 (t.map intI)] [] false _ [] := .flat p15 (by simp [AV.flatL, AV.flat, flatL_ints]) _ _
  by_cases h500 : t.length ≤ 500
  · have hnew : EvC G 16 [.slice 1 (t.map intI)] [] false (.ptr 0 0) (Deck t 0) := .keep p16 p16
    obtain ⟨s, k, hp⟩ := plain_spec t
    obtain ⟨n, hn, hn4⟩ : ∃ n : Nat, IntKind.wrap .i64 (Int.tmod yA 4) = (n : Int) ∧ n < 4 := by
      have h1 := Int.tmod_nonneg 4 hA.1
      have h2 := Int.tmod_lt_of_pos yA (show (0 : Int) < 4 by omega)
      exact ⟨(Int.tmod yA 4).toNat, by rw [wrap64 (by omega) (by omega)]; omega, by omega⟩
    obtain ⟨m, hm, hm3⟩ : ∃ m : Nat, IntKind.wrap .i64 (Int.tmod yB 3) = (m : Int) ∧ m < 3 := by
      have h1 := Int.tmod_nonneg 3 hB.1
      have h2 := Int.tmod_lt_of_pos yB (show (0 : Int) < 3 by omega)
      exact ⟨(Int.tmod yB 3).toNat, by rw [wrap64 (by omega) (by omega)]; omega, by omega⟩
    have hsum : IntKind.wrap .i64 (((n : Int)) + (m : Int)) = ((n + m : Nat) : Int) := by rw [wrap64 (by omega) (by omega)]; rfl
    have hf60 : ∀ x : Nat, AV.flatL [s.enc, .int .i64 (x : Int), .int .i64 60] = true := fun x => by simp [AV.flatL, AV.flat, s.flat]
    have v1 : EvC G 38 [s.enc, .int .i64 (n : Int), .int .i64 60] (Deck t k) false (.tuple [.slice 4 ((valsM s n).map Val.enc), .int .i64 0]) (Deck t k) := .flat (.comp 100 (vals_at s n (by omega))) (hf60 n) _ _
    have v2 : EvC G 38 [s.enc, .int .i64 ((n + m : Nat) : Int), .int .i64 60] (Deck t k) false (.tuple [.slice 4 ((valsM s (n + m)).map Val.enc), .int .i64 0]) (Deck t k) := .flat (.comp 100 (vals_at s (n + m) (by omega))) (hf60 (n + m)) _ _
    have hsmall := vals_small s (n + m) (by omega)
    have hsub := vals_sub s (n + m) (by omega)
    rw [List.all_eq_true] at hsmall hsub
    have hout := outer_ok t k s (valsM s (n + m)) hsmall (fun w hw => typ_at s (show n + m < 6 by omega) hw (by simpa using hsub w hw)) (vals_nodup s (n + m) (by omega)) (by have := vals_60 s (n + m); omega) (valsM s (n + m)).length 0 (by simp)
    have hlen := vals_len s n (n + m) (by omega) (by omega)
    have h60 := vals_60 s (n + m)
    exact p8_4 (ns := t.map intI) (at_ := k) (kS := s.k) (aS := s.a) hs hfew (by simp; omega) hnew hp (by rw [hn]; exact v1) (by rw [hn, hm, hsum]; exact v2) rfl rfl (by simp; omega) (by simp; omega) hout
  · exact p8_6 (at_ := 0) (kS := 0) (aS := []) hs hfew (by simp; omega)

end Go.AI
