/- From the abstract machine to the given statements. -/
import Derived.Test.YtdpamhejneicdaaGreatDoorZOK
import Derived.Test.YtdpamhejneicdaaGreatDoorRows
import Derived.ProofKit
import Derived.LaidMore
import Derived.OpenShut
import Derived.Stop.Joined
namespace Go.AI
set_option linter.unusedVariables false
set_option linter.unusedSimpArgs false
open Go Go.Proofs Go.ChangeShapes Go.WideShapes Go.ChangeAt Go.RowKit
open Go.Proofs.YtdpamhejneicdaaGreatDoor

/-! ### The start -/

def extOf (W : World) (b : Nat) : Nat := match W.heap[b]? with | some (.cells c _ _) => c.size | _ => 0

theorem lt_extOf {W : World} {b o : Nat} {v : Value} (h : W.cell? ⟨b, o, none⟩ = some v) : o < extOf W b := by
  unfold World.cell? at h
  unfold extOf
  cases hb : W.heap[b]? with
  | none => rw [hb] at h; cases h
  | some x =>
    rw [hb] at h
    cases x with
    | cells c t f =>
      have h' : c[o]? = some v := h
      exact (Array.getElem?_eq_some_iff.1 h').1
    | _ => cases h

abbrev tbl : List Int := [0, 0, 1, 2, 0, 1, 3, 0, 2, 3, 2, 1, 1, 0]
abbrev laidL : List (String × DataW Unit) := [("proofprograms/tree.arities", Rows.laid_proofprograms_tree_arities)]

def st0 (W : World) : St := { w := W, ext := extOf W, ι := [], S := fun _ => False, SL := fun _ _ => none, L := { β := fun _ => 0, κ := fun _ => 0, γ := fun _ _ => none } }

theorem reps_ints {w : World} {ext : Nat → Nat} {ι : List Nat} (k : IntKind) (zs : List Int) : Reps w ext ι (zs.map (AV.int k)) (zs.map (Value.int k)) := by
  induction zs with
  | nil => exact .nil
  | cons z zs ih => exact .cons _ _ _ _ (.int k z) ih

theorem ints_one (k : IntKind) (zs : List Int) : ∀ x ∈ zs.map (Value.int k), x.oneCell' = true := by
  intro x hx
  obtain ⟨z, _, rfl⟩ := List.mem_map.1 hx
  rfl

theorem start {W : World} (hc : ∀ i v, tbl[i]? = some v → W.cell? ⟨0, i, none⟩ = some (.int .i64 v)) : SR G W (extOf W) [] (fun _ => False) (fun _ _ => none) [] where
  len := rfl
  nodup := List.nodup_nil
  obj := fun id o b ho => by simp at ho
  inS := fun b hb => by cases hb
  ownS := fun id o i b ho => by simp at ho
  inj := fun id o i id' o' i' b ho => by simp at ho
  small := fun b hb => hb.elim
  fresh := fun b hb => by simp [extOf, Array.getElem?_eq_none hb]
  globals := fun g a h => by
    have h' : (if g = 0 then some (AV.iptr (tbl.map (AV.int .i64))) else none) = some a := h
    split at h'
    · rename_i hg
      subst hg
      simp only [Option.some.injEq] at h'
      subst h'
      refine .iptr _ (tbl.map (Value.int .i64)) 0 0 (reps_ints _ _) (ints_one _ _) fun i v hv => ?_
      rw [List.getElem?_map] at hv
      cases ht : tbl[i]? with
      | none => rw [ht] at hv; cases hv
      | some z =>
        rw [ht] at hv
        simp only [Option.map_some, Option.some.injEq] at hv
        subst hv
        have := hc i z ht
        rw [Nat.zero_add]
        exact ⟨this, lt_extOf this⟩
    · cases h'

/-- A law that the abstract machine answers with true. -/
theorem call_true {f : FuncId} {args : List AV} (h : Ev G (.call f args []) (.ret (.bool true) [])) {W : World} {vs : Array Value}
    (hc : ∀ i v, tbl[i]? = some v → W.cell? ⟨0, i, none⟩ = some (.int .i64 v)) (hr : Reps W (extOf W) [] args vs.toList) :
    Calls Tryz.prog f vs W (fun e W' => e = .returned (.bool true) ∧ Below W.heap.size W W') := by
  obtain ⟨N, hN⟩ := h
  have hcall := ((sound N).call _ _ _ _ _ (hN N (Nat.le_refl _))).2 (st0 W) vs 0 (start hc) hr
  refine (callsIn_wide.1 hcall).mono fun e W' he => ?_
  cases e with
  | returned c =>
    obtain ⟨st', rfl, _, hrep, hst, _⟩ := he
    cases hrep
    exact ⟨rfl, hst.os, hst.tape, hst.output, hst.size, fun k hk => (hst.blk k ⟨hk, fun h => h⟩).1⟩
  | _ => exact he.elim

/-! ### The arguments -/

theorem rep_ints {W : World} {t e : TypeId} {k : IntKind} {H : Type} {enc : TypeId × Value → H} {len cap fuel : Nat} {a0 : Option Addr} {x : DataW H × List MemPlace}
    (ht : Tryz.prog.underlying t = some (.slice e)) (he : Tryz.prog.underlying e = some (.int k)) (hc : Tryz.prog.cellsOf e = 1)
    (h : DataW.trod enc Tryz.prog W 0 (fun _ => true) true fuel t (Value.slice a0 len cap).cells.toList = some x) :
    ∃ zs : List Int, zs.length = len ∧ (∀ n ∈ zs, (Lit.int k n).wf = true) ∧ Rep W (extOf W) [] (.slice 1 (zs.map (AV.int k))) (.slice a0 len cap) := by
  have hcells : ∀ zs : List Int, (zs.map (AV.int k)).flatMap AV.cells = zs.map (AV.int k) := by
    intro zs
    induction zs with
    | nil => rfl
    | cons z zs ih => simp only [List.map_cons, List.flatMap_cons, ih]; rfl
  have hone : ∀ zs : List Int, ∀ e ∈ zs.map (AV.int k), e.cells.length = 1 := by
    intro zs e he
    obtain ⟨z, _, rfl⟩ := List.mem_map.1 he
    rfl
  rcases open_ints ht he hc h with ⟨hcs, hx⟩ | ⟨a, len', cap', zs, hcs, _, hl, hm, hz, hx, hcell, hwz⟩
  · simp [Value.cells] at hcs
    obtain ⟨rfl, rfl, rfl⟩ := hcs
    exact ⟨[], rfl, (fun n hn => absurd hn (List.not_mem_nil)), Rep.slice 1 [] none 0 0 [] rfl (Nat.le_refl _) (fun e he => absurd he (List.not_mem_nil)) .nil (fun x hx => absurd hx (List.not_mem_nil)) (.inl rfl)⟩
  · simp [Value.cells] at hcs
    obtain ⟨rfl, rfl, rfl⟩ := hcs
    simp only [if_true] at hz
    have hlen : (zs.take len).length = len := by simp; omega
    refine ⟨zs.take len, hlen, fun n hn => hwz n (List.mem_of_mem_take hn), .slice 1 _ (some a) len cap ((zs.take len).map (Value.int k)) (by rw [List.length_map, hlen]) hl (hone _) (by rw [hcells]; exact reps_ints _ _) (ints_one _ _) ?_⟩
    by_cases h0 : len = 0
    · left; subst h0; rfl
    · right
      have hspot : a.spot = none := by
        have := hcell 0 (by omega)
        unfold World.cell? at this
        simp only [Addr.add, if_true] at this
        cases hs : a.spot with
        | none => rfl
        | some s =>
          rw [hs] at this
          cases hb : W.heap[a.block]? with
          | none => rw [hb] at this; cases this
          | some o => rw [hb] at this; cases o <;> simp at this
      obtain ⟨b, off, sp⟩ := a
      subst hspot
      refine ⟨b, off, rfl, fun i v hv => ?_⟩
      rw [List.getElem?_map] at hv
      cases hi : (zs.take len)[i]? with
      | none => rw [hi] at hv; cases hv
      | some z =>
        rw [hi] at hv
        simp only [Option.map_some, Option.some.injEq] at hv
        subst hv
        obtain ⟨hil, hz'⟩ := List.getElem?_eq_some_iff.1 hi
        have hil' : i < len := by rw [hlen] at hil; exact hil
        have hg := hcell i (by omega)
        have hadd : (⟨b, off, none⟩ : Addr).add i = ⟨b, off + i, none⟩ := by
          unfold Addr.add
          split
          · rename_i h0; subst h0; rfl
          · rfl
        rw [hadd] at hg
        have hzi : zs.getD i 0 = z := by
          rw [List.getElem_take] at hz'
          rw [List.getD_eq_getElem?_getD, List.getElem?_eq_getElem (by omega)]
          exact hz'
        rw [hzi] at hg
        exact ⟨hg, lt_extOf hg⟩

theorem trodAll_keep {H : Type} {enc : TypeId × Value → H} {W W' : World} (hl : laidOutB Tryz.prog = true) (hb : Below W.heap.size W W') :
    ∀ (ts : List TypeId) (vs : List Value) (ds : List (DataW H)) (ps : List MemPlace), (∀ t ∈ ts, Tryz.prog.readableRec t = true ∧ t < Tryz.prog.types.size) →
      DataW.TrodAll enc Tryz.prog W 0 (fun _ => true) true ts vs ds ps → (∀ x ∈ ps, x.block < W.heap.size) → DataW.TrodAll enc Tryz.prog W' 0 (fun b => decide (b < W.heap.size)) true ts vs ds ps
  | [], [], [], ps, _, h, _ => h
  | t :: ts, v :: vs, d :: ds, ps, hts, h, hlt => by
    obtain ⟨p, q, h1, h2, rfl⟩ := h
    refine ⟨p, q, ?_, trodAll_keep hl hb ts vs ds q (fun t ht => hts t (List.mem_cons_of_mem _ ht)) h2 fun x hx => hlt x (List.mem_append_right _ hx), rfl⟩
    exact Below.trod hl (hts t (List.mem_cons_self ..)).1 (hts t (List.mem_cons_self ..)).2 h1 hb fun x hx => hlt x (List.mem_append_left _ hx)
  | [], _ :: _, _, _, _, h, _ => by cases h
  | [], [], _ :: _, _, _, h, _ => by cases h
  | _ :: _, [], _, _, _, h, _ => by cases h
  | _ :: _, _ :: _, [], _, _, h, _ => by cases h

/-! ### The listed table -/

theorem own : ownKnob Tryz.prog.godebug = none := by kernel_rfl
theorem laidOut : laidOutB Tryz.prog = true := by kernel_rfl
theorem gAr : Tryz.prog.globalNamed "proofprograms/tree.arities" = some 0 := by kernel_rfl

theorem tAr : (Tryz.prog.globals[0]?).map (·.type) = some 330 := by kernel_rfl
theorem u330 : Tryz.prog.underlying 330 = some (.array 14 3) := by kernel_rfl
theorem u3 : Tryz.prog.underlying 3 = some (.int .i64) := by kernel_rfl
theorem u4 : Tryz.prog.underlying 4 = some .bool := by kernel_rfl
theorem u5 : Tryz.prog.underlying 5 = some (.int .u8) := by kernel_rfl
theorem u22 : Tryz.prog.underlying 22 = some (.slice 3) := by kernel_rfl
theorem c3 : Tryz.prog.cellsOf 3 = 1 := by kernel_rfl

theorem cells_get {W : World} (h : laidMetH Tryz.prog laidL W) : ∀ i v, tbl[i]? = some v → W.cell? ⟨0, i, none⟩ = some (.int .i64 v) := by
  rw [show laidMetH Tryz.prog laidL W = laidMet Tryz.prog laidL W from rfl] at h
  obtain ⟨ps, ⟨g0, t0, cs0, f0, p0, q0, hg0, ht0, hv0, hd0, _, _⟩, _, _⟩ := h
  obtain rfl := Option.some.inj (gAr.symm.trans hg0)
  obtain rfl := Option.some.inj (tAr.symm.trans ht0)
  obtain ⟨xs, m, rfl, hx, hlen, hn, hel⟩ := DataW.trod_array u330 hd0
  intro i v hi
  have hi14 : i < 14 := (List.getElem?_eq_some_iff.1 hi).1
  rw [World.var?_cell hg0 hv0 i]
  have hx1 : xs.map (·.1) = tbl.map (fun z => DataW.lit (.int .i64 z)) := by
    simp only [Prod.mk.injEq] at hx
    have h1 : DataW.agg (xs.map (·.1)) = Rows.laid_proofprograms_tree_arities := hx.1.symm
    unfold Rows.laid_proofprograms_tree_arities at h1
    exact (DataW.agg.inj h1)
  have hi' := hel i hi14
  rw [c3, Nat.mul_one] at hi'
  have hxi : ∃ y, xs[i]? = some y := ⟨xs[i], List.getElem?_eq_getElem (by omega)⟩
  obtain ⟨y, hy⟩ := hxi
  rw [hy] at hi'
  obtain ⟨k, e1, e2, _⟩ := DataW.trod_int u3 hi'
  have hk : k = v := by
    have h2 : (xs.map (·.1))[i]? = some y.1 := by rw [List.getElem?_map, hy]; rfl
    rw [hx1, List.getElem?_map, hi] at h2
    rw [e2] at h2
    simpa using h2.symm
  subst hk
  have h3 : (cs0.toList.drop i)[0]? = some (Value.int .i64 k) := by
    have : ((cs0.toList.drop i).take 1)[0]? = some (Value.int .i64 k) := by rw [e1]; rfl
    rw [List.getElem?_take] at this
    simpa using this
  rw [List.getElem?_drop] at h3
  simpa using h3

/-- The door's own heap meets the condition. -/
theorem door_met (os : Os) (args : Array Value) : laidMetH Tryz.prog laidL ((World.doorLaid Tryz.prog 400 os).forCall (fun _ _ => 0) ⟨#[], args, []⟩).memory :=
  laidMetH_of_parts3 (fuel := 8) (laidMet_of_run' 8 (by kernel_rfl) (by kernel_rfl)) (by kernel_rfl) (by kernel_rfl)

/-- What the row says behind a call that left all that was there as it was. -/
theorem post_true {H : Type} {enc : TypeId × Value → H} {f : Func} {s : ChangeSpec} {W W' : World} {args : Array Value} {ds : List (DataW H)} {p : List MemPlace}
    (hvars : s.vars = []) (hW : DataW.Whole enc Tryz.prog f.params.toList s.vars false W args.toList ds [] p) (hA : DataW.TrodAll enc Tryz.prog W 0 (fun _ => true) true f.params.toList args.toList ds p)
    (hread : ∀ t ∈ f.params.toList, Tryz.prog.readableRec t = true ∧ t < Tryz.prog.types.size) (hres : f.resultTypes = #[4])
    (hfn : s.fn H (ds ++ []) = { results := [.lit (.bool true)], args := ds }) (hb : Below W.heap.size W W') :
    s.post enc Tryz.prog f false true false false W args (.bool true) W' := by
  refine ⟨ds, [], p, [], p, [], hW, ?_, ?_, ?_, hb.frame _, fun h => by cases h⟩
  · rw [hfn, hres]
    exact trodAll_mk1 (shut_bool u4 _)
  · rw [hfn]
    exact trodAll_keep laidOut hb _ _ _ _ hread hA fun x hx => by simpa using hW.lt x hx
  · rw [hfn, hvars]
    rfl

end Go.AI

