/- Any trees that are read are abstract trees, and the tables that the row lays are there; so the law returns true and leaves them as they were, where what it reads is of bulk at most 1048576. -/
import Derived.Test.YtnfaajgnecjkiaaGreatDoorWalkC
import Derived.Test.YtnfaajgnecjkiaaGreatDoorSimF
import Derived.Test.YtnfaajgnecjkiaaGreatDoorRows
import Derived.Test.YtnfaajgnecjkiaaGreatDoorCards
import Derived.Test.YtnfaajgnecjkiaaGreatDoorTie
import Derived.Deep.DeepHandedRow
set_option linter.unusedVariables false
set_option linter.unusedSimpArgs false
namespace Go.Sim
open Go.Proofs Go.ChangeShapes Go.WideShapes
open Go.Proofs.YtnfaajgnecjkiaaGreatDoor
theorem undCs : Tryz.prog.underlying (22 : Nat) = some (.slice (30 : Nat)) := by kernel_rfl
theorem undI : Tryz.prog.underlying (3 : Nat) = some (.int .i64) := by kernel_rfl
theorem undU8 : Tryz.prog.underlying (5 : Nat) = some (.int .u8) := by kernel_rfl
theorem coC : Tryz.prog.cellsOf (30 : Nat) = 7 := by kernel_rfl
theorem coR : Tryz.prog.cellsOf (28 : Nat) = 4 := by kernel_rfl
theorem coCs : Tryz.prog.cellsOf (22 : Nat) = 1 := by kernel_rfl
theorem coI : Tryz.prog.cellsOf (3 : Nat) = 1 := by kernel_rfl
theorem coU8 : Tryz.prog.cellsOf (5 : Nat) = 1 := by kernel_rfl
theorem flC : fieldsB Tryz.prog (30 : Nat) = [(0, (5 : Nat)), (1, (28 : Nat)), (5, (3 : Nat)), (6, (22 : Nat))] := by kernel_rfl
theorem flR : fieldsB Tryz.prog (28 : Nat) = [(0, (3 : Nat)), (1, (3 : Nat)), (2, (3 : Nat)), (3, (3 : Nat))] := by kernel_rfl
section
variable {H : Type} {enc : TypeId × Value → H} {P : Program} {W : World} {base : Nat} {spare : Nat → Bool} {held : Bool}
theorem getElem_of_take {l : List Value} {o : Nat} {x : Value} (h : (l.drop o).take 1 = [x]) : l[o]? = some x := cell_of_cut h
theorem bulk_one {d : DataW H} : 1 ≤ Rows.uptoBulk d := by
  cases d with
  | lit l => cases l <;> simp [Rows.uptoBulk]
  | _ => simp [Rows.uptoBulk]
theorem bulk_append (l r : List (DataW H)) : Rows.uptoBulkAll (l ++ r) = Rows.uptoBulkAll l + Rows.uptoBulkAll r := by
  induction l with
  | nil => simp [Rows.uptoBulkAll]
  | cons x l ih => simp only [List.cons_append, Rows.uptoBulkAll, ih]; omega
theorem read_i64 {fuel : Nat} {cs : List Value} {x : DataW H × List MemPlace} (h : DataW.trod enc Tryz.prog W base spare held fuel (3 : Nat) cs = some x) : ∃ n, cs = [.int .i64 n] := by
  obtain ⟨n, h1, _⟩ := DataW.trod_int undI h
  exact ⟨n, h1⟩
theorem read_u8 {fuel : Nat} {cs : List Value} {x : DataW H × List MemPlace} (h : DataW.trod enc Tryz.prog W base spare held fuel (5 : Nat) cs = some x) : ∃ n, cs = [.int .u8 n] := by
  obtain ⟨n, h1, _⟩ := DataW.trod_int undU8 h
  exact ⟨n, h1⟩
set_option maxRecDepth 100000 in
theorem read_rect {fuel : Nat} {cs : List Value} {x : DataW H × List MemPlace} (h : DataW.trod enc Tryz.prog W base spare held fuel (28 : Nat) cs = some x) :
    ∃ r : R, cs = [.int .i64 r.x, .int .i64 r.y, .int .i64 r.w, .int .i64 r.h] := by
  obtain ⟨xs, n, rfl, _, hl, hx, hf⟩ := struct_read flR (by simp) h
  rw [coR] at hl
  match cs, hl with
  | [a, b, c, d], _ =>
    have h0 := hf 0 0 (3 : Nat) rfl
    have h1 := hf 1 1 (3 : Nat) rfl
    have h2 := hf 2 2 (3 : Nat) rfl
    have h3 := hf 3 3 (3 : Nat) rfl
    rw [coI] at h0 h1 h2 h3
    simp only [List.length_cons, List.length_nil] at hx
    obtain ⟨y0, e0⟩ := some_at (xs := xs) (i := 0) (by omega)
    obtain ⟨y1, e1⟩ := some_at (xs := xs) (i := 1) (by omega)
    obtain ⟨y2, e2⟩ := some_at (xs := xs) (i := 2) (by omega)
    obtain ⟨y3, e3⟩ := some_at (xs := xs) (i := 3) (by omega)
    rw [e0] at h0; rw [e1] at h1; rw [e2] at h2; rw [e3] at h3
    obtain ⟨n0, k0⟩ := read_i64 h0
    obtain ⟨n1, k1⟩ := read_i64 h1
    obtain ⟨n2, k2⟩ := read_i64 h2
    obtain ⟨n3, k3⟩ := read_i64 h3
    simp only [List.drop_zero, List.drop_succ_cons, List.take_succ_cons, List.take_zero, List.cons.injEq, and_true] at k0 k1 k2 k3
    exact ⟨⟨n0, n1, n2, n3⟩, by rw [k0, k1, k2, k3]⟩
set_option maxRecDepth 100000 in
/-- cells that are read are trees -/
theorem read_cells : ∀ (fuel : Nat), (∀ (cs : List Value) (x : DataW H × List MemPlace), DataW.trod enc Tryz.prog W base spare held fuel (30 : Nat) cs = some x → ∃ t : T, RelAll (readC W) (cellsT t) cs ∧ sizeT t ≤ Rows.uptoBulk x.1) ∧
    (∀ (cs : List Value) (x : DataW H × List MemPlace), DataW.trod enc Tryz.prog W base spare held fuel (22 : Nat) cs = some x → ∃ (ts : List T) (v : Value), cs = [v] ∧ Rel (readC W) (.slice 7 (ts.map encT)) v ∧ sizeL ts + 1 ≤ Rows.uptoBulk x.1) := by
  intro fuel
  induction fuel using Nat.strongRecOn with
  | ind fuel ih =>
    constructor
    · intro cs x h
      obtain ⟨xs, n, rfl, hx1, hl, hx, hf⟩ := struct_read flC (by simp) h
      rw [coC] at hl
      match cs, hl with
      | [k, a, b, c, d, i, v], _ =>
        have h0 := hf 0 0 (5 : Nat) rfl
        have h1 := hf 1 1 (28 : Nat) rfl
        have h2 := hf 2 5 (3 : Nat) rfl
        have h3 := hf 3 6 (22 : Nat) rfl
        rw [coU8] at h0; rw [coR] at h1; rw [coI] at h2; rw [coCs] at h3
        simp only [List.length_cons, List.length_nil] at hx
        match xs, hx with
        | [y0, y1, y2, y3], _ =>
          obtain ⟨n0, k0⟩ := read_u8 (h0.trans rfl)
          obtain ⟨r, k1⟩ := read_rect (h1.trans rfl)
          obtain ⟨n2, k2⟩ := read_i64 (h2.trans rfl)
          obtain ⟨ts, v', k3, hv, hs⟩ := (ih n (by omega)).2 _ _ (h3.trans rfl)
          simp only [List.drop_zero, List.drop_succ_cons, List.take_succ_cons, List.take_zero, List.cons.injEq, and_true] at k0 k1 k2 k3
          obtain ⟨q0, q1, q2, q3⟩ := k1
          subst k0 k2 k3 q0 q1 q2 q3
          refine ⟨.node n0 r.x r.y r.w r.h n2 ts, ⟨_, _, rfl, rfl, _, _, rfl, rfl, _, _, rfl, rfl, _, _, rfl, rfl, _, _, rfl, rfl, _, _, rfl, rfl, _, _, rfl, hv, rfl⟩, ?_⟩
          rw [hx1]
          simp only [List.map_cons, List.map_nil, Rows.uptoBulk, Rows.uptoBulkAll, sizeT]
          omega
    · intro cs x h
      rcases DataW.trod_slice undCs h with ⟨rfl, rfl⟩ | ⟨a, len, cap, elems, rest, n, rfl, rfl, rfl, hb, hl, hm, hlen, hel, _, _⟩
      · exact ⟨[], _, rfl, ⟨none, 0, rfl, Nat.le_refl _, .inl rfl⟩, by simp [sizeL, Rows.uptoBulk]⟩
      · rw [coC] at hel
        have key : ∀ k, k ≤ len → ∃ (ts : List T) (vs : List Value), ts.length = k ∧ RelAll (readC W) (ts.map encT) vs ∧
            (∀ j v, vs[j]? = some v → v.cells.size = 7 ∧ (∀ c ∈ v.cells.toList, c.one = true) ∧ CellsAt W a.block (a.off + j * 7) v.cells.toList) ∧ (0 < k → a = ⟨a.block, a.off, none⟩ ∧ a.block < W.heap.size) ∧
            sizeL ts ≤ Rows.uptoBulkAll ((elems.take k).map (·.1)) := by
          intro k
          induction k with
          | zero => intro _; exact ⟨[], [], rfl, rfl, fun j v hj => by simp at hj, fun h => by omega, by simp [sizeL, Rows.uptoBulkAll]⟩
          | succ k ihk =>
            intro hk
            obtain ⟨ts, vs, h1, h2, h3, h4, h5⟩ := ihk (by omega)
            have he := hel k (by omega)
            have hk' : k < elems.length := by omega
            rw [List.getElem?_eq_getElem hk'] at he
            obtain ⟨cs, hc, ht⟩ := Option.bind_eq_some_iff.1 he
            obtain ⟨t, hr, hst⟩ := (ih n (by omega)).1 cs _ ht
            obtain ⟨ha, hbk, hcl, hcc⟩ := cells_read (by omega) hc
            have hvl := relAll_length h2
            rw [List.length_map, h1] at hvl
            -- the address of the first cell
            have hsp : a.spot = none ∧ (a.add (k * 7)).block = a.block ∧ (a.add (k * 7)).off = a.off + k * 7 := by
              have hab := ha
              clear ha
              by_cases hk0 : k = 0
              · subst hk0
                have e0 : a.add (0 * 7) = a := by simp [Addr.add]
                rw [e0]
                rw [e0] at hab
                exact ⟨by rw [hab], rfl, by simp⟩
              · have e := (h4 (by omega)).1
                generalize a.block = ab at e ⊢
                generalize a.off = ao at e ⊢
                subst e
                rw [addr_add]
                exact ⟨rfl, rfl, rfl⟩
            rw [hsp.2.1] at hbk hcc
            rw [hsp.2.2] at hcc
            refine ⟨ts ++ [t], vs ++ [.agg cs.toArray], by simp [h1], ?_, ?_, fun _ => ⟨by cases a; simp only at hsp ⊢; simp [hsp.1], hbk⟩, ?_⟩
            · rw [List.map_append]
              refine relAll_append h2 ⟨_, [], rfl, ?_, rfl⟩
              rw [encT_cells]
              exact ⟨_, rfl, by simpa using hr⟩
            · intro j v hj
              rcases Nat.lt_or_ge j vs.length with hjl | hjl
              · rw [List.getElem?_append_left hjl] at hj
                exact h3 j v hj
              · rw [List.getElem?_append_right hjl] at hj
                have hj0 : j - vs.length = 0 := by
                  have := (List.getElem?_eq_some_iff.1 hj).1
                  simp at this; omega
                rw [hj0] at hj
                simp only [List.getElem?_cons_zero, Option.some.injEq] at hj
                subst hj
                have hjk : j = k := by omega
                subst hjk
                refine ⟨by simpa [Value.cells] using hcl, ?_, by simpa [Value.cells] using hcc⟩
                have := one_all (one_T t) hr
                simpa [Value.cells] using this
            · rw [sizeL_append, List.take_succ_eq_append_getElem hk', List.map_append, bulk_append]
              simp only [sizeL, List.map_cons, List.map_nil, Rows.uptoBulkAll]
              omega
        obtain ⟨ts, vs, h1, h2, h3, h4, h5⟩ := key len (Nat.le_refl _)
        refine ⟨ts, _, rfl, ?_, ?_⟩
        · refine ⟨some a, cap, by simp [h1], by simpa [h1] using hl, ?_⟩
          by_cases h0 : len = 0
          · left
            have : ts = [] := List.eq_nil_of_length_eq_zero (by omega)
            rw [this]; rfl
          · obtain ⟨ha, hbk⟩ := h4 (by omega)
            exact .inr ⟨a.block, a.off, vs, by rw [← ha], readC_still hbk, h2, h3⟩
        · rw [List.take_of_length_le (by omega)] at h5
          simp only [Rows.uptoBulk]
          omega
theorem und32 : Tryz.prog.underlying (133 : Nat) = some (.array 32 (5 : Nat)) := by kernel_rfl
theorem und64 : Tryz.prog.underlying (134 : Nat) = some (.array 64 (5 : Nat)) := by kernel_rfl
theorem und20 : Tryz.prog.underlying (121 : Nat) = some (.array 20 (72 : Nat)) := by kernel_rfl
theorem undU64 : Tryz.prog.underlying (72 : Nat) = some (.int .u64) := by kernel_rfl
theorem libOk {laid : List (String × DataW Unit)} (h : laidMet Tryz.prog laid W) (h1 : ("internal/strconv.uint64pow10", Rows.laid_internal_strconv_uint64pow10) ∈ laid) (h2 : ("math/bits.deBruijn32tab", Rows.laid_math_bits_deBruijn32tab) ∈ laid) (h3 : ("math/bits.deBruijn64tab", Rows.laid_math_bits_deBruijn64tab) ∈ laid) : LibOk Tryz.prog (readC W) := by
  refine libOk_intro fun n cs hm g hg => ?_
  unfold libVars at hm
  rcases List.mem_cons.1 hm with e | hm
  · cases e; exact tabIs_of_mem (g := 0) (by kernel_rfl) (by kernel_rfl) und20 undU64 (by kernel_rfl) (by kernel_rfl) h1 h
  rcases List.mem_cons.1 hm with e | hm
  · cases e; exact tabIs_of_mem (g := 2) (by kernel_rfl) (by kernel_rfl) und32 undU8 coU8 (by kernel_rfl) h2 h
  rcases List.mem_cons.1 hm with e | hm
  · cases e; exact tabIs_of_mem (g := 3) (by kernel_rfl) (by kernel_rfl) und64 undU8 coU8 (by kernel_rfl) h3 h
  · cases hm
end
end Go.Sim

namespace Go.Proofs.YtnfaajgnecjkiaaGreatDoor.printFits
open Go.ChangeShapes Go.WideShapes Go.ChangeAt Go.RowKit Go.WideElems
theorem own : ownKnob Tryz.prog.godebug = none := by kernel_rfl
theorem laidOut : laidOutB Tryz.prog = true := by kernel_rfl
theorem recC : Tryz.prog.readableRec (22 : Nat) = true := by kernel_rfl
theorem rowC : (22 : Nat) < Tryz.prog.types.size := by decide +kernel
theorem undB : Tryz.prog.underlying (4 : Nat) = some .bool := by kernel_rfl
set_option maxRecDepth 100000 in
theorem contract (H : Type) (enc : TypeId × Value → H) (W : World) (base : Nat) (args : Array Value) (ds gs : List (DataW H)) (before : List MemPlace)
    (hval : ∀ (j : Nat) t v, Tryz.f3.params[j]? = some t → args[j]? = some v → Value.okWide Tryz.prog W .any base t v)
    (hW : DataW.Whole enc Tryz.prog Tryz.f3.params.toList Rows.printFitsSpec.vars false W args.toList ds gs before) (hL : laidMetH Tryz.prog Rows.printFitsRow.laid W) (hk : Rows.uptoSmall H (ds ++ gs) = true) :
    Calls Tryz.prog 3 args W fun e W' => ∃ v, e = .returned v ∧ Rows.printFitsSpec.post enc Tryz.prog Tryz.f3 false true false false W args v W' := by
  have hW' := hW
  have hlt := hW.lt
  obtain ⟨p, q, hA0, hV, rfl, hfz, hnd⟩ := hW
  have hA : DataW.TrodAll enc Tryz.prog W 0 (fun _ => true) true Tryz.f3.params.toList args.toList ds p := hA0
  rw [Tryz.params3] at hA hval
  obtain ⟨v0, vs0, d0, ds0, p0, q0, hargs, rfl, rfl, h0, r0⟩ := trodAll_cons hA
  obtain ⟨rfl, rfl, rfl⟩ := trodAll_nil r0
  obtain rfl : args = #[v0] := by cases args; simp_all
  obtain ⟨rfl, rfl⟩ := trodVars_none hV
  obtain ⟨a, len, cap, rfl⟩ := okWide_slice Sim.undCs (hval 0 (22 : Nat) v0 rfl rfl)
  have h0' := h0
  obtain ⟨fuel, hfu⟩ := h0
  obtain ⟨ts, v', hv', hrel, hsz⟩ := (Sim.read_cells fuel).2 _ _ hfu
  simp only [Value.cells, List.cons.injEq, and_true] at hv'
  subst hv'
  clear hA0
  simp only [List.append_nil] at hW' hk hlt
  have hb : Rows.uptoBulkAll [d0] ≤ 1048576 := of_decide_eq_true hk
  simp only [Rows.uptoBulkAll] at hb
  simp only at hsz
  refine (Sim.calls_of_pure (W := W) (vs := [.slice a len cap]) (Sim.printFitsFn ts (by omega)) (Sim.libOk hL (List.mem_cons_of_mem _ (List.mem_cons_of_mem _ (List.mem_cons_self ..))) (List.mem_cons_self ..) (List.mem_cons_of_mem _ (List.mem_cons_self ..))) ⟨_, [], rfl, hrel, rfl⟩ rfl).mono ?_
  rintro e W' ⟨x, rfl, hx, hkept⟩
  simp only [Sim.Rel] at hx
  subst hx
  exact ⟨_, rfl, Sim.post_kept (pa := p0) (pv := []) hW' (fun _ _ _ => (trodAll_cons_mk (shut_bool undB _) trodAll_mk0))
    (fun sp hsp => by
      have h := trodAll_cons_mk (Trod_stays (W' := W') (sp' := sp) laidOut recC rowC h0' (fun p hp => hkept.sameAt (hlt p hp)) (fun p hp => hsp p hp)) (trodAll_mk0 (enc := enc) (P := Tryz.prog) (w := W') (base := 0) (spare := sp) (held := true))
      rw [List.append_nil] at h
      exact h) (fun _ _ => rfl) (by simp) hkept (ok_one (by kernel_rfl) rfl (okWide_bool_mk undB _))⟩
/-- a world in which the listed tables lie -/
noncomputable def laidWorld (os : Os) : World :=
  { World.holding Tryz.prog os ⟨#[], #[], []⟩ with heap := Sim.layAt 3 (Sim.tabInts .u8 [0, 1, 56, 2, 57, 49, 28, 3, 61, 58, 42, 50, 38, 29, 17, 4, 62, 47, 59, 36, 45, 43, 51, 22, 53, 39, 33, 30, 24, 18, 12, 5, 63, 55, 48, 27, 60, 41, 37, 16, 46, 35, 44, 21, 52, 32, 23, 11, 54, 26, 40, 15, 34, 20, 31, 10, 25, 14, 19, 9, 13, 8, 7, 6]) (Sim.layAt 2 (Sim.tabInts .u8 [0, 1, 28, 2, 29, 14, 24, 3, 30, 22, 20, 15, 25, 17, 4, 8, 31, 27, 13, 23, 21, 19, 16, 7, 26, 12, 18, 6, 11, 5, 10, 9]) (Sim.layAt 0 (Sim.tabInts .u64 [1, 10, 100, 1000, 10000, 100000, 1000000, 10000000, 100000000, 1000000000, 10000000000, 100000000000, 1000000000000, 10000000000000, 100000000000000, 1000000000000000, 10000000000000000, 100000000000000000, 1000000000000000000, 10000000000000000000]) (World.holding Tryz.prog os ⟨#[], #[], []⟩).heap)) }
def argW : Array Value := #[.slice none 0 0]
theorem laid_met (os : Os) : laidMet Tryz.prog Rows.printFitsRow.laid ((laidWorld os).forCall (fun _ _ => 0) ⟨#[], argW, []⟩).memory :=
  laidMet_of_run' 8 (by kernel_rfl) (by kernel_rfl)
def datW {H : Type} : List (DataW H) := [.nil]
theorem reads (os : Os) {H : Type} (enc : TypeId × Value → H) : ∃ places, DataW.whole enc Tryz.prog ((laidWorld os).forCall (fun _ _ => 0) ⟨#[], argW, []⟩).memory Tryz.f3.params.toList Rows.printFitsSpec.vars false argW.toList 8 = some (datW, [], places) :=
  ⟨[], by kernel_rfl⟩
set_option maxRecDepth 100000 in
theorem lifted (os : Os) (started : os.Started) (H : Type) (enc : TypeId × Value → H) (F : Stop.Interp) :
    ReturnsInHanded {} Tryz.checked os 3 .any ((Rows.OpenSpec.upto Rows.printFitsSpec).preRow enc Tryz.prog Tryz.f3 Rows.printFitsUptoRow.domain false Rows.printFitsUptoRow.laid) (((Rows.OpenSpec.upto Rows.printFitsSpec).at F).post enc Tryz.prog Tryz.f3 false true false false) := by
  obtain ⟨places, hx⟩ := reads (H := H) os enc
  refine returnsInHanded_of_row (C := Tryz.checked) (s := Rows.OpenSpec.upto Rows.printFitsSpec) own started (by kernel_rfl) Tryz.func3
    (witness_row_at (enc := enc) (C := Tryz.checked) false (laidWorld os) argW rfl (by kernel_rfl) (by kernel_rfl) (by kernel_rfl)
      (OpenSpec.preRow_of_cond 8 hx (by kernel_rfl) (fun k hk => by cases hk; kernel_rfl) (by kernel_rfl) (laid_met os))) ?_
  intro W base args ds gs before hval hW _ hcond _ hL _ _
  exact contract H enc W base args ds gs before hval hW hL (hcond _ rfl)
theorem said : Rows.PrintFitsUptoSaid :=
  OpenClaim.holds_of_cond 3 Tryz.f3 rfl rfl rfl rfl rfl rfl rfl ⟨rfl, rfl, rfl, rfl, rfl⟩ rfl rfl rfl rfl rfl (by kernel_rfl) Tryz.func3 (by kernel_rfl)
    (of_decide_eq_true (by kernel_rfl)) (by unfold Func.isWrapper; first | (rw [if_pos (by decide +kernel)]; kernel_rfl) | (rw [if_neg (by decide +kernel)]; exact ⟨rfl, rfl⟩))
    (fun os started H enc _ F => by rw [OpenClaim.pre_eq_preRow]; exact lifted os started H enc F)
theorem plain (f : FuncId) (fn : Func) (hf : Tryz.pinned.checked.prog.funcNamed "sash/sashlaw10.PrintFits" = some f) (hfn : Tryz.pinned.checked.prog.funcs[f]? = some fn) :
    false = Tryz.pinned.checked.prog.looks [] ∧ ∀ (j : Nat) t, fn.params[j]? = some t → Tryz.pinned.checked.prog.wantsStandIn t = false := by
  obtain rfl : f = 3 := Option.some.inj ((show Tryz.prog.funcNamed "sash/sashlaw10.PrintFits" = some 3 by kernel_rfl).symm.trans hf) |>.symm
  obtain rfl : fn = Tryz.f3 := (Option.some.inj (Tryz.func3.symm.trans hfn)).symm
  refine ⟨by kernel_rfl, fun j t ht => ?_⟩
  rw [Tryz.params3] at ht
  obtain rfl : t = (22 : Nat) := by simpa using Array.mem_of_getElem? ht
  exact (show Tryz.prog.wantsStandIn (22 : Nat) = false by kernel_rfl)
theorem proved : Rows.PrintFitsUptoCardSaid :=
  Claim7.holds_tied_plain_at .later [] _ _ _ _ said (fun _ h => by cases h) (by kernel_rfl) (fun _ h => by cases h) printFitsUpto_row_tie rfl ⟨rfl, rfl⟩ (by kernel_rfl) rfl plain (by kernel_rfl)
end Go.Proofs.YtnfaajgnecjkiaaGreatDoor.printFits
