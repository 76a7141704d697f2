/- Any trees that are read are abstract trees; so the law returns true and leaves them as they were, where what it reads is of bulk at most 1048576. -/
import Derived.Test.YtbeboghgnmgpeaaWalkB
import Derived.Test.YtbeboghgnmgpeaaSimF
import Derived.Test.YtbeboghgnmgpeaaRows
set_option linter.unusedVariables false
set_option linter.unusedSimpArgs false
namespace Go.Sim
open Go.Proofs Go.ChangeShapes Go.WideShapes
open Go.Proofs.Ytbeboghgnmgpeaa
theorem und22 : Try.prog.underlying 22 = some (.slice 30) := by kernel_rfl
theorem und3 : Try.prog.underlying 3 = some (.int .i64) := by kernel_rfl
theorem und5 : Try.prog.underlying 5 = some (.int .u8) := by kernel_rfl
theorem co30 : Try.prog.cellsOf 30 = 7 := by kernel_rfl
theorem co28 : Try.prog.cellsOf 28 = 4 := by kernel_rfl
theorem co22 : Try.prog.cellsOf 22 = 1 := by kernel_rfl
theorem co3 : Try.prog.cellsOf 3 = 1 := by kernel_rfl
theorem co5 : Try.prog.cellsOf 5 = 1 := by kernel_rfl
def fieldsB (P : Program) (t : TypeId) : List (Nat × TypeId) := match P.underlying t with
  | some (.struct fs) => fs.toList.map fun f => (f.offset, f.type)
  | _ => []
theorem fl30 : fieldsB Try.prog 30 = [(0, 5), (1, 28), (5, 3), (6, 22)] := by kernel_rfl
theorem fl28 : fieldsB Try.prog 28 = [(0, 3), (1, 3), (2, 3), (3, 3)] := by kernel_rfl
section
variable {H : Type} {enc : TypeId × Value → H} {P : Program} {W : World} {base : Nat} {spare : Nat → Bool} {held : Bool}
/-- a struct's fields, read one by one -/
theorem struct_read {t : TypeId} {fl : List (Nat × TypeId)} {fuel : Nat} {cs : List Value} {x : DataW H × List MemPlace} (hf : fieldsB P t = fl) (hne : fl ≠ []) (h : DataW.trod enc P W base spare held fuel t cs = some x) :
    ∃ (xs : List (DataW H × List MemPlace)) (n : Nat), fuel = n + 1 ∧ x.1 = .agg (xs.map (·.1)) ∧ cs.length = P.cellsOf t ∧ xs.length = fl.length ∧
      ∀ (i : Nat) (o : Nat) (u : TypeId), fl[i]? = some (o, u) → DataW.trod enc P W base spare held n u ((cs.drop o).take (P.cellsOf u)) = xs[i]? := by
  unfold fieldsB at hf
  split at hf
  · rename_i fs hu
    obtain ⟨xs, n, h1, h2, h3, h4, h5⟩ := DataW.trod_struct hu h
    subst hf
    refine ⟨xs, n, h1, by rw [h2], h3, by simpa using h4, fun i o u hi => ?_⟩
    rw [List.getElem?_map] at hi
    cases hfi : fs[i]? with
    | none =>
      rw [Array.getElem?_toList, hfi] at hi; cases hi
    | some f =>
      rw [Array.getElem?_toList, hfi] at hi
      simp only [Option.map_some, Option.some.injEq, Prod.mk.injEq] at hi
      obtain ⟨rfl, rfl⟩ := hi
      exact h5 i f hfi
  · exact absurd hf.symm hne
theorem getElem_of_take {l : List Value} {o : Nat} {x : Value} (h : (l.drop o).take 1 = [x]) : l[o]? = some x := cell_of_cut h
theorem bulk_one {d : DataW H} : 1 ≤ Rows.uptoBulk d := by
  cases d with
  | lit l => cases l <;> simp [Rows.uptoBulk]
  | _ => simp [Rows.uptoBulk]
theorem bulk_append (l r : List (DataW H)) : Rows.uptoBulkAll (l ++ r) = Rows.uptoBulkAll l + Rows.uptoBulkAll r := by
  induction l with
  | nil => simp [Rows.uptoBulkAll]
  | cons x l ih => simp only [List.cons_append, Rows.uptoBulkAll, ih]; omega
theorem read_i64 {fuel : Nat} {cs : List Value} {x : DataW H × List MemPlace} (h : DataW.trod enc Try.prog W base spare held fuel 3 cs = some x) : ∃ n, cs = [.int .i64 n] := by
  obtain ⟨n, h1, _⟩ := DataW.trod_int und3 h
  exact ⟨n, h1⟩
theorem read_u8 {fuel : Nat} {cs : List Value} {x : DataW H × List MemPlace} (h : DataW.trod enc Try.prog W base spare held fuel 5 cs = some x) : ∃ n, cs = [.int .u8 n] := by
  obtain ⟨n, h1, _⟩ := DataW.trod_int und5 h
  exact ⟨n, h1⟩
theorem some_at {α : Type} {xs : List α} {i : Nat} (h : i < xs.length) : ∃ y, xs[i]? = some y := ⟨_, List.getElem?_eq_getElem h⟩
theorem read_rect {fuel : Nat} {cs : List Value} {x : DataW H × List MemPlace} (h : DataW.trod enc Try.prog W base spare held fuel 28 cs = some x) :
    ∃ r : R, cs = [.int .i64 r.x, .int .i64 r.y, .int .i64 r.w, .int .i64 r.h] := by
  obtain ⟨xs, n, rfl, _, hl, hx, hf⟩ := struct_read fl28 (by simp) h
  rw [co28] at hl
  match cs, hl with
  | [a, b, c, d], _ =>
    have h0 := hf 0 0 3 rfl
    have h1 := hf 1 1 3 rfl
    have h2 := hf 2 2 3 rfl
    have h3 := hf 3 3 3 rfl
    rw [co3] at h0 h1 h2 h3
    simp only [List.length_cons, List.length_nil] at hx
    obtain ⟨y0, e0⟩ := some_at (xs := xs) (i := 0) (by omega)
    obtain ⟨y1, e1⟩ := some_at (xs := xs) (i := 1) (by omega)
    obtain ⟨y2, e2⟩ := some_at (xs := xs) (i := 2) (by omega)
    obtain ⟨y3, e3⟩ := some_at (xs := xs) (i := 3) (by omega)
    rw [e0] at h0; rw [e1] at h1; rw [e2] at h2; rw [e3] at h3
    obtain ⟨n0, k0⟩ := read_i64 h0
    obtain ⟨n1, k1⟩ := read_i64 h1
    obtain ⟨n2, k2⟩ := read_i64 h2
    obtain ⟨n3, k3⟩ := read_i64 h3
    simp only [List.drop_zero, List.drop_succ_cons, List.take_succ_cons, List.take_zero, List.cons.injEq, and_true] at k0 k1 k2 k3
    exact ⟨⟨n0, n1, n2, n3⟩, by rw [k0, k1, k2, k3]⟩
/-- cells that are read are trees -/
theorem read_cells : ∀ (fuel : Nat), (∀ (cs : List Value) (x : DataW H × List MemPlace), DataW.trod enc Try.prog W base spare held fuel 30 cs = some x → ∃ t : T, RelAll (readC W) (cellsT t) cs ∧ sizeT t ≤ Rows.uptoBulk x.1) ∧
    (∀ (cs : List Value) (x : DataW H × List MemPlace), DataW.trod enc Try.prog W base spare held fuel 22 cs = some x → ∃ (ts : List T) (v : Value), cs = [v] ∧ Rel (readC W) (.slice 7 (ts.map encT)) v ∧ sizeL ts + 1 ≤ Rows.uptoBulk x.1) := by
  intro fuel
  induction fuel using Nat.strongRecOn with
  | ind fuel ih =>
    constructor
    · intro cs x h
      obtain ⟨xs, n, rfl, hx1, hl, hx, hf⟩ := struct_read fl30 (by simp) h
      rw [co30] at hl
      match cs, hl with
      | [k, a, b, c, d, i, v], _ =>
        have h0 := hf 0 0 5 rfl
        have h1 := hf 1 1 28 rfl
        have h2 := hf 2 5 3 rfl
        have h3 := hf 3 6 22 rfl
        rw [co5] at h0; rw [co28] at h1; rw [co3] at h2; rw [co22] at h3
        simp only [List.length_cons, List.length_nil] at hx
        match xs, hx with
        | [y0, y1, y2, y3], _ =>
          obtain ⟨n0, k0⟩ := read_u8 (h0.trans rfl)
          obtain ⟨r, k1⟩ := read_rect (h1.trans rfl)
          obtain ⟨n2, k2⟩ := read_i64 (h2.trans rfl)
          obtain ⟨ts, v', k3, hv, hs⟩ := (ih n (by omega)).2 _ _ (h3.trans rfl)
          simp only [List.drop_zero, List.drop_succ_cons, List.take_succ_cons, List.take_zero, List.cons.injEq, and_true] at k0 k1 k2 k3
          obtain ⟨q0, q1, q2, q3⟩ := k1
          subst k0 k2 k3 q0 q1 q2 q3
          refine ⟨.node n0 r.x r.y r.w r.h n2 ts, ⟨_, _, rfl, rfl, _, _, rfl, rfl, _, _, rfl, rfl, _, _, rfl, rfl, _, _, rfl, rfl, _, _, rfl, rfl, _, _, rfl, hv, rfl⟩, ?_⟩
          rw [hx1]
          simp only [List.map_cons, List.map_nil, Rows.uptoBulk, Rows.uptoBulkAll, sizeT]
          omega
    · intro cs x h
      rcases DataW.trod_slice und22 h with ⟨rfl, rfl⟩ | ⟨a, len, cap, elems, rest, n, rfl, rfl, rfl, hb, hl, hm, hlen, hel, _, _⟩
      · exact ⟨[], _, rfl, ⟨none, 0, rfl, Nat.le_refl _, .inl rfl⟩, by simp [sizeL, Rows.uptoBulk]⟩
      · rw [co30] at hel
        have key : ∀ k, k ≤ len → ∃ (ts : List T) (vs : List Value), ts.length = k ∧ RelAll (readC W) (ts.map encT) vs ∧
            (∀ j v, vs[j]? = some v → v.cells.size = 7 ∧ (∀ c ∈ v.cells.toList, c.one = true) ∧ CellsAt W a.block (a.off + j * 7) v.cells.toList) ∧ (0 < k → a = ⟨a.block, a.off, none⟩ ∧ a.block < W.heap.size) ∧
            sizeL ts ≤ Rows.uptoBulkAll ((elems.take k).map (·.1)) := by
          intro k
          induction k with
          | zero => intro _; exact ⟨[], [], rfl, rfl, fun j v hj => by simp at hj, fun h => by omega, by simp [sizeL, Rows.uptoBulkAll]⟩
          | succ k ihk =>
            intro hk
            obtain ⟨ts, vs, h1, h2, h3, h4, h5⟩ := ihk (by omega)
            have he := hel k (by omega)
            have hk' : k < elems.length := by omega
            rw [List.getElem?_eq_getElem hk'] at he
            obtain ⟨cs, hc, ht⟩ := Option.bind_eq_some_iff.1 he
            obtain ⟨t, hr, hst⟩ := (ih n (by omega)).1 cs _ ht
            obtain ⟨ha, hbk, hcl, hcc⟩ := cells_read (by omega) hc
            have hvl := relAll_length h2
            rw [List.length_map, h1] at hvl
            -- the address of the first cell
            have hsp : a.spot = none ∧ (a.add (k * 7)).block = a.block ∧ (a.add (k * 7)).off = a.off + k * 7 := by
              have hab := ha
              clear ha
              by_cases hk0 : k = 0
              · subst hk0
                have e0 : a.add (0 * 7) = a := by simp [Addr.add]
                rw [e0]
                rw [e0] at hab
                exact ⟨by rw [hab], rfl, by simp⟩
              · have e := (h4 (by omega)).1
                generalize a.block = ab at e ⊢
                generalize a.off = ao at e ⊢
                subst e
                rw [addr_add]
                exact ⟨rfl, rfl, rfl⟩
            rw [hsp.2.1] at hbk hcc
            rw [hsp.2.2] at hcc
            refine ⟨ts ++ [t], vs ++ [.agg cs.toArray], by simp [h1], ?_, ?_, fun _ => ⟨by cases a; simp only at hsp ⊢; simp [hsp.1], hbk⟩, ?_⟩
            · rw [List.map_append]
              refine relAll_append h2 ⟨_, [], rfl, ?_, rfl⟩
              rw [encT_cells]
              exact ⟨_, rfl, by simpa using hr⟩
            · intro j v hj
              rcases Nat.lt_or_ge j vs.length with hjl | hjl
              · rw [List.getElem?_append_left hjl] at hj
                exact h3 j v hj
              · rw [List.getElem?_append_right hjl] at hj
                have hj0 : j - vs.length = 0 := by
                  have := (List.getElem?_eq_some_iff.1 hj).1
                  simp at this; omega
                rw [hj0] at hj
                simp only [List.getElem?_cons_zero, Option.some.injEq] at hj
                subst hj
                have hjk : j = k := by omega
                subst hjk
                refine ⟨by simpa [Value.cells] using hcl, ?_, by simpa [Value.cells] using hcc⟩
                have := one_all (one_T t) hr
                simpa [Value.cells] using this
            · rw [sizeL_append, List.take_succ_eq_append_getElem hk', List.map_append, bulk_append]
              simp only [sizeL, List.map_cons, List.map_nil, Rows.uptoBulkAll]
              omega
        obtain ⟨ts, vs, h1, h2, h3, h4, h5⟩ := key len (Nat.le_refl _)
        refine ⟨ts, _, rfl, ?_, ?_⟩
        · refine ⟨some a, cap, by simp [h1], by simpa [h1] using hl, ?_⟩
          by_cases h0 : len = 0
          · left
            have : ts = [] := List.eq_nil_of_length_eq_zero (by omega)
            rw [this]; rfl
          · obtain ⟨ha, hbk⟩ := h4 (by omega)
            exact .inr ⟨a.block, a.off, vs, by rw [← ha], readC_still hbk, h2, h3⟩
        · rw [List.take_of_length_le (by omega)] at h5
          simp only [Rows.uptoBulk]
          omega
end
end Go.Sim

namespace Go.Proofs.Ytbeboghgnmgpeaa.cellCounts
open Go.ChangeShapes Go.WideShapes Go.ChangeAt Go.RowKit Go.WideElems
set_option linter.unusedVariables false
theorem own : ownKnob Try.prog.godebug = none := by kernel_rfl
theorem laid : laidOutB Try.prog = true := by kernel_rfl
theorem rec22 : Try.prog.readableRec 22 = true := by kernel_rfl
theorem row22 : 22 < Try.prog.types.size := by decide +kernel
theorem und4 : Try.prog.underlying 4 = some .bool := by kernel_rfl
theorem contract (H : Type) (enc : TypeId × Value → H) (W : World) (base : Nat) (args : Array Value) (ds gs : List (DataW H)) (before : List MemPlace)
    (hval : ∀ (j : Nat) t v, Try.f3.params[j]? = some t → args[j]? = some v → Value.okWide Try.prog W .any base t v)
    (hW : DataW.Whole enc Try.prog Try.f3.params.toList Rows.cellCountsSpec.vars false W args.toList ds gs before) (hk : Rows.uptoSmall H (ds ++ gs) = true) :
    Calls Try.prog 3 args W fun e W' => ∃ v, e = .returned v ∧ Rows.cellCountsSpec.post enc Try.prog Try.f3 false true false false W args v W' := by
  have hW' := hW
  have hlt := hW.lt
  obtain ⟨p, q, hA0, hV, rfl, hfz, hnd⟩ := hW
  have hA : DataW.TrodAll enc Try.prog W 0 (fun _ => true) true Try.f3.params.toList args.toList ds p := hA0
  rw [Try.params3] at hA hval
  obtain ⟨v0, vs0, d0, ds0, p0, q0, hargs, rfl, rfl, h0, r0⟩ := trodAll_cons hA
  obtain ⟨rfl, rfl, rfl⟩ := trodAll_nil r0
  obtain rfl : args = #[v0] := by cases args; simp_all
  obtain ⟨rfl, rfl⟩ := trodVars_none hV
  obtain ⟨a, len, cap, rfl⟩ := okWide_slice Sim.und22 (hval 0 22 v0 rfl rfl)
  have h0' := h0
  obtain ⟨fuel, hfu⟩ := h0
  obtain ⟨ts, v', hv', hrel, hsz⟩ := (Sim.read_cells fuel).2 _ _ hfu
  simp only [Value.cells, List.cons.injEq, and_true] at hv'
  subst hv'
  clear hA0
  simp only [List.append_nil] at hW' hk hlt
  have hb : Rows.uptoBulkAll [d0] ≤ 1048576 := of_decide_eq_true hk
  simp only [Rows.uptoBulkAll] at hb
  simp only at hsz
  refine (Sim.calls_of_pure (W := W) (vs := [.slice a len cap]) (Sim.cellCountsFn ts (by omega)) ⟨_, [], rfl, hrel, rfl⟩ rfl).mono ?_
  rintro e W' ⟨x, rfl, hx, hkept⟩
  simp only [Sim.Rel] at hx
  subst hx
  exact ⟨_, rfl, Sim.post_kept (pa := p0) (pv := []) hW' (fun _ _ _ => (trodAll_cons_mk (shut_bool und4 _) trodAll_mk0))
    (fun sp hsp => by
      have h := trodAll_cons_mk (Trod_stays (W' := W') (sp' := sp) laid rec22 row22 h0' (fun p hp => hkept.sameAt (hlt p hp)) (fun p hp => hsp p hp)) (trodAll_mk0 (enc := enc) (P := Try.prog) (w := W') (base := 0) (spare := sp) (held := true))
      rw [List.append_nil] at h
      exact h) (fun _ _ => rfl) (by simp) hkept (ok_one (by kernel_rfl) rfl (okWide_bool_mk und4 _))⟩
set_option maxRecDepth 100000 in
theorem lifted (os : Os) (started : os.Started) (H : Type) (enc : TypeId × Value → H) (F : Stop.Interp) :
    ReturnsInHanded {} Try.checked os 3 .any ((Rows.OpenSpec.upto Rows.cellCountsSpec).pre6 enc Try.prog Try.f3 Rows.cellCountsUptoRow.domain false) (((Rows.OpenSpec.upto Rows.cellCountsSpec).at F).post enc Try.prog Try.f3 false true false false) := by
  refine returnsInHanded_of_cond (C := Try.checked) (s := Rows.OpenSpec.upto Rows.cellCountsSpec) (k := Rows.uptoSmall) rfl own started (by kernel_rfl) Try.func3
    (OpenSpec.witness (enc := enc) (C := Try.checked) (s := Rows.OpenSpec.upto Rows.cellCountsSpec) (k := Rows.uptoSmall) rfl false ⟨#[], #[.slice none 0 0], []⟩ 8 (by kernel_rfl) (by kernel_rfl) (by kernel_rfl)
      (x := ([.nil], [], [])) (by kernel_rfl) rfl (by kernel_rfl)) ?_
  intro W base args ds gs before hval hW _ hk _
  exact contract H enc W base args ds gs before hval hW hk
theorem proved : Rows.CellCountsUptoSaid :=
  OpenClaim.holds_of_cond 3 Try.f3 rfl rfl rfl rfl rfl rfl rfl ⟨rfl, rfl, rfl, rfl, rfl⟩ rfl rfl rfl rfl rfl (by kernel_rfl) Try.func3 (by kernel_rfl)
    (of_decide_eq_true (by kernel_rfl)) (by unfold Func.isWrapper; first | (rw [if_pos (by decide +kernel)]; kernel_rfl) | (rw [if_neg (by decide +kernel)]; exact ⟨rfl, rfl⟩))
    (fun os started H enc _ F => lifted os started H enc F)
end Go.Proofs.Ytbeboghgnmgpeaa.cellCounts
