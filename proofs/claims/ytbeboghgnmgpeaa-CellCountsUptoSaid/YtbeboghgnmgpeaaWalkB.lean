/- The walk over a tree with a counter and the numbers seen, and the law itself, compute what their Lean twins compute. -/
import Derived.Test.YtbeboghgnmgpeaaWalkA
import Derived.Test.YtbeboghgnmgpeaaSimF
set_option linter.unusedVariables false
set_option linter.unusedSimpArgs false
namespace Go.Sim
open Go.Proofs
/-! rectangles -/
structure R where
  x : Int
  y : Int
  w : Int
  h : Int
def cellsR (r : R) : List AV := [.int .i64 r.x, .int .i64 r.y, .int .i64 r.w, .int .i64 r.h]
def encR (r : R) : AV := .agg (cellsR r)
@[go_sem] theorem fold_R (r : R) : AV.agg (cellsR r) = encR r := rfl
@[go_sem] theorem elem_R {r : R} {kl : List AV → Prop} {z} : Run (elemCells (encR r) kl) z = kl (cellsR r) := rfl
@[go_sem] theorem len_R (r : R) : (cellsR r).length = 4 := rfl
@[go_sem] theorem take_R (r : R) : (cellsR r).take 4 = cellsR r := rfl
@[go_sem] theorem width_R (r : R) : (encR r).width = some 4 := rfl
@[go_sem] theorem cellsOne_R (r : R) : (encR r).cellsOne = true := rfl
@[go_sem] theorem pure_R (r : R) : (encR r).pureB = true := rfl
@[go_sem] theorem ld0_R {r : R} {n : Nat} {k : AV → Prop} {z} : Run (ldCells (some (false, n)) (cellsR r) k) z = k (.int .i64 r.x) := rfl
@[go_sem] theorem drop1_R (r : R) : (cellsR r).drop 1 = [.int .i64 r.y, .int .i64 r.w, .int .i64 r.h] := rfl
@[go_sem] theorem drop2_R (r : R) : (cellsR r).drop 2 = [.int .i64 r.w, .int .i64 r.h] := rfl
@[go_sem] theorem drop3_R (r : R) : (cellsR r).drop 3 = [.int .i64 r.h] := rfl
def rectMay (r : R) : Bool := decide (0 ≤ r.x ∧ 1 ≤ r.w ∧ r.w ≤ 10000 ∧ r.x ≤ 10000 - r.w ∧ 0 ≤ r.y ∧ 1 ≤ r.h ∧ r.h ≤ 10000 ∧ r.y ≤ 10000 - r.h)
set_option maxRecDepth 100000 in
theorem rectMayFn (r : R) : PureFn Try.prog 35 [encR r] (.ret (.bool (rectMay r))) := by
  refine PureFn.start (rs := [.tmp 2]) Try.func35 rfl rfl rfl (Nat.le_of_ble_eq_true rfl) (by decide) allLit ?_
  simp -dsimp -implicitDefEqProofs +contextual (disch := omega) only [go_sem, ↓reduceIte, Nat.reduceEqDiff, Nat.reduceAdd, List.length_map, List.length_append, Int.toNat_natCast, Int.ofNat_lt, Int.natCast_nonneg, Nat.le_refl, Nat.zero_add, Nat.reduceLeDiff, Nat.reduceMul, Nat.reduceLT, Nat.reduceSub, true_or, or_true, Nat.add_zero, Int.reduceLT, Int.reduceLE, Int.reduceNeg]
  simp +contextual [rectMay]; omega
set_option maxRecDepth 100000 in
theorem rectMay1Fn (r : R) : PureFn Try.prog 34 [encR r] (.ret (.bool (!rectMay r))) := by
  refine PureFn.start (rs := [.tmp 2]) Try.func34 rfl rfl rfl (Nat.le_of_ble_eq_true rfl) (by decide) allLit ?_
  simp -dsimp -implicitDefEqProofs +contextual (disch := omega) only [go_sem, ↓reduceIte, Nat.reduceEqDiff, Nat.reduceAdd, List.length_map, List.length_append, Int.toNat_natCast, Int.ofNat_lt, Int.natCast_nonneg, Nat.le_refl, Nat.zero_add, Nat.reduceLeDiff, Nat.reduceMul, Nat.reduceLT, Nat.reduceSub, true_or, or_true, Nat.add_zero, Int.reduceLT, Int.reduceLE, Int.reduceNeg]
  refine use_call (rectMayFn r) (by simp [pureAll, pure_R]) ?_
  simp -dsimp -implicitDefEqProofs +contextual (disch := omega) only [go_sem, ↓reduceIte, Nat.reduceEqDiff, Nat.reduceAdd, List.length_map, List.length_append, Int.toNat_natCast, Int.ofNat_lt, Int.natCast_nonneg, Nat.le_refl, Nat.zero_add, Nat.reduceLeDiff, Nat.reduceMul, Nat.reduceLT, Nat.reduceSub, true_or, or_true, Nat.add_zero, Int.reduceLT, Int.reduceLE, Int.reduceNeg]
def findR (p : R → Bool) : List R → Int → Int
  | [], _ => -1
  | r :: l, i => if p r then i else findR p l (i + 1)
theorem findR_none (p : R → Bool) : ∀ (l : List R) (i : Int), (∀ r ∈ l, p r = false) → findR p l i = -1
  | [], _, _ => rfl
  | r :: l, i, h => by rw [findR, if_neg (by simp [h r]), findR_none p l _ fun x hx => h x (by simp [hx])]
theorem findR_at (p : R → Bool) : ∀ (l : List R) (i : Int) (j : Nat) (h : j < l.length), (∀ r ∈ l.take j, p r = false) → p l[j] = true → findR p l i = i + j
  | r :: l, i, 0, _, _, hp => by simp at hp; simp [findR, hp]
  | r :: l, i, j + 1, h, hn, hp => by
    rw [findR, if_neg (by have := hn r (by simp); simp [this]), findR_at p l (i + 1) j (by simpa using h) (fun x hx => hn x (by simp [hx])) (by simpa using hp)]
    simp; omega
set_option maxRecDepth 100000 in
theorem indexRFn (p : R → Bool) (fid : FuncId) (hp : ∀ r, PureFn Try.prog fid [encR r] (.ret (.bool (p r)))) (rs : List R) (hs : rs.length < 2 ^ 40) :
    PureFn Try.prog 37 [.slice 4 (rs.map encR), .func (.func fid) [] []] (.ret (.int .i64 (findR p rs 0))) := by
  refine PureFn.start (rs := [.tmp 4]) Try.func37 rfl rfl rfl (Nat.le_of_ble_eq_true rfl) (by decide) allLit ?_
  simp -dsimp -implicitDefEqProofs +contextual (disch := omega) only [go_sem, ↓reduceIte, Nat.reduceEqDiff, Nat.reduceAdd, List.length_map, List.length_append, Int.toNat_natCast, Int.ofNat_lt, Int.natCast_nonneg, Nat.le_refl, Nat.zero_add, Nat.reduceLeDiff, Nat.reduceMul, Nat.reduceLT, Nat.reduceSub, true_or, or_true, Nat.add_zero, Int.reduceLT, Int.reduceLE, Int.reduceNeg]
  refine loop_intro (ι := Nat) (fun i => ⟨[(0, .slice 4 (rs.map encR)), (1, .func (.func fid) [] []), (7, .int .i64 rs.length), (8, .int .i64 i)], []⟩) (fun i => i ≤ rs.length ∧ ∀ r ∈ rs.take i, p r = false) (fun i => rs.length - i) 0 ⟨Nat.zero_le _, by simp⟩ (Sub.env ?_) ?_
  · simp -dsimp -implicitDefEqProofs +contextual (disch := omega) only [go_sem, ↓reduceIte, Nat.reduceEqDiff, Nat.reduceAdd, List.length_map, List.length_append, Int.toNat_natCast, Int.ofNat_lt, Int.natCast_nonneg, Nat.le_refl, Nat.zero_add, Nat.reduceLeDiff, Nat.reduceMul, Nat.reduceLT, Nat.reduceSub, true_or, or_true, Nat.add_zero, Int.reduceLT, Int.reduceLE, Int.reduceNeg]
    simp
  · rintro i ⟨hi, hj⟩
    simp -dsimp -implicitDefEqProofs +contextual (disch := omega) only [go_sem, ↓reduceIte, Nat.reduceEqDiff, Nat.reduceAdd, List.length_map, List.length_append, Int.toNat_natCast, Int.ofNat_lt, Int.natCast_nonneg, Nat.le_refl, Nat.zero_add, Nat.reduceLeDiff, Nat.reduceMul, Nat.reduceLT, Nat.reduceSub, true_or, or_true, Nat.add_zero, Int.reduceLT, Int.reduceLE, Int.reduceNeg]
    refine ⟨fun hlt => ?_, fun hge => ?_⟩
    · refine use_call (hp _) (by simp [pureAll, pure_R]) ?_
      simp -dsimp -implicitDefEqProofs +contextual (disch := omega) only [go_sem, ↓reduceIte, Nat.reduceEqDiff, Nat.reduceAdd, List.length_map, List.length_append, Int.toNat_natCast, Int.ofNat_lt, Int.natCast_nonneg, Nat.le_refl, Nat.zero_add, Nat.reduceLeDiff, Nat.reduceMul, Nat.reduceLT, Nat.reduceSub, true_or, or_true, Nat.add_zero, Int.reduceLT, Int.reduceLE, Int.reduceNeg]
      refine ⟨fun hc => ?_, fun hc => ?_⟩
      · rw [findR_at p rs 0 i hlt hj hc]; simp
      · refine loop_next (i + 1) ⟨by omega, fun r hr => ?_⟩ (by omega) (Sub.env ?_)
        · rw [List.take_succ_eq_append_getElem hlt] at hr
          rcases List.mem_append.1 hr with h1 | h1
          · exact hj r h1
          · simp at h1; subst h1; exact hc
        · simp -dsimp -implicitDefEqProofs +contextual (disch := omega) only [go_sem, ↓reduceIte, Nat.reduceEqDiff, Nat.reduceAdd, List.length_map, List.length_append, Int.toNat_natCast, Int.ofNat_lt, Int.natCast_nonneg, Nat.le_refl, Nat.zero_add, Nat.reduceLeDiff, Nat.reduceMul, Nat.reduceLT, Nat.reduceSub, true_or, or_true, Nat.add_zero, Int.reduceLT, Int.reduceLE, Int.reduceNeg]
          simp
    · have e : i = rs.length := by omega
      subst e
      rw [List.take_length] at hj
      rw [findR_none p rs 0 hj]
theorem findR_ge (p : R → Bool) : ∀ (l : List R) (i : Int), 0 ≤ i → decide (0 ≤ findR p l i) = l.any p
  | [], i, _ => by simp [findR]
  | r :: l, i, h => by
    rw [findR]
    split
    · rename_i hp; simp [hp, h]
    · rename_i hp; simp [hp, findR_ge p l (i + 1) (by omega)]
set_option maxRecDepth 100000 in
theorem containsRFn (p : R → Bool) (fid : FuncId) (hp : ∀ r, PureFn Try.prog fid [encR r] (.ret (.bool (p r)))) (rs : List R) (hs : rs.length < 2 ^ 40) :
    PureFn Try.prog 33 [.slice 4 (rs.map encR), .func (.func fid) [] []] (.ret (.bool (rs.any p))) := by
  refine PureFn.start (rs := [.tmp 4]) Try.func33 rfl rfl rfl (Nat.le_of_ble_eq_true rfl) (by decide) allLit ?_
  simp -dsimp -implicitDefEqProofs +contextual (disch := omega) only [go_sem, ↓reduceIte, Nat.reduceEqDiff, Nat.reduceAdd, List.length_map, List.length_append, Int.toNat_natCast, Int.ofNat_lt, Int.natCast_nonneg, Nat.le_refl, Nat.zero_add, Nat.reduceLeDiff, Nat.reduceMul, Nat.reduceLT, Nat.reduceSub, true_or, or_true, Nat.add_zero, Int.reduceLT, Int.reduceLE, Int.reduceNeg]
  refine use_call (indexRFn p fid hp rs hs) (by simp [pureAll, AV.pureB]) ?_
  simp -dsimp -implicitDefEqProofs +contextual (disch := omega) only [go_sem, ↓reduceIte, Nat.reduceEqDiff, Nat.reduceAdd, List.length_map, List.length_append, Int.toNat_natCast, Int.ofNat_lt, Int.natCast_nonneg, Nat.le_refl, Nat.zero_add, Nat.reduceLeDiff, Nat.reduceMul, Nat.reduceLT, Nat.reduceSub, true_or, or_true, Nat.add_zero, Int.reduceLT, Int.reduceLE, Int.reduceNeg]
  simpa using findR_ge p rs 0 (by omega)
set_option maxRecDepth 100000 in
theorem rectsMayFn (rs : List R) (hs : rs.length < 2 ^ 40) : PureFn Try.prog 29 [.slice 4 (rs.map encR)] (.ret (.bool (!rs.any fun r => !rectMay r))) := by
  refine PureFn.start (rs := [.tmp 2]) Try.func29 rfl rfl rfl (Nat.le_of_ble_eq_true rfl) (by decide) allLit ?_
  simp -dsimp -implicitDefEqProofs +contextual (disch := omega) only [go_sem, ↓reduceIte, Nat.reduceEqDiff, Nat.reduceAdd, List.length_map, List.length_append, Int.toNat_natCast, Int.ofNat_lt, Int.natCast_nonneg, Nat.le_refl, Nat.zero_add, Nat.reduceLeDiff, Nat.reduceMul, Nat.reduceLT, Nat.reduceSub, true_or, or_true, Nat.add_zero, Int.reduceLT, Int.reduceLE, Int.reduceNeg]
  refine use_call (containsRFn (fun r => !rectMay r) 34 rectMay1Fn rs hs) (by simp [pureAll, AV.pureB]) ?_
  simp -dsimp -implicitDefEqProofs +contextual (disch := omega) only [go_sem, ↓reduceIte, Nat.reduceEqDiff, Nat.reduceAdd, List.length_map, List.length_append, Int.toNat_natCast, Int.ofNat_lt, Int.natCast_nonneg, Nat.le_refl, Nat.zero_add, Nat.reduceLeDiff, Nat.reduceMul, Nat.reduceLT, Nat.reduceSub, true_or, or_true, Nat.add_zero, Int.reduceLT, Int.reduceLE, Int.reduceNeg]
end Go.Sim

set_option linter.unusedVariables false
set_option linter.unusedSimpArgs false
namespace Go.Sim
open Go.Proofs
/-! what a cell must be -/
def nodeB (t : T) : Bool :=
  if t.kind = 1 then decide (t.kids.length = 0 ∧ 0 ≤ t.id ∧ t.id ≤ 2147483647)
  else if t.kind = 2 ∨ t.kind = 3 then decide (2 ≤ t.kids.length ∧ t.id = 0) else false
set_option maxRecDepth 100000 in
theorem nodeFn (t : T) (hs : sizeT t < 2 ^ 40) : PureFn Try.prog 28 [encT t] (.ret (.bool (nodeB t))) := by
  refine PureFn.start (rs := [.tmp 2]) Try.func28 rfl rfl rfl (Nat.le_of_ble_eq_true rfl) (by decide) allLit ?_
  have hlen := length_sizeL t.kids
  have hst := sizeT_eq t
  simp -dsimp -implicitDefEqProofs +contextual (disch := omega) only [go_sem, ↓reduceIte, Nat.reduceEqDiff, Nat.reduceAdd, List.length_map, List.length_append, Int.toNat_natCast, Int.ofNat_lt, Int.natCast_nonneg, Nat.le_refl, Nat.zero_add, Nat.reduceLeDiff, Nat.reduceMul, Nat.reduceLT, Nat.reduceSub, true_or, or_true, Nat.add_zero, Int.reduceLT, Int.reduceLE, Int.reduceNeg]
  have e0 : ((t.kids.length : Int) == 0) = decide (t.kids.length = 0) := by
    by_cases h : t.kids.length = 0 <;> simp [h]
  have e1 : ∀ a b : Int, (a == b) = decide (a = b) := fun a b => by by_cases h : a = b <;> simp [h]
  simp only [e0]
  simp only [e1, nodeB, decide_eq_true_eq, decide_eq_false_iff_not]
  refine ⟨fun h1 => ?_, fun h1 => ⟨fun h2 => ?_, fun h2 => ⟨fun h3 => ?_, fun h3 => ?_⟩⟩⟩
  · rw [if_pos h1]
    refine ⟨fun a => ⟨fun b => ?_, fun b => ?_⟩, fun a => ?_⟩
    · simp [a, b]
    · simp [b]
    · simp [a]
  · rw [if_neg h1, if_pos (.inl h2)]
    refine ⟨fun a => ?_, fun a => ?_⟩
    · have : 2 ≤ t.kids.length := by omega
      simp [this]
    · have : ¬ 2 ≤ t.kids.length := by omega
      simp [this]
  · rw [if_neg h1, if_pos (.inr h3)]
    refine ⟨fun a => ?_, fun a => ?_⟩
    · have : 2 ≤ t.kids.length := by omega
      simp [this]
    · have : ¬ 2 ≤ t.kids.length := by omega
      simp [this]
  · rw [if_neg h1, if_neg (by omega)]
end Go.Sim

set_option linter.unusedVariables false
set_option linter.unusedSimpArgs false
namespace Go.Sim
open Go.Proofs
/-! trees that may be: a walk with a counter and the numbers seen -/
abbrev S := Int × List Int
def encS (s : S) : Heap := [some (.box [.int .i64 s.1]), some (.box [.map 2]), some (.map (s.2.map encI) (s.2.map fun _ => .bool true))]
def T.rect : T → R
  | .node _ x y w h _ _ => ⟨x, y, w, h⟩
@[go_sem] theorem lenR_T (t : T) : (List.drop 1 (cellsT t)).length = 6 := by cases t; rfl
@[go_sem] theorem takeR_T (t : T) : List.take 4 (List.drop 1 (cellsT t)) = cellsR t.rect := by cases t; rfl
theorem find_seen (x : Int) : ∀ (l : List Int) (i : Nat), aFind (.int .i64 x) (l.map encI) (l.map fun _ => AV.bool true) i = if x ∈ l then some (some (i + l.idxOf x, .bool true)) else some none
  | [], i => by simp [aFind]
  | y :: l, i => by
    simp only [List.map_cons, aFind, encI, aSame, if_true]
    by_cases h : x = y
    · subst h; simp
    · have := find_seen x l (i + 1)
      unfold encI at this
      simp only [h, decide_false]
      rw [show (List.map encI l) = List.map (fun n => AV.int .i64 n) l from rfl, this]
      by_cases h2 : x ∈ l
      · have hne : ¬ y = x := fun e => h e.symm
        have hne2 : (y == x) = false := by simp [hne]
        simp [h, h2, List.idxOf_cons, hne2]; omega
      · simp [h, h2]
def visit (s : S) (t : T) : Bool × S :=
  if s.1 + 1 > 20000 ∨ nodeB t = false ∨ rectMay t.rect = false ∨ (t.kind = 1 ∧ t.id ∈ s.2) then (false, (s.1 + 1, s.2))
  else (true, (s.1 + 1, if t.kind = 1 then s.2 ++ [t.id] else s.2))
theorem ltAll_map {α : Type} {f : α → AV} {k : Nat} (h : ∀ a, (f a).lt k = true) : ∀ l : List α, AV.ltAll k (l.map f) = true
  | [] => rfl
  | a :: l => by simp [AV.ltAll, h a, ltAll_map h l]
theorem ltAll_I (k : Nat) (l : List Int) : AV.ltAll k (l.map encI) = true := ltAll_map (fun _ => rfl) l
theorem ltAll_c (k : Nat) (b : Bool) (l : List Int) : AV.ltAll k (l.map fun _ => AV.bool b) = true := ltAll_map (fun _ => rfl) l
theorem ltAll_append {k : Nat} : ∀ {a b : List AV}, AV.ltAll k (a ++ b) = (AV.ltAll k a && AV.ltAll k b)
  | [], b => by simp [AV.ltAll]
  | x :: a, b => by simp [AV.ltAll, ltAll_append (a := a), Bool.and_assoc]
theorem rectMay29 (r : R) : PureFn Try.prog 29 [.slice 4 [encR r]] (.ret (.bool (rectMay r))) := by
  have := rectsMayFn [r] (by simp)
  simpa using this
set_option maxRecDepth 100000 in
theorem visitFn (s : S) (t : T) (hn : 0 ≤ s.1 ∧ s.1 < 2 ^ 40) (hs : sizeT t < 2 ^ 40) : ACalls Try.prog 27 [encT t, .ptr 0 0, .ptr 1 0] (encS s) fun r H' => r = .ret (.bool (visit s t).1) ∧ H' = encS (visit s t).2 := by
  refine ACalls.start (rs := [.tmp 4]) Try.func27 rfl rfl rfl (Nat.le_of_ble_eq_true rfl) (by decide) allLit ?_
  obtain ⟨n, seen⟩ := s
  simp only at hn
  simp only [encS]
  simp -dsimp -implicitDefEqProofs +contextual (disch := omega) only [go_sem, ↓reduceIte, Nat.reduceEqDiff, Nat.reduceAdd, List.length_map, List.length_append, Int.toNat_natCast, Int.ofNat_lt, Int.natCast_nonneg, Nat.le_refl, Nat.zero_add, Nat.reduceLeDiff, Nat.reduceMul, Nat.reduceLT, Nat.reduceSub, true_or, or_true, Nat.add_zero, Int.reduceLT, Int.reduceLE, Int.reduceNeg]
  have hA : 3 ≤ 4 := by omega
  refine ⟨fun h1 => ?_, fun h1 => ?_⟩
  · refine use_call (nodeFn t hs) (by simp [pureAll, pure_T]) ?_
    cases h2 : nodeB t with
    | false =>
      simp -dsimp -implicitDefEqProofs +contextual (disch := omega) only [go_sem, ↓reduceIte, Nat.reduceEqDiff, Nat.reduceAdd, List.length_map, List.length_append, Int.toNat_natCast, Int.ofNat_lt, Int.natCast_nonneg, Nat.le_refl, Nat.zero_add, Nat.reduceLeDiff, Nat.reduceMul, Nat.reduceLT, Nat.reduceSub, true_or, or_true, Nat.add_zero, Int.reduceLT, Int.reduceLE, Int.reduceNeg, h1]
      refine end_trunc (by simp) rfl (by simp [objLt, AV.ltAll, AV.lt, ltAll_I, ltAll_c, ltAll_append]) ⟨?_, ?_⟩ <;> simp [visit, h2, encS]
    | true =>
      simp -dsimp -implicitDefEqProofs +contextual (disch := omega) only [go_sem, ↓reduceIte, Nat.reduceEqDiff, Nat.reduceAdd, List.length_map, List.length_append, Int.toNat_natCast, Int.ofNat_lt, Int.natCast_nonneg, Nat.le_refl, Nat.zero_add, Nat.reduceLeDiff, Nat.reduceMul, Nat.reduceLT, Nat.reduceSub, true_or, or_true, Nat.add_zero, Int.reduceLT, Int.reduceLE, Int.reduceNeg, h1]
      refine use_call (rectMay29 t.rect) (by simp [pureAll, AV.pureB, pure_R]) ?_
      cases h3 : rectMay t.rect with
      | false =>
        simp -dsimp -implicitDefEqProofs +contextual (disch := omega) only [go_sem, ↓reduceIte, Nat.reduceEqDiff, Nat.reduceAdd, List.length_map, List.length_append, Int.toNat_natCast, Int.ofNat_lt, Int.natCast_nonneg, Nat.le_refl, Nat.zero_add, Nat.reduceLeDiff, Nat.reduceMul, Nat.reduceLT, Nat.reduceSub, true_or, or_true, Nat.add_zero, Int.reduceLT, Int.reduceLE, Int.reduceNeg, h1]
        refine end_trunc (by simp) rfl (by simp [objLt, AV.ltAll, AV.lt, ltAll_I, ltAll_c, ltAll_append]) ⟨?_, ?_⟩ <;> simp [visit, h3, encS]
      | true =>
        by_cases h5 : t.id ∈ seen
        · have hf : aFind (.int .i64 t.id) (seen.map encI) (seen.map fun _ => AV.bool true) 0 = some (some (0 + seen.idxOf t.id, .bool true)) := by rw [find_seen, if_pos h5]
          simp -dsimp -implicitDefEqProofs +contextual (disch := omega) only [go_sem, ↓reduceIte, Nat.reduceEqDiff, Nat.reduceAdd, List.length_map, List.length_append, Int.toNat_natCast, Int.ofNat_lt, Int.natCast_nonneg, Nat.le_refl, Nat.zero_add, Nat.reduceLeDiff, Nat.reduceMul, Nat.reduceLT, Nat.reduceSub, true_or, or_true, Nat.add_zero, Int.reduceLT, Int.reduceLE, Int.reduceNeg, hf, h1]
          refine ⟨fun h4 => ?_, fun h4 => ?_⟩
          · have h4' : t.kind = 1 := by simpa using h4
            refine end_trunc (by simp) rfl (by simp [objLt, AV.ltAll, AV.lt, ltAll_I, ltAll_c, ltAll_append]) ⟨?_, ?_⟩ <;> simp [visit, h4', h5, encS]
          · have h4' : ¬ t.kind = 1 := by simpa using h4
            refine end_trunc (by simp) rfl (by simp [objLt, AV.ltAll, AV.lt, ltAll_I, ltAll_c, ltAll_append]) ⟨?_, ?_⟩ <;> simp [visit, h1, h2, h3, h4', encS]
        · have hf : aFind (.int .i64 t.id) (seen.map encI) (seen.map fun _ => AV.bool true) 0 = some none := by rw [find_seen, if_neg h5]
          simp -dsimp -implicitDefEqProofs +contextual (disch := omega) only [go_sem, ↓reduceIte, Nat.reduceEqDiff, Nat.reduceAdd, List.length_map, List.length_append, Int.toNat_natCast, Int.ofNat_lt, Int.natCast_nonneg, Nat.le_refl, Nat.zero_add, Nat.reduceLeDiff, Nat.reduceMul, Nat.reduceLT, Nat.reduceSub, true_or, or_true, Nat.add_zero, Int.reduceLT, Int.reduceLE, Int.reduceNeg, hf, h1]
          refine ⟨fun h4 => ?_, fun h4 => ?_⟩
          · have h4' : t.kind = 1 := by simpa using h4
            refine end_trunc (by simp) rfl (by simp [objLt, AV.ltAll, AV.lt, ltAll_I, ltAll_c, ltAll_append]) ⟨?_, ?_⟩ <;> simp [visit, h1, h2, h3, h4', h5, encS, encI]
          · have h4' : ¬ t.kind = 1 := by simpa using h4
            refine end_trunc (by simp) rfl (by simp [objLt, AV.ltAll, AV.lt, ltAll_I, ltAll_c, ltAll_append]) ⟨?_, ?_⟩ <;> simp [visit, h1, h2, h3, h4', encS]
  · refine end_trunc (by simp) rfl (by simp [objLt, AV.ltAll, AV.lt, ltAll_I, ltAll_c, ltAll_append]) ⟨?_, ?_⟩ <;> simp [visit, h1, encS]
end Go.Sim

set_option linter.unusedVariables false
set_option linter.unusedSimpArgs false
namespace Go.Sim
open Go.Proofs
mutual
def allB (s : S) : T → Bool × S
  | .node k x y w h i ks => match visit s (.node k x y w h i ks) with
    | (true, s') => listB s' ks
    | (false, s') => (false, s')
def listB (s : S) : List T → Bool × S
  | [] => (true, s)
  | t :: ts => match allB s t with
    | (true, s') => listB s' ts
    | (false, s') => (false, s')
end
theorem allB_eq (s : S) (t : T) : allB s t = if (visit s t).1 = true then listB (visit s t).2 t.kids else (false, (visit s t).2) := by
  cases t
  rw [allB]
  split <;> rename_i h <;> simp [h, T.kids]
theorem visit_bound (s : S) (t : T) (h : 0 ≤ s.1) : s.1 ≤ (visit s t).2.1 ∧ (visit s t).2.1 ≤ s.1 + 1 := by
  unfold visit
  split <;> simp <;> omega
mutual
theorem allB_bound : ∀ (t : T) (s : S), 0 ≤ s.1 → s.1 ≤ (allB s t).2.1 ∧ (allB s t).2.1 ≤ s.1 + sizeT t
  | .node k x y w h i ks, s, hs => by
    have hv := visit_bound s (.node k x y w h i ks) hs
    rw [allB_eq]
    simp only [sizeT]
    split
    · have := listB_bound ks (visit s (.node k x y w h i ks)).2 (by omega)
      simp only [T.kids]; omega
    · simp only []; omega
theorem listB_bound : ∀ (l : List T) (s : S), 0 ≤ s.1 → s.1 ≤ (listB s l).2.1 ∧ (listB s l).2.1 ≤ s.1 + sizeL l
  | [], s, hs => by simp [listB, sizeL]
  | t :: ts, s, hs => by
    have h1 := allB_bound t s hs
    simp only [listB, sizeL]
    split
    · rename_i s' h
      rw [h] at h1
      have := listB_bound ts s' (by simp only at h1; omega)
      simp only at h1
      omega
    · rename_i s' h
      rw [h] at h1
      simp only at h1 ⊢
      omega
end
def fun27 : AV := .func (.func 27) [] [.ptr 0 0, .ptr 1 0]
def encS2 (s : S) : Heap := encS s ++ [some (.box [fun27])]
def fun32 : AV := .func (.func 32) [] [.ptr 3 0]
/-- the contract of cell.all with this walk -/
def AllC (s : S) (t : T) : Prop := ACalls Try.prog 26 [encT t, fun27] (encS s) fun r H' => r = .ret (.bool (allB s t).1) ∧ H' = encS (allB s t).2
mutual
theorem ren_pure (ρ : Nat → Nat) : ∀ v : AV, v.pureB = true → v.ren ρ = v
  | .any, _ | .bool _, _ | .int _ _, _ | .str _, _ | .nilp, _ | .cptr _ _, _ | .nilslice, _ | .zcap, _ | .slice _ _, _ | .nilmap, _ | .cmap _ _, _ | .nilfunc, _ | .niliface, _ => rfl
  | .ptr _ _, h | .mslice _ _ _ _, h | .meptr _ _ _ _ _, h | .map _, h => by cases h
  | .func fn f c, h => by
    simp only [AV.pureB, Bool.and_eq_true] at h
    simp only [AV.ren, renAll_pure ρ f h.1, renAll_pure ρ c h.2]
  | .iface t v, h => by
    simp only [AV.ren, ren_pure ρ v h]
  | .agg cs, h => by simp only [AV.ren, renAll_pure ρ cs h]
  | .tuple cs, h => by simp only [AV.ren, renAll_pure ρ cs h]
theorem renAll_pure (ρ : Nat → Nat) : ∀ vs : List AV, pureAll vs = true → renAll ρ vs = vs
  | [], _ => rfl
  | v :: vs, h => by
    simp only [pureAll, Bool.and_eq_true] at h
    simp only [renAll, ren_pure ρ v h.1, renAll_pure ρ vs h.2]
end
theorem ren_T (ρ : Nat → Nat) (t : T) : (encT t).ren ρ = encT t := ren_pure ρ _ (pure_T t)
theorem ren_cells (ρ : Nat → Nat) (t : T) : renAll ρ (cellsT t) = cellsT t := renAll_pure ρ _ (by have := pure_T t; rw [encT_cells] at this; exact this)
theorem ren_I (ρ : Nat → Nat) (l : List Int) : renAll ρ (l.map encI) = l.map encI := renAll_pure ρ _ (pureAll_map (fun _ => rfl) l)
theorem ren_c (ρ : Nat → Nat) (b : Bool) (l : List Int) : renAll ρ (l.map fun _ => AV.bool b) = l.map fun _ => AV.bool b := renAll_pure ρ _ (pureAll_map (fun _ => rfl) l)
set_option maxRecDepth 100000 in
theorem all1Fn (s : S) (t : T) (ih : AllC s t) : ACalls Try.prog 32 [encT t, .ptr 3 0] (encS2 s) fun r H' => r = .ret (.bool (!(allB s t).1)) ∧ H' = encS2 (allB s t).2 := by
  refine ACalls.start (rs := [.tmp 3]) Try.func32 rfl rfl rfl (Nat.le_of_ble_eq_true rfl) (by decide) allLit ?_
  simp only [encS2, encS, fun27]
  simp -dsimp -implicitDefEqProofs +contextual (disch := omega) only [go_sem, ↓reduceIte, Nat.reduceEqDiff, Nat.reduceAdd, List.length_map, List.length_append, Int.toNat_natCast, Int.ofNat_lt, Int.natCast_nonneg, Nat.le_refl, Nat.zero_add, Nat.reduceLeDiff, Nat.reduceMul, Nat.reduceLT, Nat.reduceSub, true_or, or_true, Nat.add_zero, Int.reduceLT, Int.reduceLE, Int.reduceNeg]
  refine use_frame [0, 1, 2] ih (by decide) rfl (by simp) (by simp [renAll, AV.ren, AObj.ren, mapL, frOk, objLt, merge, setS, AV.ltAll, AV.lt, AEnd.ren, Heap.get, encS, fun27, lt_T]) (by simp [renAll, AV.ren, AObj.ren, mapL, frOk, objLt, merge, setS, AV.ltAll, AV.lt, AEnd.ren, Heap.get, fun27, ren_T]) (by simp [renAll, AV.ren, AObj.ren, mapL, frOk, objLt, merge, setS, AV.ltAll, AV.lt, AEnd.ren, Heap.get, encS, ren_I, ren_c, ltAll_I, ltAll_c]) (r2 := .ret (.bool (allB s t).1)) rfl (H2 := encS (allB s t).2 ++ [some (.box [fun27]), some (.box (cellsT t))]) (by simp [renAll, AV.ren, AObj.ren, mapL, frOk, objLt, merge, setS, AV.ltAll, AV.lt, AEnd.ren, Heap.get, encS, fun27, ren_I, ren_c]) ?_
  simp -dsimp -implicitDefEqProofs +contextual (disch := omega) only [go_sem, ↓reduceIte, Nat.reduceEqDiff, Nat.reduceAdd, List.length_map, List.length_append, Int.toNat_natCast, Int.ofNat_lt, Int.natCast_nonneg, Nat.le_refl, Nat.zero_add, Nat.reduceLeDiff, Nat.reduceMul, Nat.reduceLT, Nat.reduceSub, true_or, or_true, Nat.add_zero, Int.reduceLT, Int.reduceLE, Int.reduceNeg]
  refine end_trunc (by simp [encS]) rfl (by simp [renAll, AV.ren, AObj.ren, mapL, frOk, objLt, merge, setS, AV.ltAll, AV.lt, AEnd.ren, Heap.get, encS, fun27, ltAll_I, ltAll_c]) ⟨rfl, ?_⟩
  simp [encS, fun27]

/-- the index of the first kid that may not be, and the state behind -/
def idxB : S → Int → List T → Int × S
  | s, _, [] => (-1, s)
  | s, i, t :: ts => match allB s t with
    | (true, s') => idxB s' (i + 1) ts
    | (false, s') => (i, s')
theorem idxB_list : ∀ (l : List T) (s : S) (i : Int), 0 ≤ i → (idxB s i l).2 = (listB s l).2 ∧ (0 ≤ (idxB s i l).1 ↔ (listB s l).1 = false)
  | [], s, i, h => by simp [idxB, listB]
  | t :: ts, s, i, h => by
    simp only [idxB, listB]
    rcases he : allB s t with ⟨_ | _, s'⟩
    · simp [h]
    · exact idxB_list ts s' (i + 1) (by omega)
set_option maxRecDepth 100000 in
theorem indexFn (ks : List T) (s : S) (h0 : 0 ≤ s.1) (hs : s.1 + sizeL ks < 2 ^ 40) (ih : ∀ t ∈ ks, ∀ s' : S, 0 ≤ s'.1 → s'.1 + sizeT t < 2 ^ 40 → AllC s' t) :
    ACalls Try.prog 31 [.slice 7 (ks.map encT), fun32] (encS2 s) fun r H' => r = .ret (.int .i64 (idxB s 0 ks).1) ∧ H' = encS2 (idxB s 0 ks).2 := by
  refine ACalls.start (rs := [.tmp 4]) Try.func31 rfl rfl rfl (Nat.le_of_ble_eq_true rfl) (by decide) allLit ?_
  have hlen := length_sizeL ks
  simp only [fun32]
  simp -dsimp -implicitDefEqProofs +contextual (disch := omega) only [go_sem, ↓reduceIte, Nat.reduceEqDiff, Nat.reduceAdd, List.length_map, List.length_append, Int.toNat_natCast, Int.ofNat_lt, Int.natCast_nonneg, Nat.le_refl, Nat.zero_add, Nat.reduceLeDiff, Nat.reduceMul, Nat.reduceLT, Nat.reduceSub, true_or, or_true, Nat.add_zero, Int.reduceLT, Int.reduceLE, Int.reduceNeg]
  refine loop_intro (ι := Nat × S) (fun p => ⟨[(0, .slice 7 (ks.map encT)), (1, .func (.func 32) [] [.ptr 3 0]), (7, .int .i64 ks.length), (8, .int .i64 p.1)], encS2 p.2⟩) (fun p => p.1 ≤ ks.length ∧ 0 ≤ p.2.1 ∧ p.2.1 + sizeL (ks.drop p.1) ≤ s.1 + sizeL ks ∧ idxB s 0 ks = idxB p.2 p.1 (ks.drop p.1)) (fun p => ks.length - p.1) (0, s) ⟨Nat.zero_le _, h0, by simp, by simp⟩ (Sub.env ?_) ?_
  · simp -dsimp -implicitDefEqProofs +contextual (disch := omega) only [go_sem, ↓reduceIte, Nat.reduceEqDiff, Nat.reduceAdd, List.length_map, List.length_append, Int.toNat_natCast, Int.ofNat_lt, Int.natCast_nonneg, Nat.le_refl, Nat.zero_add, Nat.reduceLeDiff, Nat.reduceMul, Nat.reduceLT, Nat.reduceSub, true_or, or_true, Nat.add_zero, Int.reduceLT, Int.reduceLE, Int.reduceNeg]
    simp
  · rintro ⟨i, s'⟩ ⟨hi, hs', hsz, hj⟩
    simp only at hi hs' hj hsz
    simp -dsimp -implicitDefEqProofs +contextual (disch := omega) only [go_sem, ↓reduceIte, Nat.reduceEqDiff, Nat.reduceAdd, List.length_map, List.length_append, Int.toNat_natCast, Int.ofNat_lt, Int.natCast_nonneg, Nat.le_refl, Nat.zero_add, Nat.reduceLeDiff, Nat.reduceMul, Nat.reduceLT, Nat.reduceSub, true_or, or_true, Nat.add_zero, Int.reduceLT, Int.reduceLE, Int.reduceNeg]
    refine ⟨fun hlt => ?_, fun hge => ?_⟩
    · have hb := allB_bound ks[i] s' hs'
      have hd : ks.drop i = ks[i] :: ks.drop (i + 1) := List.drop_eq_getElem_cons hlt
      rw [hd] at hj hsz
      simp only [idxB, sizeL] at hj hsz
      refine use_acalls (all1Fn s' ks[i] (ih _ (List.getElem_mem _) s' hs' (by omega))) ?_
      rintro r H' ⟨rfl, rfl⟩
      simp -dsimp -implicitDefEqProofs +contextual (disch := omega) only [go_sem, ↓reduceIte, Nat.reduceEqDiff, Nat.reduceAdd, List.length_map, List.length_append, Int.toNat_natCast, Int.ofNat_lt, Int.natCast_nonneg, Nat.le_refl, Nat.zero_add, Nat.reduceLeDiff, Nat.reduceMul, Nat.reduceLT, Nat.reduceSub, true_or, or_true, Nat.add_zero, Int.reduceLT, Int.reduceLE, Int.reduceNeg]
      refine ⟨fun hc => ?_, fun hc => ?_⟩
      · have hc' : (allB s' ks[i]).1 = false := by simpa using hc
        have he : allB s' ks[i] = (false, (allB s' ks[i]).2) := by rw [← hc']
        rw [he] at hj
        refine end_same ⟨?_, ?_⟩
        · rw [hj]
        · rw [hj]
      · have hc' : (allB s' ks[i]).1 = true := by simpa using hc
        have he : allB s' ks[i] = (true, (allB s' ks[i]).2) := by rw [← hc']
        rw [he] at hj
        refine loop_next (i + 1, (allB s' ks[i]).2) ⟨by simp only; omega, by simp only; omega, by simp only; omega, ?_⟩ (by simp only; omega) (Sub.env' rfl ?_)
        · simp only; rw [hj]; simp
        · simp -dsimp -implicitDefEqProofs +contextual (disch := omega) only [go_sem, ↓reduceIte, Nat.reduceEqDiff, Nat.reduceAdd, List.length_map, List.length_append, Int.toNat_natCast, Int.ofNat_lt, Int.natCast_nonneg, Nat.le_refl, Nat.zero_add, Nat.reduceLeDiff, Nat.reduceMul, Nat.reduceLT, Nat.reduceSub, true_or, or_true, Nat.add_zero, Int.reduceLT, Int.reduceLE, Int.reduceNeg]
          simp
    · have e : i = ks.length := by omega
      subst e
      rw [List.drop_length] at hj
      refine end_same ⟨?_, ?_⟩
      · rw [hj]; rfl
      · rw [hj]; rfl
set_option maxRecDepth 100000 in
theorem containsFn (ks : List T) (s : S) (h0 : 0 ≤ s.1) (hs : s.1 + sizeL ks < 2 ^ 40) (ih : ∀ t ∈ ks, ∀ s' : S, 0 ≤ s'.1 → s'.1 + sizeT t < 2 ^ 40 → AllC s' t) :
    ACalls Try.prog 25 [.slice 7 (ks.map encT), fun32] (encS2 s) fun r H' => r = .ret (.bool (!(listB s ks).1)) ∧ H' = encS2 (listB s ks).2 := by
  refine ACalls.start (rs := [.tmp 4]) Try.func25 rfl rfl rfl (Nat.le_of_ble_eq_true rfl) (by decide) allLit ?_
  simp -dsimp -implicitDefEqProofs +contextual (disch := omega) only [go_sem, ↓reduceIte, Nat.reduceEqDiff, Nat.reduceAdd, List.length_map, List.length_append, Int.toNat_natCast, Int.ofNat_lt, Int.natCast_nonneg, Nat.le_refl, Nat.zero_add, Nat.reduceLeDiff, Nat.reduceMul, Nat.reduceLT, Nat.reduceSub, true_or, or_true, Nat.add_zero, Int.reduceLT, Int.reduceLE, Int.reduceNeg]
  refine use_acalls (indexFn ks s h0 hs ih) ?_
  rintro r H' ⟨rfl, rfl⟩
  have hb := idxB_list ks s 0 (by omega)
  simp -dsimp -implicitDefEqProofs +contextual (disch := omega) only [go_sem, ↓reduceIte, Nat.reduceEqDiff, Nat.reduceAdd, List.length_map, List.length_append, Int.toNat_natCast, Int.ofNat_lt, Int.natCast_nonneg, Nat.le_refl, Nat.zero_add, Nat.reduceLeDiff, Nat.reduceMul, Nat.reduceLT, Nat.reduceSub, true_or, or_true, Nat.add_zero, Int.reduceLT, Int.reduceLE, Int.reduceNeg]
  refine end_same ⟨?_, ?_⟩
  · cases hq : (listB s ks).1 <;> simp [hb.2, hq]
  · rw [hb.1]
set_option maxRecDepth 100000 in
theorem noneFn (ks : List T) (s : S) (h0 : 0 ≤ s.1) (hs : s.1 + sizeL ks < 2 ^ 40) (ih : ∀ t ∈ ks, ∀ s' : S, 0 ≤ s'.1 → s'.1 + sizeT t < 2 ^ 40 → AllC s' t) :
    ACalls Try.prog 20 [.slice 7 (ks.map encT), fun32] (encS2 s) fun r H' => r = .ret (.bool (listB s ks).1) ∧ H' = encS2 (listB s ks).2 := by
  refine ACalls.start (rs := [.tmp 4]) Try.func20 rfl rfl rfl (Nat.le_of_ble_eq_true rfl) (by decide) allLit ?_
  simp -dsimp -implicitDefEqProofs +contextual (disch := omega) only [go_sem, ↓reduceIte, Nat.reduceEqDiff, Nat.reduceAdd, List.length_map, List.length_append, Int.toNat_natCast, Int.ofNat_lt, Int.natCast_nonneg, Nat.le_refl, Nat.zero_add, Nat.reduceLeDiff, Nat.reduceMul, Nat.reduceLT, Nat.reduceSub, true_or, or_true, Nat.add_zero, Int.reduceLT, Int.reduceLE, Int.reduceNeg]
  refine use_acalls (containsFn ks s h0 hs ih) ?_
  rintro r H' ⟨rfl, rfl⟩
  simp -dsimp -implicitDefEqProofs +contextual (disch := omega) only [go_sem, ↓reduceIte, Nat.reduceEqDiff, Nat.reduceAdd, List.length_map, List.length_append, Int.toNat_natCast, Int.ofNat_lt, Int.natCast_nonneg, Nat.le_refl, Nat.zero_add, Nat.reduceLeDiff, Nat.reduceMul, Nat.reduceLT, Nat.reduceSub, true_or, or_true, Nat.add_zero, Int.reduceLT, Int.reduceLE, Int.reduceNeg]
  refine end_same ⟨?_, rfl⟩
  simp
end Go.Sim

set_option linter.unusedVariables false
set_option linter.unusedSimpArgs false
namespace Go.Sim
open Go.Proofs
set_option maxRecDepth 100000 in
theorem allCStep (t : T) (s : S) (hs : 0 ≤ s.1) (hz : s.1 + sizeT t < 2 ^ 40) (ih : ∀ u ∈ t.kids, ∀ s' : S, 0 ≤ s'.1 → s'.1 + sizeT u < 2 ^ 40 → AllC s' u) : AllC s t := by
  have hv := visitFn s t ⟨hs, by omega⟩ (by omega)
  have hvb := visit_bound s t hs
  have hst := sizeT_eq t
  have hno := noneFn t.kids (visit s t).2 (by omega) (by omega) ih
  show ACalls _ _ _ _ _
  refine ACalls.start (rs := [.tmp 4]) Try.func26 rfl rfl rfl (Nat.le_of_ble_eq_true rfl) (by decide) allLit ?_
  simp only [encS, fun27]
  simp -dsimp -implicitDefEqProofs +contextual (disch := omega) only [go_sem, ↓reduceIte, Nat.reduceEqDiff, Nat.reduceAdd, List.length_map, List.length_append, Int.toNat_natCast, Int.ofNat_lt, Int.natCast_nonneg, Nat.le_refl, Nat.zero_add, Nat.reduceLeDiff, Nat.reduceMul, Nat.reduceLT, Nat.reduceSub, true_or, or_true, Nat.add_zero, Int.reduceLT, Int.reduceLE, Int.reduceNeg]
  refine use_frame [0, 1, 2] hv (by decide) rfl (by simp) (by simp [renAll, AV.ren, AObj.ren, mapL, frOk, objLt, merge, setS, AV.ltAll, AV.lt, AEnd.ren, Heap.get, encS, lt_T]) (by simp [renAll, AV.ren, AObj.ren, mapL, frOk, objLt, merge, setS, AV.ltAll, AV.lt, AEnd.ren, Heap.get, ren_T]) (by simp [renAll, AV.ren, AObj.ren, mapL, frOk, objLt, merge, setS, AV.ltAll, AV.lt, AEnd.ren, Heap.get, encS, ren_I, ren_c, ltAll_I, ltAll_c]) (r2 := .ret (.bool (visit s t).1)) rfl (H2 := encS (visit s t).2 ++ [some (.box (cellsT t)), some (.box [fun27])]) (by simp [renAll, AV.ren, AObj.ren, mapL, frOk, objLt, merge, setS, AV.ltAll, AV.lt, AEnd.ren, Heap.get, encS, fun27, ren_I, ren_c]) ?_
  simp only [encS, fun27]
  cases hb : (visit s t).1 with
  | false =>
    simp -dsimp -implicitDefEqProofs +contextual (disch := omega) only [go_sem, ↓reduceIte, Nat.reduceEqDiff, Nat.reduceAdd, List.length_map, List.length_append, Int.toNat_natCast, Int.ofNat_lt, Int.natCast_nonneg, Nat.le_refl, Nat.zero_add, Nat.reduceLeDiff, Nat.reduceMul, Nat.reduceLT, Nat.reduceSub, true_or, or_true, Nat.add_zero, Int.reduceLT, Int.reduceLE, Int.reduceNeg]
    refine end_trunc (by simp [encS]) rfl (by simp [renAll, AV.ren, AObj.ren, mapL, frOk, objLt, merge, setS, AV.ltAll, AV.lt, AEnd.ren, Heap.get, encS, fun27, ltAll_I, ltAll_c]) ⟨?_, ?_⟩
    · simp [allB_eq, hb]
    · simp [encS, fun27, allB_eq, hb]
  | true =>
    simp -dsimp -implicitDefEqProofs +contextual (disch := omega) only [go_sem, ↓reduceIte, Nat.reduceEqDiff, Nat.reduceAdd, List.length_map, List.length_append, Int.toNat_natCast, Int.ofNat_lt, Int.natCast_nonneg, Nat.le_refl, Nat.zero_add, Nat.reduceLeDiff, Nat.reduceMul, Nat.reduceLT, Nat.reduceSub, true_or, or_true, Nat.add_zero, Int.reduceLT, Int.reduceLE, Int.reduceNeg]
    refine use_frame [0, 1, 2, 4] hno (by decide) rfl (by simp) (by simp [renAll, AV.ren, AObj.ren, mapL, frOk, objLt, merge, setS, AV.ltAll, AV.lt, AEnd.ren, Heap.get, encS2, encS, lt_T, fun32]) (by simp [renAll, AV.ren, AObj.ren, mapL, frOk, objLt, merge, setS, AV.ltAll, AV.lt, AEnd.ren, Heap.get, fun32]) (by simp [renAll, AV.ren, AObj.ren, mapL, frOk, objLt, merge, setS, AV.ltAll, AV.lt, AEnd.ren, Heap.get, encS2, encS, fun27, ren_I, ren_c, ltAll_I, ltAll_c]) (r2 := .ret (.bool (listB (visit s t).2 t.kids).1)) rfl (H2 := encS (listB (visit s t).2 t.kids).2 ++ [some (.box (cellsT t)), some (.box [fun27])]) (by simp [renAll, AV.ren, AObj.ren, mapL, frOk, objLt, merge, setS, AV.ltAll, AV.lt, AEnd.ren, Heap.get, encS2, encS, fun27, ren_I, ren_c]) ?_
    simp only [encS, fun27]
    simp -dsimp -implicitDefEqProofs +contextual (disch := omega) only [go_sem, ↓reduceIte, Nat.reduceEqDiff, Nat.reduceAdd, List.length_map, List.length_append, Int.toNat_natCast, Int.ofNat_lt, Int.natCast_nonneg, Nat.le_refl, Nat.zero_add, Nat.reduceLeDiff, Nat.reduceMul, Nat.reduceLT, Nat.reduceSub, true_or, or_true, Nat.add_zero, Int.reduceLT, Int.reduceLE, Int.reduceNeg]
    refine end_trunc (by simp [encS]) rfl (by simp [renAll, AV.ren, AObj.ren, mapL, frOk, objLt, merge, setS, AV.ltAll, AV.lt, AEnd.ren, Heap.get, encS, fun27, ltAll_I, ltAll_c]) ⟨?_, ?_⟩
    · simp [allB_eq, hb]
    · simp [encS, fun27, allB_eq, hb]
theorem allC : ∀ (m : Nat) (t : T) (s : S), sizeT t < m → 0 ≤ s.1 → s.1 + sizeT t < 2 ^ 40 → AllC s t
  | 0, t, s, h, _, _ => by omega
  | m + 1, t, s, h, h0, hz => allCStep t s h0 hz fun u hu s' h1 h2 => by
    have h3 := sizeL_mem hu
    have h4 := sizeT_eq t
    exact allC m u s' (by omega) h1 h2
def mayT (t : T) : Bool := (allB (0, []) t).1
set_option maxRecDepth 100000 in
theorem mayTFn (t : T) (hz : sizeT t < 2 ^ 40) : PureFn Try.prog 22 [encT t] (.ret (.bool (mayT t))) := by
  refine PureFn.start (rs := [.tmp 2]) Try.func22 rfl rfl rfl (Nat.le_of_ble_eq_true rfl) (by decide) allLit ?_
  have hc := allC (sizeT t + 1) t (0, []) (by omega) (by simp) (by simp; omega)
  simp -dsimp -implicitDefEqProofs +contextual (disch := omega) only [go_sem, ↓reduceIte, Nat.reduceEqDiff, Nat.reduceAdd, List.length_map, List.length_append, Int.toNat_natCast, Int.ofNat_lt, Int.natCast_nonneg, Nat.le_refl, Nat.zero_add, Nat.reduceLeDiff, Nat.reduceMul, Nat.reduceLT, Nat.reduceSub, true_or, or_true, Nat.add_zero, Int.reduceLT, Int.reduceLE, Int.reduceNeg]
  refine use_frame [3, 2, 1] hc (by decide) rfl (by simp) (by simp [renAll, AV.ren, AObj.ren, mapL, frOk, objLt, merge, setS, AV.ltAll, AV.lt, AEnd.ren, Heap.get, encS, fun27, lt_T]) (by simp [renAll, AV.ren, AObj.ren, mapL, frOk, objLt, merge, setS, AV.ltAll, AV.lt, AEnd.ren, Heap.get, ren_T, fun27]) (by simp [renAll, AV.ren, AObj.ren, mapL, frOk, objLt, merge, setS, AV.ltAll, AV.lt, AEnd.ren, Heap.get, encS]) (r2 := .ret (.bool (mayT t))) rfl (H2 := [some (.box (cellsT t)), some (.map ((allB (0, []) t).2.2.map encI) ((allB (0, []) t).2.2.map fun _ => .bool true)), some (.box [.map 1]), some (.box [.int .i64 (allB (0, []) t).2.1])]) (by simp [renAll, AV.ren, AObj.ren, mapL, frOk, objLt, merge, setS, AV.ltAll, AV.lt, AEnd.ren, Heap.get, encS, ren_I, ren_c]) ?_
  simp -dsimp -implicitDefEqProofs +contextual (disch := omega) only [go_sem, ↓reduceIte, Nat.reduceEqDiff, Nat.reduceAdd, List.length_map, List.length_append, Int.toNat_natCast, Int.ofNat_lt, Int.natCast_nonneg, Nat.le_refl, Nat.zero_add, Nat.reduceLeDiff, Nat.reduceMul, Nat.reduceLT, Nat.reduceSub, true_or, or_true, Nat.add_zero, Int.reduceLT, Int.reduceLE, Int.reduceNeg]
set_option maxRecDepth 100000 in
theorem may1Fn (t : T) (hz : sizeT t < 2 ^ 40) : PureFn Try.prog 21 [encT t] (.ret (.bool (!mayT t))) := by
  refine PureFn.start (rs := [.tmp 2]) Try.func21 rfl rfl rfl (Nat.le_of_ble_eq_true rfl) (by decide) allLit ?_
  simp -dsimp -implicitDefEqProofs +contextual (disch := omega) only [go_sem, ↓reduceIte, Nat.reduceEqDiff, Nat.reduceAdd, List.length_map, List.length_append, Int.toNat_natCast, Int.ofNat_lt, Int.natCast_nonneg, Nat.le_refl, Nat.zero_add, Nat.reduceLeDiff, Nat.reduceMul, Nat.reduceLT, Nat.reduceSub, true_or, or_true, Nat.add_zero, Int.reduceLT, Int.reduceLE, Int.reduceNeg]
  refine use_call (mayTFn t hz) (by simp [pureAll, pure_T]) ?_
  simp -dsimp -implicitDefEqProofs +contextual (disch := omega) only [go_sem, ↓reduceIte, Nat.reduceEqDiff, Nat.reduceAdd, List.length_map, List.length_append, Int.toNat_natCast, Int.ofNat_lt, Int.natCast_nonneg, Nat.le_refl, Nat.zero_add, Nat.reduceLeDiff, Nat.reduceMul, Nat.reduceLT, Nat.reduceSub, true_or, or_true, Nat.add_zero, Int.reduceLT, Int.reduceLE, Int.reduceNeg]
def findT (p : T → Bool) : List T → Int → Int
  | [], _ => -1
  | r :: l, i => if p r then i else findT p l (i + 1)
theorem findT_none (p : T → Bool) : ∀ (l : List T) (i : Int), (∀ r ∈ l, p r = false) → findT p l i = -1
  | [], _, _ => rfl
  | r :: l, i, h => by rw [findT, if_neg (by simp [h r]), findT_none p l _ fun x hx => h x (by simp [hx])]
theorem findT_at (p : T → Bool) : ∀ (l : List T) (i : Int) (j : Nat) (h : j < l.length), (∀ r ∈ l.take j, p r = false) → p l[j] = true → findT p l i = i + j
  | r :: l, i, 0, _, _, hp => by simp at hp; simp [findT, hp]
  | r :: l, i, j + 1, h, hn, hp => by
    rw [findT, if_neg (by have := hn r (by simp); simp [this]), findT_at p l (i + 1) j (by simpa using h) (fun x hx => hn x (by simp [hx])) (by simpa using hp)]
    simp; omega
theorem findT_ge (p : T → Bool) : ∀ (l : List T) (i : Int), 0 ≤ i → decide (0 ≤ findT p l i) = l.any p
  | [], i, _ => by simp [findT]
  | r :: l, i, h => by
    rw [findT]
    split
    · rename_i hp; simp [hp, h]
    · rename_i hp; simp [hp, findT_ge p l (i + 1) (by omega)]
set_option maxRecDepth 100000 in
theorem indexTFn (p : T → Bool) (fid : FuncId) (ts : List T) (hp : ∀ t ∈ ts, PureFn Try.prog fid [encT t] (.ret (.bool (p t)))) (hs : ts.length < 2 ^ 40) :
    PureFn Try.prog 31 [.slice 7 (ts.map encT), .func (.func fid) [] []] (.ret (.int .i64 (findT p ts 0))) := by
  refine PureFn.start (rs := [.tmp 4]) Try.func31 rfl rfl rfl (Nat.le_of_ble_eq_true rfl) (by decide) allLit ?_
  simp -dsimp -implicitDefEqProofs +contextual (disch := omega) only [go_sem, ↓reduceIte, Nat.reduceEqDiff, Nat.reduceAdd, List.length_map, List.length_append, Int.toNat_natCast, Int.ofNat_lt, Int.natCast_nonneg, Nat.le_refl, Nat.zero_add, Nat.reduceLeDiff, Nat.reduceMul, Nat.reduceLT, Nat.reduceSub, true_or, or_true, Nat.add_zero, Int.reduceLT, Int.reduceLE, Int.reduceNeg]
  refine loop_intro (ι := Nat) (fun i => ⟨[(0, .slice 7 (ts.map encT)), (1, .func (.func fid) [] []), (7, .int .i64 ts.length), (8, .int .i64 i)], []⟩) (fun i => i ≤ ts.length ∧ ∀ r ∈ ts.take i, p r = false) (fun i => ts.length - i) 0 ⟨Nat.zero_le _, by simp⟩ (Sub.env ?_) ?_
  · simp -dsimp -implicitDefEqProofs +contextual (disch := omega) only [go_sem, ↓reduceIte, Nat.reduceEqDiff, Nat.reduceAdd, List.length_map, List.length_append, Int.toNat_natCast, Int.ofNat_lt, Int.natCast_nonneg, Nat.le_refl, Nat.zero_add, Nat.reduceLeDiff, Nat.reduceMul, Nat.reduceLT, Nat.reduceSub, true_or, or_true, Nat.add_zero, Int.reduceLT, Int.reduceLE, Int.reduceNeg]
    simp
  · rintro i ⟨hi, hj⟩
    simp -dsimp -implicitDefEqProofs +contextual (disch := omega) only [go_sem, ↓reduceIte, Nat.reduceEqDiff, Nat.reduceAdd, List.length_map, List.length_append, Int.toNat_natCast, Int.ofNat_lt, Int.natCast_nonneg, Nat.le_refl, Nat.zero_add, Nat.reduceLeDiff, Nat.reduceMul, Nat.reduceLT, Nat.reduceSub, true_or, or_true, Nat.add_zero, Int.reduceLT, Int.reduceLE, Int.reduceNeg]
    refine ⟨fun hlt => ?_, fun hge => ?_⟩
    · refine use_call (hp _ (List.getElem_mem _)) (by simp [pureAll, pure_T]) ?_
      simp -dsimp -implicitDefEqProofs +contextual (disch := omega) only [go_sem, ↓reduceIte, Nat.reduceEqDiff, Nat.reduceAdd, List.length_map, List.length_append, Int.toNat_natCast, Int.ofNat_lt, Int.natCast_nonneg, Nat.le_refl, Nat.zero_add, Nat.reduceLeDiff, Nat.reduceMul, Nat.reduceLT, Nat.reduceSub, true_or, or_true, Nat.add_zero, Int.reduceLT, Int.reduceLE, Int.reduceNeg]
      refine ⟨fun hc => ?_, fun hc => ?_⟩
      · rw [findT_at p ts 0 i hlt hj hc]; simp
      · refine loop_next (i + 1) ⟨by omega, fun r hr => ?_⟩ (by omega) (Sub.env ?_)
        · rw [List.take_succ_eq_append_getElem hlt] at hr
          rcases List.mem_append.1 hr with h1 | h1
          · exact hj r h1
          · simp at h1; subst h1; exact hc
        · simp -dsimp -implicitDefEqProofs +contextual (disch := omega) only [go_sem, ↓reduceIte, Nat.reduceEqDiff, Nat.reduceAdd, List.length_map, List.length_append, Int.toNat_natCast, Int.ofNat_lt, Int.natCast_nonneg, Nat.le_refl, Nat.zero_add, Nat.reduceLeDiff, Nat.reduceMul, Nat.reduceLT, Nat.reduceSub, true_or, or_true, Nat.add_zero, Int.reduceLT, Int.reduceLE, Int.reduceNeg]
          simp
    · have e : i = ts.length := by omega
      subst e
      rw [List.take_length] at hj
      rw [findT_none p ts 0 hj]
set_option maxRecDepth 100000 in
theorem containsTFn (p : T → Bool) (fid : FuncId) (ts : List T) (hp : ∀ t ∈ ts, PureFn Try.prog fid [encT t] (.ret (.bool (p t)))) (hs : ts.length < 2 ^ 40) :
    PureFn Try.prog 25 [.slice 7 (ts.map encT), .func (.func fid) [] []] (.ret (.bool (ts.any p))) := by
  refine PureFn.start (rs := [.tmp 4]) Try.func25 rfl rfl rfl (Nat.le_of_ble_eq_true rfl) (by decide) allLit ?_
  simp -dsimp -implicitDefEqProofs +contextual (disch := omega) only [go_sem, ↓reduceIte, Nat.reduceEqDiff, Nat.reduceAdd, List.length_map, List.length_append, Int.toNat_natCast, Int.ofNat_lt, Int.natCast_nonneg, Nat.le_refl, Nat.zero_add, Nat.reduceLeDiff, Nat.reduceMul, Nat.reduceLT, Nat.reduceSub, true_or, or_true, Nat.add_zero, Int.reduceLT, Int.reduceLE, Int.reduceNeg]
  refine use_call (indexTFn p fid ts hp hs) (by simp [pureAll, AV.pureB]) ?_
  simp -dsimp -implicitDefEqProofs +contextual (disch := omega) only [go_sem, ↓reduceIte, Nat.reduceEqDiff, Nat.reduceAdd, List.length_map, List.length_append, Int.toNat_natCast, Int.ofNat_lt, Int.natCast_nonneg, Nat.le_refl, Nat.zero_add, Nat.reduceLeDiff, Nat.reduceMul, Nat.reduceLT, Nat.reduceSub, true_or, or_true, Nat.add_zero, Int.reduceLT, Int.reduceLE, Int.reduceNeg]
  simpa using findT_ge p ts 0 (by omega)
set_option maxRecDepth 100000 in
theorem noneTFn (p : T → Bool) (fid : FuncId) (ts : List T) (hp : ∀ t ∈ ts, PureFn Try.prog fid [encT t] (.ret (.bool (p t)))) (hs : ts.length < 2 ^ 40) :
    PureFn Try.prog 20 [.slice 7 (ts.map encT), .func (.func fid) [] []] (.ret (.bool (!ts.any p))) := by
  refine PureFn.start (rs := [.tmp 4]) Try.func20 rfl rfl rfl (Nat.le_of_ble_eq_true rfl) (by decide) allLit ?_
  simp -dsimp -implicitDefEqProofs +contextual (disch := omega) only [go_sem, ↓reduceIte, Nat.reduceEqDiff, Nat.reduceAdd, List.length_map, List.length_append, Int.toNat_natCast, Int.ofNat_lt, Int.natCast_nonneg, Nat.le_refl, Nat.zero_add, Nat.reduceLeDiff, Nat.reduceMul, Nat.reduceLT, Nat.reduceSub, true_or, or_true, Nat.add_zero, Int.reduceLT, Int.reduceLE, Int.reduceNeg]
  refine use_call (containsTFn p fid ts hp hs) (by simp [pureAll, AV.pureB]) ?_
  simp -dsimp -implicitDefEqProofs +contextual (disch := omega) only [go_sem, ↓reduceIte, Nat.reduceEqDiff, Nat.reduceAdd, List.length_map, List.length_append, Int.toNat_natCast, Int.ofNat_lt, Int.natCast_nonneg, Nat.le_refl, Nat.zero_add, Nat.reduceLeDiff, Nat.reduceMul, Nat.reduceLT, Nat.reduceSub, true_or, or_true, Nat.add_zero, Int.reduceLT, Int.reduceLE, Int.reduceNeg]
set_option maxRecDepth 100000 in
theorem mayFn (ts : List T) (hs : sizeL ts < 2 ^ 40) : PureFn Try.prog 16 [.slice 7 (ts.map encT)] (.ret (.bool (!ts.any fun t => !mayT t))) := by
  refine PureFn.start (rs := [.tmp 2]) Try.func16 rfl rfl rfl (Nat.le_of_ble_eq_true rfl) (by decide) allLit ?_
  have hlen := length_sizeL ts
  simp -dsimp -implicitDefEqProofs +contextual (disch := omega) only [go_sem, ↓reduceIte, Nat.reduceEqDiff, Nat.reduceAdd, List.length_map, List.length_append, Int.toNat_natCast, Int.ofNat_lt, Int.natCast_nonneg, Nat.le_refl, Nat.zero_add, Nat.reduceLeDiff, Nat.reduceMul, Nat.reduceLT, Nat.reduceSub, true_or, or_true, Nat.add_zero, Int.reduceLT, Int.reduceLE, Int.reduceNeg]
  refine use_call (noneTFn (fun t => !mayT t) 21 ts (fun t ht => may1Fn t (by have := sizeL_mem ht; omega)) (by omega)) (by simp [pureAll, AV.pureB]) ?_
  simp -dsimp -implicitDefEqProofs +contextual (disch := omega) only [go_sem, ↓reduceIte, Nat.reduceEqDiff, Nat.reduceAdd, List.length_map, List.length_append, Int.toNat_natCast, Int.ofNat_lt, Int.natCast_nonneg, Nat.le_refl, Nat.zero_add, Nat.reduceLeDiff, Nat.reduceMul, Nat.reduceLT, Nat.reduceSub, true_or, or_true, Nat.add_zero, Int.reduceLT, Int.reduceLE, Int.reduceNeg]
end Go.Sim

set_option linter.unusedVariables false
set_option linter.unusedSimpArgs false
namespace Go.Sim
open Go.Proofs
@[go_sem] theorem frz_T {m : Nat} {H : Heap} {t : T} : Frz (m + 1) H (encT t) (encT t) = True := eq_true (frz_self (pure_T t))
def leafC (x y w h id : Int) : T := .node 1 x y w h id []
set_option maxRecDepth 100000 in
theorem leafFn (r : R) (id : Int) : PureFn Try.prog 14 [encR r, .int .i64 id] (.ret (encT (leafC r.x r.y r.w r.h id))) := by
  refine PureFn.start (rs := [.cell 4 (30 : Nat)]) Try.func14 rfl rfl rfl (Nat.le_of_ble_eq_true rfl) (by decide) allLit ?_
  simp -dsimp -implicitDefEqProofs +contextual (disch := omega) only [go_sem, ↓reduceIte, Nat.reduceEqDiff, Nat.reduceAdd, List.length_map, List.length_append, Int.toNat_natCast, Int.ofNat_lt, Int.natCast_nonneg, Nat.le_refl, Nat.zero_add, Nat.reduceLeDiff, Nat.reduceMul, Nat.reduceLT, Nat.reduceSub, true_or, or_true, Nat.add_zero, Int.reduceLT, Int.reduceLE, Int.reduceNeg, zero30]
  simp [leafC, encT, encTs, Frz, cellsR, setC, oneOr, All2, AV.pureB, AV.one]
theorem kind_leaf (x y w h id : Int) : (leafC x y w h id).kind = 1 := rfl
theorem id_leaf (x y w h id : Int) : (leafC x y w h id).id = id := rfl
theorem kids_leaf (x y w h id : Int) : (leafC x y w h id).kids = [] := rfl
set_option maxRecDepth 100000 in
theorem insertNilFn (n : Int) : PureFn Try.prog 19 [.nilslice, .int .i64 0, .slice 1 [.int .i64 n]] (.ret (.slice 1 [.int .i64 n])) := by
  refine PureFn.start (rs := [.tmp 6]) Try.func19 rfl rfl rfl (Nat.le_of_ble_eq_true rfl) (by decide) allLit ?_
  simp -dsimp -implicitDefEqProofs +contextual (disch := omega) only [go_sem, ↓reduceIte, Nat.reduceEqDiff, Nat.reduceAdd, List.length_map, List.length_append, Int.toNat_natCast, Int.ofNat_lt, Int.natCast_nonneg, Nat.le_refl, Nat.zero_add, Nat.reduceLeDiff, Nat.reduceMul, Nat.reduceLT, Nat.reduceSub, true_or, or_true, Nat.add_zero, Int.reduceLT, Int.reduceLE, Int.reduceNeg]
  simp
set_option maxRecDepth 100000 in
theorem findYes (x y w h id : Int) : PureFn Try.prog 15 [encT (leafC x y w h id), .int .i64 id] (.ret (.tuple [.nilslice, .bool true])) := by
  refine PureFn.start (rs := [.tmp 4, .tmp 5]) Try.func15 rfl rfl rfl (Nat.le_of_ble_eq_true rfl) (by decide) allLit ?_
  simp -dsimp -implicitDefEqProofs +contextual (disch := omega) only [go_sem, ↓reduceIte, Nat.reduceEqDiff, Nat.reduceAdd, List.length_map, List.length_append, Int.toNat_natCast, Int.ofNat_lt, Int.natCast_nonneg, Nat.le_refl, Nat.zero_add, Nat.reduceLeDiff, Nat.reduceMul, Nat.reduceLT, Nat.reduceSub, true_or, or_true, Nat.add_zero, Int.reduceLT, Int.reduceLE, Int.reduceNeg]
  simp [leafC, T.kind, T.id, T.kids]
set_option maxRecDepth 100000 in
theorem findNo (x y w h id n : Int) (hne : id ≠ n) : PureFn Try.prog 15 [encT (leafC x y w h id), .int .i64 n] (.ret (.tuple [.nilslice, .bool false])) := by
  refine PureFn.start (rs := [.tmp 4, .tmp 5]) Try.func15 rfl rfl rfl (Nat.le_of_ble_eq_true rfl) (by decide) allLit ?_
  have hb : (id == n) = false := by simp [hne]
  simp -dsimp -implicitDefEqProofs +contextual (disch := omega) only [go_sem, ↓reduceIte, Nat.reduceEqDiff, Nat.reduceAdd, List.length_map, List.length_append, Int.toNat_natCast, Int.ofNat_lt, Int.natCast_nonneg, Nat.le_refl, Nat.zero_add, Nat.reduceLeDiff, Nat.reduceMul, Nat.reduceLT, Nat.reduceSub, true_or, or_true, Nat.add_zero, Int.reduceLT, Int.reduceLE, Int.reduceNeg, kind_leaf, id_leaf, kids_leaf, hb, Int.reduceBEq]
  refine loop_intro (ι := Unit) (fun _ => ⟨[(20, .slice 7 []), (21, .int .i64 0), (22, .int .i64 0)], []⟩) (fun _ => True) (fun _ => 0) () trivial (Sub.trunc' 0 (by omega) (by simp) rfl (by simp) ?_) ?_
  · simp -dsimp -implicitDefEqProofs +contextual (disch := omega) only [go_sem, ↓reduceIte, Nat.reduceEqDiff, Nat.reduceAdd, List.length_map, List.length_append, Int.toNat_natCast, Int.ofNat_lt, Int.natCast_nonneg, Nat.le_refl, Nat.zero_add, Nat.reduceLeDiff, Nat.reduceMul, Nat.reduceLT, Nat.reduceSub, true_or, or_true, Nat.add_zero, Int.reduceLT, Int.reduceLE, Int.reduceNeg]
    simp
  · intro _ _
    simp -dsimp -implicitDefEqProofs +contextual (disch := omega) only [go_sem, ↓reduceIte, Nat.reduceEqDiff, Nat.reduceAdd, List.length_map, List.length_append, Int.toNat_natCast, Int.ofNat_lt, Int.natCast_nonneg, Nat.le_refl, Nat.zero_add, Nat.reduceLeDiff, Nat.reduceMul, Nat.reduceLT, Nat.reduceSub, true_or, or_true, Nat.add_zero, Int.reduceLT, Int.reduceLE, Int.reduceNeg]
def twoC : T := .node 2 0 0 3 1 0 [leafC 0 0 3 1 4, leafC 0 0 3 1 7]
set_option maxRecDepth 100000 in
theorem findTwo : PureFn Try.prog 15 [encT twoC, .int .i64 7] (.ret (.tuple [.slice 1 [.int .i64 1], .bool true])) := by
  refine PureFn.start (rs := [.tmp 4, .tmp 5]) Try.func15 rfl rfl rfl (Nat.le_of_ble_eq_true rfl) (by decide) allLit ?_
  have h1 : twoC.kind = 2 := rfl
  have h2 : twoC.kids = [leafC 0 0 3 1 4, leafC 0 0 3 1 7] := rfl
  simp -dsimp -implicitDefEqProofs +contextual (disch := omega) only [go_sem, ↓reduceIte, Nat.reduceEqDiff, Nat.reduceAdd, List.length_map, List.length_append, Int.toNat_natCast, Int.ofNat_lt, Int.natCast_nonneg, Nat.le_refl, Nat.zero_add, Nat.reduceLeDiff, Nat.reduceMul, Nat.reduceLT, Nat.reduceSub, true_or, or_true, Nat.add_zero, Int.reduceLT, Int.reduceLE, Int.reduceNeg, h1, h2, Int.reduceBEq]
  refine loop_intro (ι := Nat) (fun i => ⟨[(1, .int .i64 7), (20, .slice 7 [encT (leafC 0 0 3 1 4), encT (leafC 0 0 3 1 7)]), (21, .int .i64 2), (22, .int .i64 i)], []⟩) (fun i => i ≤ 1) (fun i => 2 - i) 0 (by omega) (Sub.trunc' 0 (by omega) (by simp) rfl (by simp) ?_) ?_
  · simp -dsimp -implicitDefEqProofs +contextual (disch := omega) only [go_sem, ↓reduceIte, Nat.reduceEqDiff, Nat.reduceAdd, List.length_map, List.length_append, Int.toNat_natCast, Int.ofNat_lt, Int.natCast_nonneg, Nat.le_refl, Nat.zero_add, Nat.reduceLeDiff, Nat.reduceMul, Nat.reduceLT, Nat.reduceSub, true_or, or_true, Nat.add_zero, Int.reduceLT, Int.reduceLE, Int.reduceNeg]
    simp
  · intro i hi
    have hi : i = 0 ∨ i = 1 := by omega
    rcases hi with rfl | rfl
    · simp -dsimp -implicitDefEqProofs +contextual (disch := omega) only [go_sem, ↓reduceIte, Nat.reduceEqDiff, Nat.reduceAdd, List.length_map, List.length_append, Int.toNat_natCast, Int.ofNat_lt, Int.natCast_nonneg, Nat.le_refl, Nat.zero_add, Nat.reduceLeDiff, Nat.reduceMul, Nat.reduceLT, Nat.reduceSub, true_or, or_true, Nat.add_zero, Int.reduceLT, Int.reduceLE, Int.reduceNeg, List.getD_cons_zero, List.getD_cons_succ]
      refine ⟨fun _ => ?_, fun h => absurd h (by decide)⟩
      refine use_call (findNo 0 0 3 1 4 7 (by omega)) (by simp [pureAll, pure_T]; rfl) ?_
      simp -dsimp -implicitDefEqProofs +contextual (disch := omega) only [go_sem, ↓reduceIte, Nat.reduceEqDiff, Nat.reduceAdd, List.length_map, List.length_append, Int.toNat_natCast, Int.ofNat_lt, Int.natCast_nonneg, Nat.le_refl, Nat.zero_add, Nat.reduceLeDiff, Nat.reduceMul, Nat.reduceLT, Nat.reduceSub, true_or, or_true, Nat.add_zero, Int.reduceLT, Int.reduceLE, Int.reduceNeg]
      refine loop_next 1 (by omega) (by omega) (Sub.trunc' 0 (by omega) (by simp) rfl (by simp) ?_)
      simp -dsimp -implicitDefEqProofs +contextual (disch := omega) only [go_sem, ↓reduceIte, Nat.reduceEqDiff, Nat.reduceAdd, List.length_map, List.length_append, Int.toNat_natCast, Int.ofNat_lt, Int.natCast_nonneg, Nat.le_refl, Nat.zero_add, Nat.reduceLeDiff, Nat.reduceMul, Nat.reduceLT, Nat.reduceSub, true_or, or_true, Nat.add_zero, Int.reduceLT, Int.reduceLE, Int.reduceNeg]
      simp
    · simp -dsimp -implicitDefEqProofs +contextual (disch := omega) only [go_sem, ↓reduceIte, Nat.reduceEqDiff, Nat.reduceAdd, List.length_map, List.length_append, Int.toNat_natCast, Int.ofNat_lt, Int.natCast_nonneg, Nat.le_refl, Nat.zero_add, Nat.reduceLeDiff, Nat.reduceMul, Nat.reduceLT, Nat.reduceSub, true_or, or_true, Nat.add_zero, Int.reduceLT, Int.reduceLE, Int.reduceNeg, List.getD_cons_zero, List.getD_cons_succ]
      refine ⟨fun _ => ?_, fun h => absurd h (by decide)⟩
      refine use_call (findYes 0 0 3 1 7) (by simp [pureAll, pure_T]; rfl) ?_
      simp -dsimp -implicitDefEqProofs +contextual (disch := omega) only [go_sem, ↓reduceIte, Nat.reduceEqDiff, Nat.reduceAdd, List.length_map, List.length_append, Int.toNat_natCast, Int.ofNat_lt, Int.natCast_nonneg, Nat.le_refl, Nat.zero_add, Nat.reduceLeDiff, Nat.reduceMul, Nat.reduceLT, Nat.reduceSub, true_or, or_true, Nat.add_zero, Int.reduceLT, Int.reduceLE, Int.reduceNeg]
      refine use_call (insertNilFn 1) (by simp [pureAll, AV.pureB]) ?_
      simp -dsimp -implicitDefEqProofs +contextual (disch := omega) only [go_sem, ↓reduceIte, Nat.reduceEqDiff, Nat.reduceAdd, List.length_map, List.length_append, Int.toNat_natCast, Int.ofNat_lt, Int.natCast_nonneg, Nat.le_refl, Nat.zero_add, Nat.reduceLeDiff, Nat.reduceMul, Nat.reduceLT, Nat.reduceSub, true_or, or_true, Nat.add_zero, Int.reduceLT, Int.reduceLE, Int.reduceNeg]

theorem leaf4 : PureFn Try.prog 14 [.agg [.int .i64 0, .int .i64 0, .int .i64 3, .int .i64 1], .int .i64 4] (.ret (encT (leafC 0 0 3 1 4))) := leafFn ⟨0, 0, 3, 1⟩ 4
theorem leaf7 : PureFn Try.prog 14 [.agg [.int .i64 0, .int .i64 0, .int .i64 3, .int .i64 1], .int .i64 7] (.ret (encT (leafC 0 0 3 1 7))) := leafFn ⟨0, 0, 3, 1⟩ 7
theorem twoC_cells : cellsT twoC = [.int .u8 2, .int .i64 0, .int .i64 0, .int .i64 3, .int .i64 1, .int .i64 0, .slice 7 [encT (leafC 0 0 3 1 4), encT (leafC 0 0 3 1 7)]] := rfl
theorem fold_two : AV.agg (cellsT twoC) = encT twoC := rfl
theorem sizeTwo : sizeT twoC = 3 := by decide
theorem mayTwo : mayT twoC = true := by decide
theorem ints11 : PureFn Try.prog 11 [.slice 1 [.int .i64 1], .slice 1 [.int .i64 1]] (.ret (.bool true)) := intsFn [1] [1] (by simp) (by simp)
theorem mayTwoL : PureFn Try.prog 16 [.slice 7 [encT twoC]] (.ret (.bool true)) := by
  have := mayFn [twoC] (by simp [sizeL, sizeTwo])
  simpa [mayTwo] using this
theorem sizeTwoL : PureFn Try.prog 10 [.slice 7 [encT twoC]] (.ret (.int .i64 3)) := by
  have := sizeFn 5 [twoC] (by simp [sizeL, sizeTwo]) (by simp [sizeL, sizeTwo])
  simpa [sizeL, sizeTwo] using this
set_option maxRecDepth 100000 in
theorem awakeFn : PureFn Try.prog 5 [] (.ret (.bool true)) := by
  refine PureFn.start (rs := [.tmp 0]) Try.func5 rfl rfl rfl (Nat.le_of_ble_eq_true rfl) (by decide) allLit ?_
  simp -dsimp -implicitDefEqProofs +contextual (disch := omega) only [go_sem, ↓reduceIte, Nat.reduceEqDiff, Nat.reduceAdd, List.length_map, List.length_append, Int.toNat_natCast, Int.ofNat_lt, Int.natCast_nonneg, Nat.le_refl, Nat.zero_add, Nat.reduceLeDiff, Nat.reduceMul, Nat.reduceLT, Nat.reduceSub, true_or, or_true, Nat.add_zero, Int.reduceLT, Int.reduceLE, Int.reduceNeg, zero28]
  refine use_draw [(0, none), (1, none), (3, none), (7, none), (2, some [0, 3, 7]), (4, some [0, 7]), (5, none), (6, none), (8, some [])] [[], [], [1], [], [1, 2, 3], [1, 2, 3, 4], [0, 1, 2, 3, 4, 5], [], [0, 1, 2, 3, 4, 5, 6, 7]] mixed (by decide +kernel) ?_
  simp -dsimp -implicitDefEqProofs +contextual (disch := omega) only [go_sem, ↓reduceIte, Nat.reduceEqDiff, Nat.reduceAdd, List.length_map, List.length_append, Int.toNat_natCast, Int.ofNat_lt, Int.natCast_nonneg, Nat.le_refl, Nat.zero_add, Nat.reduceLeDiff, Nat.reduceMul, Nat.reduceLT, Nat.reduceSub, true_or, or_true, Nat.add_zero, Int.reduceLT, Int.reduceLE, Int.reduceNeg]
  refine use_call leaf4 (by simp [pureAll, AV.pureB]) ?_
  simp -dsimp -implicitDefEqProofs +contextual (disch := omega) only [go_sem, ↓reduceIte, Nat.reduceEqDiff, Nat.reduceAdd, List.length_map, List.length_append, Int.toNat_natCast, Int.ofNat_lt, Int.natCast_nonneg, Nat.le_refl, Nat.zero_add, Nat.reduceLeDiff, Nat.reduceMul, Nat.reduceLT, Nat.reduceSub, true_or, or_true, Nat.add_zero, Int.reduceLT, Int.reduceLE, Int.reduceNeg]
  refine use_call leaf7 (by simp [pureAll, AV.pureB]) ?_
  simp -dsimp -implicitDefEqProofs +contextual (disch := omega) only [go_sem, ↓reduceIte, Nat.reduceEqDiff, Nat.reduceAdd, List.length_map, List.length_append, Int.toNat_natCast, Int.ofNat_lt, Int.natCast_nonneg, Nat.le_refl, Nat.zero_add, Nat.reduceLeDiff, Nat.reduceMul, Nat.reduceLT, Nat.reduceSub, true_or, or_true, Nat.add_zero, Int.reduceLT, Int.reduceLE, Int.reduceNeg, zero30]
  simp only [← twoC_cells, fold_two]
  refine use_call findTwo (by simp [pureAll, AV.pureB, pure_T]) ?_
  simp -dsimp -implicitDefEqProofs +contextual (disch := omega) only [go_sem, ↓reduceIte, Nat.reduceEqDiff, Nat.reduceAdd, List.length_map, List.length_append, Int.toNat_natCast, Int.ofNat_lt, Int.natCast_nonneg, Nat.le_refl, Nat.zero_add, Nat.reduceLeDiff, Nat.reduceMul, Nat.reduceLT, Nat.reduceSub, true_or, or_true, Nat.add_zero, Int.reduceLT, Int.reduceLE, Int.reduceNeg]
  refine use_call ints11 (by simp [pureAll, AV.pureB]) ?_
  simp -dsimp -implicitDefEqProofs +contextual (disch := omega) only [go_sem, ↓reduceIte, Nat.reduceEqDiff, Nat.reduceAdd, List.length_map, List.length_append, Int.toNat_natCast, Int.ofNat_lt, Int.natCast_nonneg, Nat.le_refl, Nat.zero_add, Nat.reduceLeDiff, Nat.reduceMul, Nat.reduceLT, Nat.reduceSub, true_or, or_true, Nat.add_zero, Int.reduceLT, Int.reduceLE, Int.reduceNeg]
  refine use_call mayTwoL (by simp [pureAll, AV.pureB]) ?_
  simp -dsimp -implicitDefEqProofs +contextual (disch := omega) only [go_sem, ↓reduceIte, Nat.reduceEqDiff, Nat.reduceAdd, List.length_map, List.length_append, Int.toNat_natCast, Int.ofNat_lt, Int.natCast_nonneg, Nat.le_refl, Nat.zero_add, Nat.reduceLeDiff, Nat.reduceMul, Nat.reduceLT, Nat.reduceSub, true_or, or_true, Nat.add_zero, Int.reduceLT, Int.reduceLE, Int.reduceNeg]
  refine use_call sizeTwoL (by simp [pureAll, AV.pureB]) ?_
  simp -dsimp -implicitDefEqProofs +contextual (disch := omega) only [go_sem, ↓reduceIte, Nat.reduceEqDiff, Nat.reduceAdd, List.length_map, List.length_append, Int.toNat_natCast, Int.ofNat_lt, Int.natCast_nonneg, Nat.le_refl, Nat.zero_add, Nat.reduceLeDiff, Nat.reduceMul, Nat.reduceLT, Nat.reduceSub, true_or, or_true, Nat.add_zero, Int.reduceLT, Int.reduceLE, Int.reduceNeg]
  rfl
end Go.Sim

set_option linter.unusedVariables false
set_option linter.unusedSimpArgs false
namespace Go.Sim
open Go.Proofs
mutual
theorem idsT_leaves : ∀ t : T, ((allT t).filter isLeaf).map T.id = leavesT t
  | .node k x y w h i ks => by
    simp only [allT, leavesT, List.filter_cons]
    by_cases hk : k = 1
    · simp [isLeaf, T.kind, hk, T.id, idsL_leaves ks]
    · simp [isLeaf, T.kind, hk, T.id, idsL_leaves ks]
theorem idsL_leaves : ∀ l : List T, ((allL l).filter isLeaf).map T.id = leavesL l
  | [] => rfl
  | t :: ts => by simp [allL, leavesL, idsT_leaves t, idsL_leaves ts]
end
theorem sizeL_succ (l : List T) {i : Nat} (h : i < l.length) : sizeL (l.take (i + 1)) = sizeL (l.take i) + sizeT l[i] := by
  rw [List.take_succ_eq_append_getElem h, sizeL_append]; simp [sizeL]
set_option maxRecDepth 100000 in
theorem cellCountsFn (ts : List T) (hs : sizeL ts < 2 ^ 40) : PureFn Try.prog 3 [.slice 7 (ts.map encT)] (.ret (.bool true)) := by
  refine PureFn.start (rs := [.tmp 2]) Try.func3 rfl rfl rfl (Nat.le_of_ble_eq_true rfl) (by decide) allLit ?_
  have hlen := length_sizeL ts
  have hll := length_leavesL ts
  simp -dsimp -implicitDefEqProofs +contextual (disch := omega) only [go_sem, ↓reduceIte, Nat.reduceEqDiff, Nat.reduceAdd, List.length_map, List.length_append, Int.toNat_natCast, Int.ofNat_lt, Int.natCast_nonneg, Nat.le_refl, Nat.zero_add, Nat.reduceLeDiff, Nat.reduceMul, Nat.reduceLT, Nat.reduceSub, true_or, or_true, Nat.add_zero, Int.reduceLT, Int.reduceLE, Int.reduceNeg]
  refine use_call (greatAllFn ts hs) (by simp [pureAll, AV.pureB]) ?_
  simp -dsimp -implicitDefEqProofs +contextual (disch := omega) only [go_sem, ↓reduceIte, Nat.reduceEqDiff, Nat.reduceAdd, List.length_map, List.length_append, Int.toNat_natCast, Int.ofNat_lt, Int.natCast_nonneg, Nat.le_refl, Nat.zero_add, Nat.reduceLeDiff, Nat.reduceMul, Nat.reduceLT, Nat.reduceSub, true_or, or_true, Nat.add_zero, Int.reduceLT, Int.reduceLE, Int.reduceNeg]
  refine ⟨fun hg => ?_, fun hg => ?_⟩
  · refine use_call awakeFn (by simp [pureAll]) ?_
    simp -dsimp -implicitDefEqProofs +contextual (disch := omega) only [go_sem, ↓reduceIte, Nat.reduceEqDiff, Nat.reduceAdd, List.length_map, List.length_append, Int.toNat_natCast, Int.ofNat_lt, Int.natCast_nonneg, Nat.le_refl, Nat.zero_add, Nat.reduceLeDiff, Nat.reduceMul, Nat.reduceLT, Nat.reduceSub, true_or, or_true, Nat.add_zero, Int.reduceLT, Int.reduceLE, Int.reduceNeg]
  · refine loop_intro (ι := Nat) (fun i => ⟨[(0, .slice 7 (ts.map encT)), (2, .bool false), (3, .int .i64 (sizeL (ts.take i) : Nat)), (4, .mslice 1 0 0 (leavesL (ts.take i)).length), (5, .int .i64 i)], [some (.row 1 ((leavesL (ts.take i)).map encI))]⟩) (fun i => i ≤ ts.length) (fun i => ts.length - i) 0 (Nat.zero_le _) ((Sub.nilrow 4 1 (.inr ?_)).trans (Sub.env' ?_ ?_)) ?_
    · simp -dsimp -implicitDefEqProofs +contextual (disch := omega) only [go_sem, ↓reduceIte, Nat.reduceEqDiff, Nat.reduceAdd, List.length_map, List.length_append, Int.toNat_natCast, Int.ofNat_lt, Int.natCast_nonneg, Nat.le_refl, Nat.zero_add, Nat.reduceLeDiff, Nat.reduceMul, Nat.reduceLT, Nat.reduceSub, true_or, or_true, Nat.add_zero, Int.reduceLT, Int.reduceLE, Int.reduceNeg]
    · simp [leavesL]
    · simp -dsimp -implicitDefEqProofs +contextual (disch := omega) only [go_sem, ↓reduceIte, Nat.reduceEqDiff, Nat.reduceAdd, List.length_map, List.length_append, Int.toNat_natCast, Int.ofNat_lt, Int.natCast_nonneg, Nat.le_refl, Nat.zero_add, Nat.reduceLeDiff, Nat.reduceMul, Nat.reduceLT, Nat.reduceSub, true_or, or_true, Nat.add_zero, Int.reduceLT, Int.reduceLE, Int.reduceNeg]
      simp [leavesL, sizeL]
    · intro i hi
      have hd := sizeL_take ts i
      have hd2 := sizeL_take ts (i + 1)
      have hl := length_leavesL (ts.take i)
      have hl2 := length_leavesL (ts.take (i + 1))
      simp -dsimp -implicitDefEqProofs +contextual (disch := omega) only [go_sem, ↓reduceIte, Nat.reduceEqDiff, Nat.reduceAdd, List.length_map, List.length_append, Int.toNat_natCast, Int.ofNat_lt, Int.natCast_nonneg, Nat.le_refl, Nat.zero_add, Nat.reduceLeDiff, Nat.reduceMul, Nat.reduceLT, Nat.reduceSub, true_or, or_true, Nat.add_zero, Int.reduceLT, Int.reduceLE, Int.reduceNeg]
      refine ⟨fun hlt => ?_, fun hge => ?_⟩
      · have hm := sizeL_mem (List.getElem_mem hlt)
        have hsz := sizeL_succ ts hlt
        have hlv := leavesL_succ ts hlt
        have hal := length_allT ts[i]
        rw [hlv, List.length_append] at hl2
        refine use_call (allFn _ ts[i] (Nat.lt_succ_self _) (by omega)) (by simp [pureAll, pure_T]) ?_
        simp -dsimp -implicitDefEqProofs +contextual (disch := omega) only [go_sem, ↓reduceIte, Nat.reduceEqDiff, Nat.reduceAdd, List.length_map, List.length_append, Int.toNat_natCast, Int.ofNat_lt, Int.natCast_nonneg, Nat.le_refl, Nat.zero_add, Nat.reduceLeDiff, Nat.reduceMul, Nat.reduceLT, Nat.reduceSub, true_or, or_true, Nat.add_zero, Int.reduceLT, Int.reduceLE, Int.reduceNeg, hlt]
        refine use_call (idsFn ts[i] (by omega)) (by simp [pureAll, pure_T]) ?_
        have hids : idsT ts[i] = leavesT ts[i] := idsT_leaves ts[i]
        rw [hids]
        simp -dsimp -implicitDefEqProofs +contextual (disch := omega) only [go_sem, ↓reduceIte, Nat.reduceEqDiff, Nat.reduceAdd, List.length_map, List.length_append, Int.toNat_natCast, Int.ofNat_lt, Int.natCast_nonneg, Nat.le_refl, Nat.zero_add, Nat.reduceLeDiff, Nat.reduceMul, Nat.reduceLT, Nat.reduceSub, true_or, or_true, Nat.add_zero, Int.reduceLT, Int.reduceLE, Int.reduceNeg]
        refine ⟨by omega, ?_⟩
        refine use_draw [(0, none), (1, none), (2, none), (3, none), (5, none), (6, none), (7, none), (8, none), (4, some [5, 6, 7, 8]), (9, some []), (10, none)] [[], [], [0, 1], [0, 1, 2], [0, 1, 2, 3], [], [], [5, 6], [5, 6, 7], [0, 1, 2, 3, 4, 5, 6, 7, 8], [0, 1, 2, 3, 4, 5, 6, 7, 8, 9]] mixed (by decide +kernel) ?_
        simp -dsimp -implicitDefEqProofs +contextual (disch := omega) only [go_sem, ↓reduceIte, Nat.reduceEqDiff, Nat.reduceAdd, List.length_map, List.length_append, Int.toNat_natCast, Int.ofNat_lt, Int.natCast_nonneg, Nat.le_refl, Nat.zero_add, Nat.reduceLeDiff, Nat.reduceMul, Nat.reduceLT, Nat.reduceSub, true_or, or_true, Nat.add_zero, Int.reduceLT, Int.reduceLE, Int.reduceNeg, hlt]
        refine use_call (depthFn8 _ ts[i] (Nat.lt_succ_self _) (by omega)) (by simp [pureAll, pure_T]) ?_
        simp -dsimp -implicitDefEqProofs +contextual (disch := omega) only [go_sem, ↓reduceIte, Nat.reduceEqDiff, Nat.reduceAdd, List.length_map, List.length_append, Int.toNat_natCast, Int.ofNat_lt, Int.natCast_nonneg, Nat.le_refl, Nat.zero_add, Nat.reduceLeDiff, Nat.reduceMul, Nat.reduceLT, Nat.reduceSub, true_or, or_true, Nat.add_zero, Int.reduceLT, Int.reduceLE, Int.reduceNeg]
        refine use_call (depthFn9 _ ts[i] (Nat.lt_succ_self _) (by omega)) (by simp [pureAll, pure_T]) ?_
        simp -dsimp -implicitDefEqProofs +contextual (disch := omega) only [go_sem, ↓reduceIte, Nat.reduceEqDiff, Nat.reduceAdd, List.length_map, List.length_append, Int.toNat_natCast, Int.ofNat_lt, Int.natCast_nonneg, Nat.le_refl, Nat.zero_add, Nat.reduceLeDiff, Nat.reduceMul, Nat.reduceLT, Nat.reduceSub, true_or, or_true, Nat.add_zero, Int.reduceLT, Int.reduceLE, Int.reduceNeg, bne_self_eq_false]
        refine loop_next (i + 1) (by omega) (by omega) (Sub.env' ?_ ?_)
        · simp [hlv]
        · simp -dsimp -implicitDefEqProofs +contextual (disch := omega) only [go_sem, ↓reduceIte, Nat.reduceEqDiff, Nat.reduceAdd, List.length_map, List.length_append, Int.toNat_natCast, Int.ofNat_lt, Int.natCast_nonneg, Nat.le_refl, Nat.zero_add, Nat.reduceLeDiff, Nat.reduceMul, Nat.reduceLT, Nat.reduceSub, true_or, or_true, Nat.add_zero, Int.reduceLT, Int.reduceLE, Int.reduceNeg]
          simp [hlv, hsz, hal]
      · have e : i = ts.length := by omega
        subst e
        rw [List.take_length]
        refine use_call (sizeFn _ ts (Nat.lt_succ_self _) hs) (by simp [pureAll, AV.pureB]) ?_
        simp -dsimp -implicitDefEqProofs +contextual (disch := omega) only [go_sem, ↓reduceIte, Nat.reduceEqDiff, Nat.reduceAdd, List.length_map, List.length_append, Int.toNat_natCast, Int.ofNat_lt, Int.natCast_nonneg, Nat.le_refl, Nat.zero_add, Nat.reduceLeDiff, Nat.reduceMul, Nat.reduceLT, Nat.reduceSub, true_or, or_true, Nat.add_zero, Int.reduceLT, Int.reduceLE, Int.reduceNeg, beq_self_eq_true]
        refine use_call (leavesFn _ ts (Nat.lt_succ_self _) hs) (by simp [pureAll, AV.pureB]) ?_
        simp -dsimp -implicitDefEqProofs +contextual (disch := omega) only [go_sem, ↓reduceIte, Nat.reduceEqDiff, Nat.reduceAdd, List.length_map, List.length_append, Int.toNat_natCast, Int.ofNat_lt, Int.natCast_nonneg, Nat.le_refl, Nat.zero_add, Nat.reduceLeDiff, Nat.reduceMul, Nat.reduceLT, Nat.reduceSub, true_or, or_true, Nat.add_zero, Int.reduceLT, Int.reduceLE, Int.reduceNeg]
        refine use_flat 2 (intsFn (leavesL ts) (leavesL ts) (by omega) (by omega)) (by simp -dsimp -implicitDefEqProofs +contextual (disch := omega) only [go_sem, ↓reduceIte, Nat.reduceEqDiff, Nat.reduceAdd, List.length_map, List.length_append, Int.toNat_natCast, Int.ofNat_lt, Int.natCast_nonneg, Nat.le_refl, Nat.zero_add, Nat.reduceLeDiff, Nat.reduceMul, Nat.reduceLT, Nat.reduceSub, true_or, or_true, Nat.add_zero, Int.reduceLT, Int.reduceLE, Int.reduceNeg]) rfl ?_
        simp -dsimp -implicitDefEqProofs +contextual (disch := omega) only [go_sem, ↓reduceIte, Nat.reduceEqDiff, Nat.reduceAdd, List.length_map, List.length_append, Int.toNat_natCast, Int.ofNat_lt, Int.natCast_nonneg, Nat.le_refl, Nat.zero_add, Nat.reduceLeDiff, Nat.reduceMul, Nat.reduceLT, Nat.reduceSub, true_or, or_true, Nat.add_zero, Int.reduceLT, Int.reduceLE, Int.reduceNeg, beq_self_eq_true]
        refine use_call awakeFn (by simp [pureAll]) ?_
        simp -dsimp -implicitDefEqProofs +contextual (disch := omega) only [go_sem, ↓reduceIte, Nat.reduceEqDiff, Nat.reduceAdd, List.length_map, List.length_append, Int.toNat_natCast, Int.ofNat_lt, Int.natCast_nonneg, Nat.le_refl, Nat.zero_add, Nat.reduceLeDiff, Nat.reduceMul, Nat.reduceLT, Nat.reduceSub, true_or, or_true, Nat.add_zero, Int.reduceLT, Int.reduceLE, Int.reduceNeg]
end Go.Sim
