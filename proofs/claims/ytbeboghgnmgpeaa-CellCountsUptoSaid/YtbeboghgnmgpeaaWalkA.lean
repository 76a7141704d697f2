/- Each function that the law reaches computes what its Lean twin computes, up to the leaves of a tree. -/
import Derived.Test.YtbeboghgnmgpeaaSimF
import Derived.Test.YtbeboghgnmgpeaaProg
import Derived.KernelRfl
set_option linter.unusedVariables false
set_option linter.unusedSimpArgs false
namespace Go.Sim
open Go.Proofs
/-! ### the program's types -/
@[go_sem] theorem ld3 : ldInfo Try.prog (3 : Nat) = some (false, 1) := by kernel_rfl
@[go_sem] theorem ld5 : ldInfo Try.prog (5 : Nat) = some (false, 1) := by kernel_rfl
@[go_sem] theorem ld28 : ldInfo Try.prog (28 : Nat) = some (true, 4) := by kernel_rfl
@[go_sem] theorem ld30 : ldInfo Try.prog (30 : Nat) = some (true, 7) := by kernel_rfl
@[go_sem] theorem ld22 : ldInfo Try.prog (22 : Nat) = some (false, 1) := by kernel_rfl
@[go_sem] theorem ld36 : ldInfo Try.prog (36 : Nat) = some (false, 1) := by kernel_rfl
@[go_sem] theorem ld45 : ldInfo Try.prog (45 : Nat) = some (false, 1) := by kernel_rfl
@[go_sem] theorem es22 : elemSz Try.prog (22 : Nat) = some 7 := by kernel_rfl
@[go_sem] theorem es25 : elemSz Try.prog (25 : Nat) = some 1 := by kernel_rfl
@[go_sem] theorem es49 : elemSz Try.prog (49 : Nat) = some 4 := by kernel_rfl
@[go_sem] theorem sz22 : evA.sliceZero Try.prog (22 : Nat) = true := by kernel_rfl
@[go_sem] theorem sz25 : evA.sliceZero Try.prog (25 : Nat) = true := by kernel_rfl
@[go_sem] theorem sz49 : evA.sliceZero Try.prog (49 : Nat) = true := by kernel_rfl
@[go_sem] theorem tb22 : tBytes Try.prog (22 : Nat) = some 72 := by kernel_rfl
@[go_sem] theorem tb25 : tBytes Try.prog (25 : Nat) = some 8 := by kernel_rfl
@[go_sem] theorem lk22 : lenKind Try.prog (22 : Nat) = 2 := by kernel_rfl
@[go_sem] theorem lk25 : lenKind Try.prog (25 : Nat) = 2 := by kernel_rfl
@[go_sem] theorem lk49 : lenKind Try.prog (49 : Nat) = 2 := by kernel_rfl
@[go_sem] theorem fo30_0 : fieldOff Try.prog (30 : Nat) 0 = some 0 := by kernel_rfl
@[go_sem] theorem fo30_1 : fieldOff Try.prog (30 : Nat) 1 = some 1 := by kernel_rfl
@[go_sem] theorem fo30_2 : fieldOff Try.prog (30 : Nat) 2 = some 5 := by kernel_rfl
@[go_sem] theorem fo30_3 : fieldOff Try.prog (30 : Nat) 3 = some 6 := by kernel_rfl
@[go_sem] theorem fo28_0 : fieldOff Try.prog (28 : Nat) 0 = some 0 := by kernel_rfl
@[go_sem] theorem fo28_1 : fieldOff Try.prog (28 : Nat) 1 = some 1 := by kernel_rfl
@[go_sem] theorem fo28_2 : fieldOff Try.prog (28 : Nat) 2 = some 2 := by kernel_rfl
@[go_sem] theorem fo28_3 : fieldOff Try.prog (28 : Nat) 3 = some 3 := by kernel_rfl
@[go_sem] theorem ts3 : tSize Try.prog (3 : Nat) = some 1 := by kernel_rfl
@[go_sem] theorem ts28 : tSize Try.prog (28 : Nat) = some 4 := by kernel_rfl
@[go_sem] theorem ts30 : tSize Try.prog (30 : Nat) = some 7 := by kernel_rfl
@[go_sem] theorem ts45 : tSize Try.prog (45 : Nat) = some 1 := by kernel_rfl
def zero30 : List AV := [.int .u8 0, .int .i64 0, .int .i64 0, .int .i64 0, .int .i64 0, .int .i64 0, .nilslice]
def zero28 : List AV := [.int .i64 0, .int .i64 0, .int .i64 0, .int .i64 0]
@[go_sem] theorem ai3 : allocInfo Try.prog (3 : Nat) = some [.int .i64 0] := by kernel_rfl
@[go_sem] theorem ai28 : allocInfo Try.prog (28 : Nat) = some zero28 := by kernel_rfl
@[go_sem] theorem ai30 : allocInfo Try.prog (30 : Nat) = some zero30 := by kernel_rfl
@[go_sem] theorem ai45 : allocInfo Try.prog (45 : Nat) = some [.nilmap] := by kernel_rfl
@[go_sem] theorem bi28 : buildInfo Try.prog (28 : Nat) = some (zero28, [(0, 1), (1, 1), (2, 1), (3, 1)]) := by kernel_rfl
@[go_sem] theorem bi30 : buildInfo Try.prog (30 : Nat) = some (zero30, [(0, 1), (1, 4), (5, 1), (6, 1)]) := by kernel_rfl
@[go_sem] theorem mk45 : mapKey Try.prog (45 : Nat) = some (.int .i64 0) := by kernel_rfl
@[go_sem] theorem mz45 : mapZero Try.prog (45 : Nat) = some (.bool false) := by kernel_rfl
@[go_sem] theorem len_zero30 : zero30.length = 7 := rfl
@[go_sem] theorem len_zero28 : zero28.length = 4 := rfl
theorem mixed : Try.prog.follows .mixedOrders = true := by kernel_rfl
/-! ### cells -/
inductive T where
  | node (k x y w h id : Int) (kids : List T)
mutual
def encT : T → AV
  | .node k x y w h i ks => .agg [.int .u8 k, .int .i64 x, .int .i64 y, .int .i64 w, .int .i64 h, .int .i64 i, .slice 7 (encTs ks)]
def encTs : List T → List AV
  | [] => []
  | t :: ts => encT t :: encTs ts
end
theorem encTs_eq : ∀ l : List T, encTs l = l.map encT
  | [] => rfl
  | t :: ts => by simp [encTs, encTs_eq ts]
def cellsT : T → List AV
  | .node k x y w h i ks => [.int .u8 k, .int .i64 x, .int .i64 y, .int .i64 w, .int .i64 h, .int .i64 i, .slice 7 (ks.map encT)]
theorem encT_cells (t : T) : encT t = .agg (cellsT t) := by cases t; simp [encT, cellsT, encTs_eq]
@[go_sem] theorem fold_T (t : T) : AV.agg (cellsT t) = encT t := (encT_cells t).symm
@[go_sem] theorem elem_T {t : T} {kl : List AV → Prop} {z} : Run (elemCells (encT t) kl) z = kl (cellsT t) := by show elemCells (encT t) kl = _; rw [encT_cells]; rfl
@[go_sem] theorem len_T (t : T) : (cellsT t).length = 7 := by cases t; rfl
@[go_sem] theorem take_T (t : T) : (cellsT t).take 7 = cellsT t := by cases t; rfl
@[go_sem] theorem one_T (t : T) : (cellsT t).all AV.one = true := by cases t; rfl
@[go_sem] theorem setC_T (t : T) : setC zero30 0 (cellsT t) = cellsT t := by cases t; rfl
@[go_sem] theorem width_T (t : T) : (encT t).width = some 7 := by cases t; rfl
@[go_sem] theorem cellsOne_T (t : T) : (encT t).cellsOne = true := by cases t; rfl
mutual
@[go_sem] theorem pure_T : ∀ t : T, (encT t).pureB = true
  | .node k x y w h i ks => by simp [encT, AV.pureB, pureAll]
theorem pure_Ts : ∀ l : List T, pureAll (encTs l) = true
  | [] => rfl
  | t :: ts => by simp [encTs, pureAll, pure_T t, pure_Ts ts]
end
def T.kids : T → List T
  | .node _ _ _ _ _ _ ks => ks
def T.kind : T → Int
  | .node k _ _ _ _ _ _ => k
def T.id : T → Int
  | .node _ _ _ _ _ i _ => i
@[go_sem] theorem drop6_T (t : T) : (cellsT t).drop 6 = [.slice 7 (t.kids.map encT)] := by cases t; rfl
@[go_sem] theorem drop5_T (t : T) : (cellsT t).drop 5 = [.int .i64 t.id, .slice 7 (t.kids.map encT)] := by cases t; rfl
theorem drop0_T (t : T) : (cellsT t) = .int .u8 t.kind :: (cellsT t).tail := by cases t; rfl
end Go.Sim

set_option linter.unusedVariables false
set_option linter.unusedSimpArgs false
namespace Go.Sim
open Go.Proofs
@[go_sem] theorem ld0_T {t : T} {n : Nat} {k : AV → Prop} {z} : Run (ldCells (some (false, n)) (cellsT t) k) z = k (.int .u8 t.kind) := by cases t; rfl
mutual
def sizeT : T → Nat
  | .node _ _ _ _ _ _ ks => sizeL ks + 1
def sizeL : List T → Nat
  | [] => 0
  | t :: ts => sizeT t + sizeL ts
end
theorem sizeT_eq (t : T) : sizeT t = sizeL t.kids + 1 := by cases t; rfl
theorem sizeL_append : ∀ a b : List T, sizeL (a ++ b) = sizeL a + sizeL b
  | [], b => by simp [sizeL]
  | t :: a, b => by simp [sizeL, sizeL_append a b]; omega
theorem sizeL_take (l : List T) (i : Nat) : sizeL (l.take i) ≤ sizeL l := by
  have := sizeL_append (l.take i) (l.drop i)
  rw [List.take_append_drop] at this; omega
theorem sizeL_mem {t : T} : ∀ {l : List T}, t ∈ l → sizeT t ≤ sizeL l
  | a :: l, h => by
    rcases List.mem_cons.1 h with rfl | h
    · simp [sizeL]
    · have := sizeL_mem h; simp [sizeL]; omega
theorem length_sizeL : ∀ l : List T, l.length ≤ sizeL l
  | [] => by simp
  | t :: l => by have := length_sizeL l; have := sizeT_eq t; simp [sizeL]; omega
/-! counting up to a bound -/
mutual
def cntT (n : Int) : T → Int
  | .node _ _ _ _ _ _ ks => cntL n 1 ks
def cntL (n : Int) : Int → List T → Int
  | tot, [] => tot
  | tot, t :: ts => if tot > n then tot else cntL n (tot + cntT n t) ts
end
theorem cntT_eq (n : Int) (t : T) : cntT n t = cntL n 1 t.kids := by cases t; rfl
mutual
theorem cntT_bound (n : Int) : ∀ t : T, 1 ≤ cntT n t ∧ cntT n t ≤ sizeT t
  | .node _ _ _ _ _ _ ks => by
    have := cntL_bound n ks 1
    simp only [cntT, sizeT]; omega
theorem cntL_bound (n : Int) : ∀ (l : List T) (tot : Int), tot ≤ cntL n tot l ∧ cntL n tot l ≤ tot + sizeL l
  | [], tot => by simp [cntL, sizeL]
  | t :: ts, tot => by
    have h1 := cntT_bound n t
    have h2 := cntL_bound n ts (tot + cntT n t)
    simp only [cntL, sizeL]
    split <;> omega
end
/-- the total before the i-th kid, if none was too much -/
def sumC (n : Int) (l : List T) : Int := 1 + (l.map (cntT n)).sum
theorem sumC_bound (n : Int) (l : List T) : 1 ≤ sumC n l ∧ sumC n l ≤ 1 + sizeL l := by
  unfold sumC
  induction l with
  | nil => simp [sizeL]
  | cons t l ih => have := cntT_bound n t; simp [sizeL] at ih ⊢; omega
theorem cntL_all (n : Int) : ∀ (l : List T) (tot : Int), (∀ i, i < l.length → tot + ((l.take i).map (cntT n)).sum ≤ n) → cntL n tot l = tot + (l.map (cntT n)).sum
  | [], tot, _ => by simp [cntL]
  | t :: ts, tot, h => by
    have h0 := h 0 (by simp)
    simp at h0
    rw [cntL, if_neg (by omega), cntL_all n ts _ (fun i hi => by have := h (i + 1) (by simpa using hi); simp only [List.take_succ_cons, List.map_cons, List.sum_cons] at this; omega)]
    simp; omega
theorem cntL_stop (n : Int) : ∀ (l : List T) (tot : Int) (i : Nat), i < l.length → (∀ j, j < i → tot + ((l.take j).map (cntT n)).sum ≤ n) → tot + ((l.take i).map (cntT n)).sum > n → cntL n tot l = tot + ((l.take i).map (cntT n)).sum
  | t :: ts, tot, 0, _, _, h => by simp at h; simp [cntL, h]
  | t :: ts, tot, i + 1, hi, h1, h2 => by
    have h0 := h1 0 (by omega)
    simp at h0
    rw [cntL, if_neg (by omega), cntL_stop n ts _ i (by simpa using hi) (fun j hj => by have := h1 (j + 1) (by omega); simp only [List.take_succ_cons, List.map_cons, List.sum_cons] at this; omega) (by simp only [List.take_succ_cons, List.map_cons, List.sum_cons] at h2; omega)]
    simp only [List.take_succ_cons, List.map_cons, List.sum_cons]; omega
theorem sum_take_succ {α : Type} (f : α → Int) (l : List α) {i : Nat} (h : i < l.length) : ((l.take (i + 1)).map f).sum = ((l.take i).map f).sum + f l[i] := by
  rw [List.take_succ_eq_append_getElem h, List.map_append, List.sum_append]; simp
set_option maxRecDepth 100000 in
theorem countStep (n : Int) (hn : 0 ≤ n ∧ n < 2 ^ 40) (t : T) (hs : sizeT t < 2 ^ 40) (ih : ∀ u ∈ t.kids, PureFn Try.prog 18 [encT u, .int .i64 n] (.ret (.int .i64 (cntT n u)))) :
    PureFn Try.prog 18 [encT t, .int .i64 n] (.ret (.int .i64 (cntT n t))) := by
  refine PureFn.start (rs := [.tmp 4]) Try.func18 rfl rfl rfl (Nat.le_of_ble_eq_true rfl) (by decide) allLit ?_
  have hlen := length_sizeL t.kids
  have hst := sizeT_eq t
  simp -dsimp -implicitDefEqProofs +contextual (disch := omega) only [go_sem, ↓reduceIte, Nat.reduceEqDiff, Nat.reduceAdd, List.length_map, List.length_append, Int.toNat_natCast, Int.ofNat_lt, Int.natCast_nonneg, Nat.le_refl, Nat.zero_add, Nat.reduceLeDiff, Nat.reduceMul, Nat.reduceLT, Nat.reduceSub, true_or, or_true, Nat.add_zero, Int.reduceLT, Int.reduceLE, Int.reduceNeg]
  refine loop_intro (ι := Nat) (fun i => ⟨[(1, .int .i64 n), (2, .ptr 0 0), (5, .int .i64 (sumC n (t.kids.take i))), (9, .int .i64 t.kids.length), (10, .int .i64 i)], _⟩) (fun i => i ≤ t.kids.length ∧ ∀ j, j < i → sumC n (t.kids.take j) ≤ n) (fun i => t.kids.length - i) 0 ⟨Nat.zero_le _, fun j hj => by omega⟩ (Sub.env ?_) ?_
  · simp -dsimp -implicitDefEqProofs +contextual (disch := omega) only [go_sem, ↓reduceIte, Nat.reduceEqDiff, Nat.reduceAdd, List.length_map, List.length_append, Int.toNat_natCast, Int.ofNat_lt, Int.natCast_nonneg, Nat.le_refl, Nat.zero_add, Nat.reduceLeDiff, Nat.reduceMul, Nat.reduceLT, Nat.reduceSub, true_or, or_true, Nat.add_zero, Int.reduceLT, Int.reduceLE, Int.reduceNeg]
    simp [sumC]
  · rintro i ⟨hi, hj⟩
    have hb := sumC_bound n (t.kids.take i)
    have hb2 := sizeL_take t.kids i
    simp -dsimp -implicitDefEqProofs +contextual (disch := omega) only [go_sem, ↓reduceIte, Nat.reduceEqDiff, Nat.reduceAdd, List.length_map, List.length_append, Int.toNat_natCast, Int.ofNat_lt, Int.natCast_nonneg, Nat.le_refl, Nat.zero_add, Nat.reduceLeDiff, Nat.reduceMul, Nat.reduceLT, Nat.reduceSub, true_or, or_true, Nat.add_zero, Int.reduceLT, Int.reduceLE, Int.reduceNeg]
    refine ⟨fun hlt => ⟨fun hc => ?_, fun hc => ?_⟩, fun hge => ?_⟩
    · rw [cntT_eq, cntL_stop n t.kids 1 i hlt hj hc]; rfl
    · refine use_call (ih _ (List.getElem_mem _)) (by simp [pureAll, pure_T]; rfl) ?_
      have hm := sum_take_succ (cntT n) t.kids hlt
      have hbt := cntT_bound n t.kids[i]
      have hst := sizeL_mem (List.getElem_mem hlt)
      simp -dsimp -implicitDefEqProofs +contextual (disch := omega) only [go_sem, ↓reduceIte, Nat.reduceEqDiff, Nat.reduceAdd, List.length_map, List.length_append, Int.toNat_natCast, Int.ofNat_lt, Int.natCast_nonneg, Nat.le_refl, Nat.zero_add, Nat.reduceLeDiff, Nat.reduceMul, Nat.reduceLT, Nat.reduceSub, true_or, or_true, Nat.add_zero, Int.reduceLT, Int.reduceLE, Int.reduceNeg]
      refine loop_next (i + 1) ⟨by omega, fun j hj' => ?_⟩ (by omega) (Sub.env ?_)
      · rcases Nat.lt_or_ge j i with h | h
        · exact hj j h
        · have : j = i := by omega
          subst this; omega
      · simp -dsimp -implicitDefEqProofs +contextual (disch := omega) only [go_sem, ↓reduceIte, Nat.reduceEqDiff, Nat.reduceAdd, List.length_map, List.length_append, Int.toNat_natCast, Int.ofNat_lt, Int.natCast_nonneg, Nat.le_refl, Nat.zero_add, Nat.reduceLeDiff, Nat.reduceMul, Nat.reduceLT, Nat.reduceSub, true_or, or_true, Nat.add_zero, Int.reduceLT, Int.reduceLE, Int.reduceNeg]
        simp only [sumC, hm, AV.int.injEq, true_and, and_true]; omega
    · have e : i = t.kids.length := by omega
      subst e
      rw [cntT_eq, cntL_all n t.kids 1 hj]
      simp [sumC]

theorem countFn (n : Int) (hn : 0 ≤ n ∧ n < 2 ^ 40) : ∀ (m : Nat) (t : T), sizeT t < m → sizeT t < 2 ^ 40 → PureFn Try.prog 18 [encT t, .int .i64 n] (.ret (.int .i64 (cntT n t)))
  | 0, t, h, _ => by omega
  | m + 1, t, h, hs => countStep n hn t hs fun u hu => by
    have h1 := sizeL_mem hu
    have h2 := sizeT_eq t
    exact countFn n hn m u (by omega) (by omega)
def greatT (t : T) : Bool := decide (cntT 200 t > 200)
set_option maxRecDepth 100000 in
theorem greatFn (t : T) (hs : sizeT t < 2 ^ 40) : PureFn Try.prog 13 [encT t] (.ret (.bool (greatT t))) := by
  refine PureFn.start (rs := [.tmp 2]) Try.func13 rfl rfl rfl (Nat.le_of_ble_eq_true rfl) (by decide) allLit ?_
  simp -dsimp -implicitDefEqProofs +contextual (disch := omega) only [go_sem, ↓reduceIte, Nat.reduceEqDiff, Nat.reduceAdd, List.length_map, List.length_append, Int.toNat_natCast, Int.ofNat_lt, Int.natCast_nonneg, Nat.le_refl, Nat.zero_add, Nat.reduceLeDiff, Nat.reduceMul, Nat.reduceLT, Nat.reduceSub, true_or, or_true, Nat.add_zero, Int.reduceLT, Int.reduceLE, Int.reduceNeg]
  refine use_call (countFn 200 (by omega) _ t (Nat.lt_succ_self _) hs) (by simp [pureAll, pure_T]; rfl) ?_
  simp -dsimp -implicitDefEqProofs +contextual (disch := omega) only [go_sem, ↓reduceIte, Nat.reduceEqDiff, Nat.reduceAdd, List.length_map, List.length_append, Int.toNat_natCast, Int.ofNat_lt, Int.natCast_nonneg, Nat.le_refl, Nat.zero_add, Nat.reduceLeDiff, Nat.reduceMul, Nat.reduceLT, Nat.reduceSub, true_or, or_true, Nat.add_zero, Int.reduceLT, Int.reduceLE, Int.reduceNeg]
  rfl
def greatAllT (ts : List T) : Bool := decide (ts.length > 20) || ts.any greatT
set_option maxRecDepth 100000 in
theorem greatAllFn (ts : List T) (hs : sizeL ts < 2 ^ 40) : PureFn Try.prog 4 [.slice 7 (ts.map encT)] (.ret (.bool (greatAllT ts))) := by
  refine PureFn.start (rs := [.tmp 2]) Try.func4 rfl rfl rfl (Nat.le_of_ble_eq_true rfl) (by decide) allLit ?_
  have hlen := length_sizeL ts
  simp -dsimp -implicitDefEqProofs +contextual (disch := omega) only [go_sem, ↓reduceIte, Nat.reduceEqDiff, Nat.reduceAdd, List.length_map, List.length_append, Int.toNat_natCast, Int.ofNat_lt, Int.natCast_nonneg, Nat.le_refl, Nat.zero_add, Nat.reduceLeDiff, Nat.reduceMul, Nat.reduceLT, Nat.reduceSub, true_or, or_true, Nat.add_zero, Int.reduceLT, Int.reduceLE, Int.reduceNeg]
  refine ⟨fun h => ?_, fun h => ?_⟩
  · simp [greatAllT]; omega
  · refine loop_intro (ι := Nat) (fun i => ⟨[(0, .slice 7 (ts.map encT)), (2, .bool false), (8, .int .i64 ts.length), (9, .int .i64 i)], _⟩) (fun i => i ≤ ts.length ∧ ∀ t ∈ ts.take i, greatT t = false) (fun i => ts.length - i) 0 ⟨Nat.zero_le _, by simp⟩ (Sub.env ?_) ?_
    · simp -dsimp -implicitDefEqProofs +contextual (disch := omega) only [go_sem, ↓reduceIte, Nat.reduceEqDiff, Nat.reduceAdd, List.length_map, List.length_append, Int.toNat_natCast, Int.ofNat_lt, Int.natCast_nonneg, Nat.le_refl, Nat.zero_add, Nat.reduceLeDiff, Nat.reduceMul, Nat.reduceLT, Nat.reduceSub, true_or, or_true, Nat.add_zero, Int.reduceLT, Int.reduceLE, Int.reduceNeg]
      simp
    · rintro i ⟨hi, hj⟩
      simp -dsimp -implicitDefEqProofs +contextual (disch := omega) only [go_sem, ↓reduceIte, Nat.reduceEqDiff, Nat.reduceAdd, List.length_map, List.length_append, Int.toNat_natCast, Int.ofNat_lt, Int.natCast_nonneg, Nat.le_refl, Nat.zero_add, Nat.reduceLeDiff, Nat.reduceMul, Nat.reduceLT, Nat.reduceSub, true_or, or_true, Nat.add_zero, Int.reduceLT, Int.reduceLE, Int.reduceNeg]
      refine ⟨fun hlt => ?_, fun hge => ?_⟩
      · have hst := sizeL_mem (List.getElem_mem hlt)
        refine use_call (greatFn _ (by omega)) (by simp [pureAll, pure_T]) ?_
        simp -dsimp -implicitDefEqProofs +contextual (disch := omega) only [go_sem, ↓reduceIte, Nat.reduceEqDiff, Nat.reduceAdd, List.length_map, List.length_append, Int.toNat_natCast, Int.ofNat_lt, Int.natCast_nonneg, Nat.le_refl, Nat.zero_add, Nat.reduceLeDiff, Nat.reduceMul, Nat.reduceLT, Nat.reduceSub, true_or, or_true, Nat.add_zero, Int.reduceLT, Int.reduceLE, Int.reduceNeg]
        refine ⟨fun hg => ?_, fun hg => ?_⟩
        · simp only [greatAllT]
          have : ts.any greatT = true := List.any_eq_true.2 ⟨_, List.getElem_mem hlt, hg⟩
          simp [this]
        · refine loop_next (i + 1) ⟨by omega, fun t ht => ?_⟩ (by omega) (Sub.env ?_)
          · rw [List.take_succ_eq_append_getElem hlt] at ht
            rcases List.mem_append.1 ht with h1 | h1
            · exact hj t h1
            · simp at h1; subst h1; exact hg
          · simp -dsimp -implicitDefEqProofs +contextual (disch := omega) only [go_sem, ↓reduceIte, Nat.reduceEqDiff, Nat.reduceAdd, List.length_map, List.length_append, Int.toNat_natCast, Int.ofNat_lt, Int.natCast_nonneg, Nat.le_refl, Nat.zero_add, Nat.reduceLeDiff, Nat.reduceMul, Nat.reduceLT, Nat.reduceSub, true_or, or_true, Nat.add_zero, Int.reduceLT, Int.reduceLE, Int.reduceNeg]
            simp
      · have e : i = ts.length := by omega
        subst e
        have : ts.any greatT = false := by
          rw [List.any_eq_false]
          intro t ht
          have := hj t (by rw [List.take_length]; exact ht)
          simp [this]
        simp only [greatAllT, this]
        simp; omega
end Go.Sim

set_option linter.unusedVariables false
set_option linter.unusedSimpArgs false
namespace Go.Sim
open Go.Proofs
@[go_sem] theorem lt_cells (k : Nat) (t : T) : AV.ltAll k (cellsT t) = true := by cases t; simp [cellsT, AV.ltAll, AV.lt]
@[go_sem] theorem lt_T (k : Nat) (t : T) : (encT t).lt k = true := by rw [encT_cells]; exact lt_cells k t
/-! depth -/
mutual
def depthT : T → Int
  | .node _ _ _ _ _ _ ks => maxD 0 ks + 1
def maxD : Int → List T → Int
  | m, [] => m
  | m, t :: ts => maxD (if depthT t > m then depthT t else m) ts
end
theorem depthT_eq (t : T) : depthT t = maxD 0 t.kids + 1 := by cases t; rfl
theorem maxD_snoc : ∀ (l : List T) (m : Int) (t : T), maxD m (l ++ [t]) = if depthT t > maxD m l then depthT t else maxD m l
  | [], m, t => rfl
  | a :: l, m, t => by simp only [List.cons_append, maxD]; exact maxD_snoc l _ t
mutual
theorem depthT_bound : ∀ t : T, 0 ≤ depthT t ∧ depthT t ≤ sizeT t
  | .node _ _ _ _ _ _ ks => by
    have := maxD_bound ks 0 (by omega)
    simp only [depthT, sizeT]; omega
theorem maxD_bound : ∀ (l : List T) (m : Int), 0 ≤ m → 0 ≤ maxD m l ∧ maxD m l ≤ m + sizeL l
  | [], m, h => by simp [maxD, sizeL, h]
  | t :: ts, m, h => by
    have h1 := depthT_bound t
    simp only [maxD, sizeL]
    by_cases hc : depthT t > m
    · have h2 := maxD_bound ts (depthT t) (by omega)
      rw [if_pos hc]; omega
    · have h2 := maxD_bound ts m (by omega)
      rw [if_neg hc]; omega
end
set_option maxRecDepth 100000 in
theorem depthStep9 (t : T) (hs : sizeT t < 2 ^ 40) (ih : ∀ u ∈ t.kids, PureFn Try.prog 9 [encT u] (.ret (.int .i64 (depthT u)))) : PureFn Try.prog 9 [encT t] (.ret (.int .i64 (depthT t))) := by
  refine PureFn.start (rs := [.tmp 2]) Try.func9 rfl rfl rfl (Nat.le_of_ble_eq_true rfl) (by decide) allLit ?_
  have hlen := length_sizeL t.kids
  have hst := sizeT_eq t
  simp -dsimp -implicitDefEqProofs +contextual (disch := omega) only [go_sem, ↓reduceIte, Nat.reduceEqDiff, Nat.reduceAdd, List.length_map, List.length_append, Int.toNat_natCast, Int.ofNat_lt, Int.natCast_nonneg, Nat.le_refl, Nat.zero_add, Nat.reduceLeDiff, Nat.reduceMul, Nat.reduceLT, Nat.reduceSub, true_or, or_true, Nat.add_zero, Int.reduceLT, Int.reduceLE, Int.reduceNeg]
  refine loop_intro (ι := Nat) (fun i => ⟨[(1, .ptr 0 0), (2, .int .i64 0), (3, .int .i64 (maxD 0 (t.kids.take i))), (7, .slice 7 (t.kids.map encT)), (8, .int .i64 t.kids.length), (9, .int .i64 i)], _⟩) (fun i => i ≤ t.kids.length) (fun i => t.kids.length - i) 0 (Nat.zero_le _) (Sub.env ?_) ?_
  · simp -dsimp -implicitDefEqProofs +contextual (disch := omega) only [go_sem, ↓reduceIte, Nat.reduceEqDiff, Nat.reduceAdd, List.length_map, List.length_append, Int.toNat_natCast, Int.ofNat_lt, Int.natCast_nonneg, Nat.le_refl, Nat.zero_add, Nat.reduceLeDiff, Nat.reduceMul, Nat.reduceLT, Nat.reduceSub, true_or, or_true, Nat.add_zero, Int.reduceLT, Int.reduceLE, Int.reduceNeg]
    simp [maxD]
  · intro i hi
    have hd1 := maxD_bound (t.kids.take i) 0 (by omega)
    have hd2 := sizeL_take t.kids i
    simp -dsimp -implicitDefEqProofs +contextual (disch := omega) only [go_sem, ↓reduceIte, Nat.reduceEqDiff, Nat.reduceAdd, List.length_map, List.length_append, Int.toNat_natCast, Int.ofNat_lt, Int.natCast_nonneg, Nat.le_refl, Nat.zero_add, Nat.reduceLeDiff, Nat.reduceMul, Nat.reduceLT, Nat.reduceSub, true_or, or_true, Nat.add_zero, Int.reduceLT, Int.reduceLE, Int.reduceNeg]
    refine ⟨fun hlt => ?_, fun hge => ?_⟩
    · refine use_call (ih _ (List.getElem_mem _)) (by simp [pureAll, pure_T]) ?_
      have hm := maxD_snoc (t.kids.take i) 0 (t.kids[i])
      rw [← List.take_succ_eq_append_getElem hlt] at hm
      simp -dsimp -implicitDefEqProofs +contextual (disch := omega) only [go_sem, ↓reduceIte, Nat.reduceEqDiff, Nat.reduceAdd, List.length_map, List.length_append, Int.toNat_natCast, Int.ofNat_lt, Int.natCast_nonneg, Nat.le_refl, Nat.zero_add, Nat.reduceLeDiff, Nat.reduceMul, Nat.reduceLT, Nat.reduceSub, true_or, or_true, Nat.add_zero, Int.reduceLT, Int.reduceLE, Int.reduceNeg]
      refine ⟨fun hc => ?_, fun hc => ?_⟩
      · refine loop_next (i + 1) (by omega) (by omega) (Sub.env ?_)
        simp -dsimp -implicitDefEqProofs +contextual (disch := omega) only [go_sem, ↓reduceIte, Nat.reduceEqDiff, Nat.reduceAdd, List.length_map, List.length_append, Int.toNat_natCast, Int.ofNat_lt, Int.natCast_nonneg, Nat.le_refl, Nat.zero_add, Nat.reduceLeDiff, Nat.reduceMul, Nat.reduceLT, Nat.reduceSub, true_or, or_true, Nat.add_zero, Int.reduceLT, Int.reduceLE, Int.reduceNeg]
        simp [hm]; omega
      · refine loop_next (i + 1) (by omega) (by omega) (Sub.env ?_)
        simp -dsimp -implicitDefEqProofs +contextual (disch := omega) only [go_sem, ↓reduceIte, Nat.reduceEqDiff, Nat.reduceAdd, List.length_map, List.length_append, Int.toNat_natCast, Int.ofNat_lt, Int.natCast_nonneg, Nat.le_refl, Nat.zero_add, Nat.reduceLeDiff, Nat.reduceMul, Nat.reduceLT, Nat.reduceSub, true_or, or_true, Nat.add_zero, Int.reduceLT, Int.reduceLE, Int.reduceNeg]
        simp [hm]; omega
    · have e : i = t.kids.length := by omega
      subst e
      simp [depthT_eq]
theorem depthFn9 : ∀ (m : Nat) (t : T), sizeT t < m → sizeT t < 2 ^ 40 → PureFn Try.prog 9 [encT t] (.ret (.int .i64 (depthT t)))
  | 0, t, h, _ => by omega
  | m + 1, t, h, hs => depthStep9 t hs fun u hu => by
    have h1 := sizeL_mem hu
    have h2 := sizeT_eq t
    exact depthFn9 m u (by omega) (by omega)
set_option maxRecDepth 100000 in
theorem depthStep8 (t : T) (hs : sizeT t < 2 ^ 40) (ih : ∀ u ∈ t.kids, PureFn Try.prog 8 [encT u] (.ret (.int .i64 (depthT u)))) : PureFn Try.prog 8 [encT t] (.ret (.int .i64 (depthT t))) := by
  refine PureFn.start (rs := [.tmp 2]) Try.func8 rfl rfl rfl (Nat.le_of_ble_eq_true rfl) (by decide) allLit ?_
  have hlen := length_sizeL t.kids
  have hst := sizeT_eq t
  simp -dsimp -implicitDefEqProofs +contextual (disch := omega) only [go_sem, ↓reduceIte, Nat.reduceEqDiff, Nat.reduceAdd, List.length_map, List.length_append, Int.toNat_natCast, Int.ofNat_lt, Int.natCast_nonneg, Nat.le_refl, Nat.zero_add, Nat.reduceLeDiff, Nat.reduceMul, Nat.reduceLT, Nat.reduceSub, true_or, or_true, Nat.add_zero, Int.reduceLT, Int.reduceLE, Int.reduceNeg]
  refine loop_intro (ι := Nat) (fun i => ⟨[(1, .ptr 0 0), (2, .int .i64 0), (3, .int .i64 (maxD 0 (t.kids.take i))), (7, .slice 7 (t.kids.map encT)), (8, .int .i64 t.kids.length), (9, .int .i64 i)], _⟩) (fun i => i ≤ t.kids.length) (fun i => t.kids.length - i) 0 (Nat.zero_le _) (Sub.env ?_) ?_
  · simp -dsimp -implicitDefEqProofs +contextual (disch := omega) only [go_sem, ↓reduceIte, Nat.reduceEqDiff, Nat.reduceAdd, List.length_map, List.length_append, Int.toNat_natCast, Int.ofNat_lt, Int.natCast_nonneg, Nat.le_refl, Nat.zero_add, Nat.reduceLeDiff, Nat.reduceMul, Nat.reduceLT, Nat.reduceSub, true_or, or_true, Nat.add_zero, Int.reduceLT, Int.reduceLE, Int.reduceNeg]
    simp [maxD]
  · intro i hi
    have hd1 := maxD_bound (t.kids.take i) 0 (by omega)
    have hd2 := sizeL_take t.kids i
    simp -dsimp -implicitDefEqProofs +contextual (disch := omega) only [go_sem, ↓reduceIte, Nat.reduceEqDiff, Nat.reduceAdd, List.length_map, List.length_append, Int.toNat_natCast, Int.ofNat_lt, Int.natCast_nonneg, Nat.le_refl, Nat.zero_add, Nat.reduceLeDiff, Nat.reduceMul, Nat.reduceLT, Nat.reduceSub, true_or, or_true, Nat.add_zero, Int.reduceLT, Int.reduceLE, Int.reduceNeg]
    refine ⟨fun hlt => ?_, fun hge => ?_⟩
    · refine use_call (ih _ (List.getElem_mem _)) (by simp [pureAll, pure_T]) ?_
      have hm := maxD_snoc (t.kids.take i) 0 (t.kids[i])
      rw [← List.take_succ_eq_append_getElem hlt] at hm
      simp -dsimp -implicitDefEqProofs +contextual (disch := omega) only [go_sem, ↓reduceIte, Nat.reduceEqDiff, Nat.reduceAdd, List.length_map, List.length_append, Int.toNat_natCast, Int.ofNat_lt, Int.natCast_nonneg, Nat.le_refl, Nat.zero_add, Nat.reduceLeDiff, Nat.reduceMul, Nat.reduceLT, Nat.reduceSub, true_or, or_true, Nat.add_zero, Int.reduceLT, Int.reduceLE, Int.reduceNeg]
      refine loop_next (i + 1) (by omega) (by omega) (Sub.trunc (k := 1) (by omega) (by simp) (by simp) (by simp [objLt, AV.ltAll, AV.lt, lt_cells]) ?_)
      simp -dsimp -implicitDefEqProofs +contextual (disch := omega) only [go_sem, ↓reduceIte, Nat.reduceEqDiff, Nat.reduceAdd, List.length_map, List.length_append, Int.toNat_natCast, Int.ofNat_lt, Int.natCast_nonneg, Nat.le_refl, Nat.zero_add, Nat.reduceLeDiff, Nat.reduceMul, Nat.reduceLT, Nat.reduceSub, true_or, or_true, Nat.add_zero, Int.reduceLT, Int.reduceLE, Int.reduceNeg]
      simp [hm, AV.lt]
    · have e : i = t.kids.length := by omega
      subst e
      simp [depthT_eq]
theorem depthFn8 : ∀ (m : Nat) (t : T), sizeT t < m → sizeT t < 2 ^ 40 → PureFn Try.prog 8 [encT t] (.ret (.int .i64 (depthT t)))
  | 0, t, h, _ => by omega
  | m + 1, t, h, hs => depthStep8 t hs fun u hu => by
    have h1 := sizeL_mem hu
    have h2 := sizeT_eq t
    exact depthFn8 m u (by omega) (by omega)
/-! how many cells -/
def sumK (l : List T) : Nat := (l.map fun t => sizeL t.kids).sum
theorem sizeL_sum : ∀ l : List T, sizeL l = l.length + sumK l
  | [] => rfl
  | t :: l => by have := sizeL_sum l; have := sizeT_eq t; simp [sizeL, sumK] at *; omega
theorem sumK_succ (l : List T) {i : Nat} (h : i < l.length) : sumK (l.take (i + 1)) = sumK (l.take i) + sizeL l[i].kids := by
  unfold sumK
  rw [List.take_succ_eq_append_getElem h, List.map_append, List.sum_append]; simp
theorem sumK_take (l : List T) (i : Nat) : sumK (l.take i) ≤ sizeL l := by
  have h1 := sizeL_sum (l.take i)
  have h2 := sizeL_take l i
  omega
set_option maxRecDepth 100000 in
theorem sizeStep (ks : List T) (hs : sizeL ks < 2 ^ 40) (ih : ∀ t ∈ ks, PureFn Try.prog 10 [.slice 7 (t.kids.map encT)] (.ret (.int .i64 (sizeL t.kids)))) :
    PureFn Try.prog 10 [.slice 7 (ks.map encT)] (.ret (.int .i64 (sizeL ks))) := by
  refine PureFn.start (rs := [.tmp 2]) Try.func10 rfl rfl rfl (Nat.le_of_ble_eq_true rfl) (by decide) allLit ?_
  have hsum := sizeL_sum ks
  simp -dsimp -implicitDefEqProofs +contextual (disch := omega) only [go_sem, ↓reduceIte, Nat.reduceEqDiff, Nat.reduceAdd, List.length_map, List.length_append, Int.toNat_natCast, Int.ofNat_lt, Int.natCast_nonneg, Nat.le_refl, Nat.zero_add, Nat.reduceLeDiff, Nat.reduceMul, Nat.reduceLT, Nat.reduceSub, true_or, or_true, Nat.add_zero, Int.reduceLT, Int.reduceLE, Int.reduceNeg]
  refine loop_intro (ι := Nat) (fun i => ⟨[(2, .int .i64 0), (3, .int .i64 (ks.length + sumK (ks.take i) : Nat)), (8, .slice 7 (ks.map encT)), (9, .int .i64 ks.length), (10, .int .i64 i)], []⟩) (fun i => i ≤ ks.length) (fun i => ks.length - i) 0 (Nat.zero_le _) (Sub.env ?_) ?_
  · simp -dsimp -implicitDefEqProofs +contextual (disch := omega) only [go_sem, ↓reduceIte, Nat.reduceEqDiff, Nat.reduceAdd, List.length_map, List.length_append, Int.toNat_natCast, Int.ofNat_lt, Int.natCast_nonneg, Nat.le_refl, Nat.zero_add, Nat.reduceLeDiff, Nat.reduceMul, Nat.reduceLT, Nat.reduceSub, true_or, or_true, Nat.add_zero, Int.reduceLT, Int.reduceLE, Int.reduceNeg]
    simp [sumK]
  · intro i hi
    have hd1 := sumK_take ks i
    simp -dsimp -implicitDefEqProofs +contextual (disch := omega) only [go_sem, ↓reduceIte, Nat.reduceEqDiff, Nat.reduceAdd, List.length_map, List.length_append, Int.toNat_natCast, Int.ofNat_lt, Int.natCast_nonneg, Nat.le_refl, Nat.zero_add, Nat.reduceLeDiff, Nat.reduceMul, Nat.reduceLT, Nat.reduceSub, true_or, or_true, Nat.add_zero, Int.reduceLT, Int.reduceLE, Int.reduceNeg]
    refine ⟨fun hlt => ?_, fun hge => ?_⟩
    · refine use_call (ih _ (List.getElem_mem _)) (by simp [pureAll, AV.pureB]) ?_
      have hm := sumK_succ ks hlt
      have hd2 := sumK_take ks (i + 1)
      simp -dsimp -implicitDefEqProofs +contextual (disch := omega) only [go_sem, ↓reduceIte, Nat.reduceEqDiff, Nat.reduceAdd, List.length_map, List.length_append, Int.toNat_natCast, Int.ofNat_lt, Int.natCast_nonneg, Nat.le_refl, Nat.zero_add, Nat.reduceLeDiff, Nat.reduceMul, Nat.reduceLT, Nat.reduceSub, true_or, or_true, Nat.add_zero, Int.reduceLT, Int.reduceLE, Int.reduceNeg]
      refine loop_next (i + 1) (by omega) (by omega) (Sub.trunc (k := 0) (by omega) (by simp) (by simp) (by simp [objLt, AV.ltAll, AV.lt, lt_cells]) ?_)
      simp -dsimp -implicitDefEqProofs +contextual (disch := omega) only [go_sem, ↓reduceIte, Nat.reduceEqDiff, Nat.reduceAdd, List.length_map, List.length_append, Int.toNat_natCast, Int.ofNat_lt, Int.natCast_nonneg, Nat.le_refl, Nat.zero_add, Nat.reduceLeDiff, Nat.reduceMul, Nat.reduceLT, Nat.reduceSub, true_or, or_true, Nat.add_zero, Int.reduceLT, Int.reduceLE, Int.reduceNeg]
      simp [hm, AV.lt]; omega
    · have e : i = ks.length := by omega
      subst e
      simp [hsum]
theorem sizeFn : ∀ (m : Nat) (ks : List T), sizeL ks < m → sizeL ks < 2 ^ 40 → PureFn Try.prog 10 [.slice 7 (ks.map encT)] (.ret (.int .i64 (sizeL ks)))
  | 0, t, h, _ => by omega
  | m + 1, ks, h, hs => sizeStep ks hs fun u hu => by
    have h1 := sizeL_mem hu
    have h2 := sizeT_eq u
    exact sizeFn m u.kids (by omega) (by omega)
end Go.Sim

set_option linter.unusedVariables false
set_option linter.unusedSimpArgs false
namespace Go.Sim
open Go.Proofs
/-! numbers -/
def encI (n : Int) : AV := .int .i64 n
@[go_sem] theorem cells_I {n : Int} {kl : List AV → Prop} {z} : Run (elemCells (encI n) kl) z = kl [.int .i64 n] := rfl
@[go_sem] theorem width_I (n : Int) : (encI n).width = some 1 := rfl
@[go_sem] theorem cellsOne_I (n : Int) : (encI n).cellsOne = true := rfl
@[go_sem] theorem pure_I (n : Int) : (encI n).pureB = true := rfl
theorem fold_I (n : Int) : AV.int .i64 n = encI n := rfl
theorem pureAll_map {α : Type} {f : α → AV} (h : ∀ a, (f a).pureB = true) : ∀ l : List α, pureAll (l.map f) = true
  | [] => rfl
  | a :: l => by simp [pureAll, h a, pureAll_map h l]
set_option maxRecDepth 100000 in
theorem intsFn (xs ys : List Int) (hx : xs.length < 2 ^ 40) (hy : ys.length < 2 ^ 40) : PureFn Try.prog 11 [.slice 1 (xs.map encI), .slice 1 (ys.map encI)] (.ret (.bool (xs == ys))) := by
  refine PureFn.start (rs := [.tmp 4]) Try.func11 rfl rfl rfl (Nat.le_of_ble_eq_true rfl) (by decide) allLit ?_
  simp -dsimp -implicitDefEqProofs +contextual (disch := omega) only [go_sem, ↓reduceIte, Nat.reduceEqDiff, Nat.reduceAdd, List.length_map, List.length_append, Int.toNat_natCast, Int.ofNat_lt, Int.natCast_nonneg, Nat.le_refl, Nat.zero_add, Nat.reduceLeDiff, Nat.reduceMul, Nat.reduceLT, Nat.reduceSub, true_or, or_true, Nat.add_zero, Int.reduceLT, Int.reduceLE, Int.reduceNeg]
  refine ⟨fun h => ?_, fun h => ?_⟩
  · symm
    simp only [beq_eq_false_iff_ne]
    intro e
    subst e
    simp at h
  · have hl : xs.length = ys.length := by have : (xs.length : Int) = ys.length := by simpa using h
                                          omega
    refine loop_intro (ι := Nat) (fun i => ⟨[(0, .slice 1 (xs.map encI)), (1, .slice 1 (ys.map encI)), (4, .bool false), (12, .int .i64 xs.length), (13, .int .i64 i)], _⟩) (fun i => i ≤ xs.length ∧ xs.take i = ys.take i) (fun i => xs.length - i) 0 ⟨Nat.zero_le _, by simp⟩ (Sub.env ?_) ?_
    · simp -dsimp -implicitDefEqProofs +contextual (disch := omega) only [go_sem, ↓reduceIte, Nat.reduceEqDiff, Nat.reduceAdd, List.length_map, List.length_append, Int.toNat_natCast, Int.ofNat_lt, Int.natCast_nonneg, Nat.le_refl, Nat.zero_add, Nat.reduceLeDiff, Nat.reduceMul, Nat.reduceLT, Nat.reduceSub, true_or, or_true, Nat.add_zero, Int.reduceLT, Int.reduceLE, Int.reduceNeg]
      simp
    · rintro i ⟨hi, hj⟩
      simp -dsimp -implicitDefEqProofs +contextual (disch := omega) only [go_sem, ↓reduceIte, Nat.reduceEqDiff, Nat.reduceAdd, List.length_map, List.length_append, Int.toNat_natCast, Int.ofNat_lt, Int.natCast_nonneg, Nat.le_refl, Nat.zero_add, Nat.reduceLeDiff, Nat.reduceMul, Nat.reduceLT, Nat.reduceSub, true_or, or_true, Nat.add_zero, Int.reduceLT, Int.reduceLE, Int.reduceNeg]
      refine ⟨fun hlt => ?_, fun hge => ?_⟩
      · refine use_draw [(0, none), (1, none), (2, none), (3, none), (4, none), (5, none), (6, none), (7, none), (8, none)] [[], [], [0, 1], [0, 1, 2], [], [], [4, 5], [4, 5, 6], [0, 1, 2, 3, 4, 5, 6, 7]] mixed (by decide +kernel) ?_
        have hlt2 : i < ys.length := by omega
        simp -dsimp -implicitDefEqProofs +contextual (disch := omega) only [go_sem, ↓reduceIte, Nat.reduceEqDiff, Nat.reduceAdd, List.length_map, List.length_append, Int.toNat_natCast, Int.ofNat_lt, Int.natCast_nonneg, Nat.le_refl, Nat.zero_add, Nat.reduceLeDiff, Nat.reduceMul, Nat.reduceLT, Nat.reduceSub, true_or, or_true, Nat.add_zero, Int.reduceLT, Int.reduceLE, Int.reduceNeg, hlt, hlt2]
        refine ⟨fun hc => ?_, fun hc => ?_⟩
        · symm
          simp only [beq_eq_false_iff_ne]
          intro e
          subst e
          simp at hc
        · refine loop_next (i + 1) ⟨by omega, ?_⟩ (by omega) (Sub.env ?_)
          · rw [List.take_succ_eq_append_getElem hlt, List.take_succ_eq_append_getElem hlt2, hj]
            have : xs[i] = ys[i] := by simpa using hc
            rw [this]
          · simp -dsimp -implicitDefEqProofs +contextual (disch := omega) only [go_sem, ↓reduceIte, Nat.reduceEqDiff, Nat.reduceAdd, List.length_map, List.length_append, Int.toNat_natCast, Int.ofNat_lt, Int.natCast_nonneg, Nat.le_refl, Nat.zero_add, Nat.reduceLeDiff, Nat.reduceMul, Nat.reduceLT, Nat.reduceSub, true_or, or_true, Nat.add_zero, Int.reduceLT, Int.reduceLE, Int.reduceNeg]
            simp
      · have e : i = xs.length := by omega
        subst e
        rw [List.take_length, hl, List.take_length] at hj
        simp [hj]
end Go.Sim

set_option linter.unusedVariables false
set_option linter.unusedSimpArgs false
namespace Go.Sim
open Go.Proofs
theorem Sub.env' {n0 : Nat} {e e' : Env} {H H' : Heap} (hH : H = H') (h : EnvSub e e') : Sub n0 e H e' H' := hH ▸ Sub.env h
/-! all cells of a tree -/
mutual
def allT : T → List T
  | .node k x y w h i ks => .node k x y w h i ks :: allL ks
def allL : List T → List T
  | [] => []
  | t :: ts => allT t ++ allL ts
end
theorem allT_eq (t : T) : allT t = t :: allL t.kids := by cases t; rfl
theorem allL_append : ∀ a b : List T, allL (a ++ b) = allL a ++ allL b
  | [], b => rfl
  | t :: a, b => by simp [allL, allL_append a b]
theorem allL_succ (l : List T) {i : Nat} (h : i < l.length) : allL (l.take (i + 1)) = allL (l.take i) ++ allT l[i] := by
  rw [List.take_succ_eq_append_getElem h, allL_append]; simp [allL]
mutual
theorem length_allT : ∀ t : T, (allT t).length = sizeT t
  | .node k x y w h i ks => by simp [allT, sizeT, length_allL ks]
theorem length_allL : ∀ l : List T, (allL l).length = sizeL l
  | [] => rfl
  | t :: ts => by simp [allL, sizeL, length_allT t, length_allL ts]
end
set_option maxRecDepth 100000 in
theorem allStep (t : T) (hs : sizeT t < 2 ^ 40) (ih : ∀ u ∈ t.kids, PureFn Try.prog 6 [encT u] (.ret (.slice 7 ((allT u).map encT)))) : PureFn Try.prog 6 [encT t] (.ret (.slice 7 ((allT t).map encT))) := by
  refine PureFn.start (rs := [.tmp 2]) Try.func6 rfl rfl rfl (Nat.le_of_ble_eq_true rfl) (by decide) noLit ?_
  have hlen := length_sizeL t.kids
  have hst := sizeT_eq t
  simp -dsimp -implicitDefEqProofs +contextual (disch := omega) only [go_sem, ↓reduceIte, Nat.reduceEqDiff, Nat.reduceAdd, List.length_map, List.length_append, Int.toNat_natCast, Int.ofNat_lt, Int.natCast_nonneg, Nat.le_refl, Nat.zero_add, Nat.reduceLeDiff, Nat.reduceMul, Nat.reduceLT, Nat.reduceSub, true_or, or_true, Nat.add_zero, Int.reduceLT, Int.reduceLE, Int.reduceNeg, Nat.reduceBEq]
  refine loop_intro (ι := Nat) (fun i => ⟨[(1, .ptr 0 0), (3, .mslice 7 1 0 ((allL (t.kids.take i)).length + 1)), (9, .int .i64 t.kids.length), (10, .int .i64 i)], [some (.box (cellsT t)), some (.row 7 ((t :: allL (t.kids.take i)).map encT))]⟩) (fun i => i ≤ t.kids.length) (fun i => t.kids.length - i) 0 (Nat.zero_le _) (Sub.env' ?_ ?_) ?_
  · simp [allL]
  · simp -dsimp -implicitDefEqProofs +contextual (disch := omega) only [go_sem, ↓reduceIte, Nat.reduceEqDiff, Nat.reduceAdd, List.length_map, List.length_append, Int.toNat_natCast, Int.ofNat_lt, Int.natCast_nonneg, Nat.le_refl, Nat.zero_add, Nat.reduceLeDiff, Nat.reduceMul, Nat.reduceLT, Nat.reduceSub, true_or, or_true, Nat.add_zero, Int.reduceLT, Int.reduceLE, Int.reduceNeg]
    simp [allL]
  · intro i hi
    have hd2 := sizeL_take t.kids i
    have hl := length_allL (t.kids.take i)
    simp -dsimp -implicitDefEqProofs +contextual (disch := omega) only [go_sem, ↓reduceIte, Nat.reduceEqDiff, Nat.reduceAdd, List.length_map, List.length_append, Int.toNat_natCast, Int.ofNat_lt, Int.natCast_nonneg, Nat.le_refl, Nat.zero_add, Nat.reduceLeDiff, Nat.reduceMul, Nat.reduceLT, Nat.reduceSub, true_or, or_true, Nat.add_zero, Int.reduceLT, Int.reduceLE, Int.reduceNeg]
    refine ⟨fun hlt => ?_, fun hge => ?_⟩
    · refine use_call (ih _ (List.getElem_mem _)) (by simp [pureAll, pure_T]) ?_
      have hm := allL_succ t.kids hlt
      have hl2 := length_allL (t.kids.take (i + 1))
      have hd3 := sizeL_take t.kids (i + 1)
      rw [hm, List.length_append] at hl2
      simp -dsimp -implicitDefEqProofs +contextual (disch := omega) only [go_sem, ↓reduceIte, Nat.reduceEqDiff, Nat.reduceAdd, List.length_map, List.length_append, Int.toNat_natCast, Int.ofNat_lt, Int.natCast_nonneg, Nat.le_refl, Nat.zero_add, Nat.reduceLeDiff, Nat.reduceMul, Nat.reduceLT, Nat.reduceSub, true_or, or_true, Nat.add_zero, Int.reduceLT, Int.reduceLE, Int.reduceNeg]

      refine ⟨by omega, ?_⟩
      refine loop_next (i + 1) (by omega) (by omega) (Sub.env' ?_ ?_)
      · simp [hm]
      · simp -dsimp -implicitDefEqProofs +contextual (disch := omega) only [go_sem, ↓reduceIte, Nat.reduceEqDiff, Nat.reduceAdd, List.length_map, List.length_append, Int.toNat_natCast, Int.ofNat_lt, Int.natCast_nonneg, Nat.le_refl, Nat.zero_add, Nat.reduceLeDiff, Nat.reduceMul, Nat.reduceLT, Nat.reduceSub, true_or, or_true, Nat.add_zero, Int.reduceLT, Int.reduceLE, Int.reduceNeg]
        simp [hm]; omega
    · have e : i = t.kids.length := by omega
      subst e
      simp [allT_eq]
theorem allFn : ∀ (m : Nat) (t : T), sizeT t < m → sizeT t < 2 ^ 40 → PureFn Try.prog 6 [encT t] (.ret (.slice 7 ((allT t).map encT)))
  | 0, t, h, _ => by omega
  | m + 1, t, h, hs => allStep t hs fun u hu => by
    have h1 := sizeL_mem hu
    have h2 := sizeT_eq t
    exact allFn m u (by omega) (by omega)
/-! leaves -/
def isLeaf (t : T) : Bool := decide (t.kind = 1)
set_option maxRecDepth 100000 in
theorem refLeavesFn (t : T) (hs : sizeT t < 2 ^ 40) : PureFn Try.prog 17 [encT t] (.ret (.slice 7 (((allT t).filter isLeaf).map encT))) := by
  refine PureFn.start (rs := [.tmp 2]) Try.func17 rfl rfl rfl (Nat.le_of_ble_eq_true rfl) (by decide) allLit ?_
  have hlen := length_allT t
  simp -dsimp -implicitDefEqProofs +contextual (disch := omega) only [go_sem, ↓reduceIte, Nat.reduceEqDiff, Nat.reduceAdd, List.length_map, List.length_append, Int.toNat_natCast, Int.ofNat_lt, Int.natCast_nonneg, Nat.le_refl, Nat.zero_add, Nat.reduceLeDiff, Nat.reduceMul, Nat.reduceLT, Nat.reduceSub, true_or, or_true, Nat.add_zero, Int.reduceLT, Int.reduceLE, Int.reduceNeg]
  refine use_call (allFn _ t (Nat.lt_succ_self _) hs) (by simp [pureAll, pure_T]) ?_
  simp -dsimp -implicitDefEqProofs +contextual (disch := omega) only [go_sem, ↓reduceIte, Nat.reduceEqDiff, Nat.reduceAdd, List.length_map, List.length_append, Int.toNat_natCast, Int.ofNat_lt, Int.natCast_nonneg, Nat.le_refl, Nat.zero_add, Nat.reduceLeDiff, Nat.reduceMul, Nat.reduceLT, Nat.reduceSub, true_or, or_true, Nat.add_zero, Int.reduceLT, Int.reduceLE, Int.reduceNeg]
  refine loop_intro (ι := Nat) (fun i => ⟨[(3, .mslice 7 1 0 (((allT t).take i).filter isLeaf).length), (4, .slice 7 ((allT t).map encT)), (10, .int .i64 (allT t).length), (11, .int .i64 i)], [some (.box (cellsT t)), some (.row 7 ((((allT t).take i).filter isLeaf).map encT))]⟩) (fun i => i ≤ (allT t).length) (fun i => (allT t).length - i) 0 (Nat.zero_le _) ((Sub.nilrow 3 7 (.inr ?_)).trans (Sub.env' ?_ ?_)) ?_
  · simp -dsimp -implicitDefEqProofs +contextual (disch := omega) only [go_sem, ↓reduceIte, Nat.reduceEqDiff, Nat.reduceAdd, List.length_map, List.length_append, Int.toNat_natCast, Int.ofNat_lt, Int.natCast_nonneg, Nat.le_refl, Nat.zero_add, Nat.reduceLeDiff, Nat.reduceMul, Nat.reduceLT, Nat.reduceSub, true_or, or_true, Nat.add_zero, Int.reduceLT, Int.reduceLE, Int.reduceNeg]
  · simp
  · simp -dsimp -implicitDefEqProofs +contextual (disch := omega) only [go_sem, ↓reduceIte, Nat.reduceEqDiff, Nat.reduceAdd, List.length_map, List.length_append, Int.toNat_natCast, Int.ofNat_lt, Int.natCast_nonneg, Nat.le_refl, Nat.zero_add, Nat.reduceLeDiff, Nat.reduceMul, Nat.reduceLT, Nat.reduceSub, true_or, or_true, Nat.add_zero, Int.reduceLT, Int.reduceLE, Int.reduceNeg]
    simp
  · intro i hi
    have hf : (((allT t).take i).filter isLeaf).length ≤ (allT t).length := Nat.le_trans (List.length_filter_le _ _) (by simp; omega)
    simp -dsimp -implicitDefEqProofs +contextual (disch := omega) only [go_sem, ↓reduceIte, Nat.reduceEqDiff, Nat.reduceAdd, List.length_map, List.length_append, Int.toNat_natCast, Int.ofNat_lt, Int.natCast_nonneg, Nat.le_refl, Nat.zero_add, Nat.reduceLeDiff, Nat.reduceMul, Nat.reduceLT, Nat.reduceSub, true_or, or_true, Nat.add_zero, Int.reduceLT, Int.reduceLE, Int.reduceNeg]
    refine ⟨fun hlt => ?_, fun hge => ?_⟩
    · have hm : ((allT t).take (i + 1)).filter isLeaf = ((allT t).take i).filter isLeaf ++ [(allT t)[i]].filter isLeaf := by
        rw [List.take_succ_eq_append_getElem hlt, List.filter_append]
      refine ⟨fun hc => ?_, fun hc => ?_⟩
      · have hq : isLeaf (allT t)[i] = true := by simpa [isLeaf] using hc
        refine ⟨by omega, ?_⟩
        refine loop_next (i + 1) (by omega) (by omega) (Sub.env' ?_ ?_)
        · simp [hm, hq]
        · simp -dsimp -implicitDefEqProofs +contextual (disch := omega) only [go_sem, ↓reduceIte, Nat.reduceEqDiff, Nat.reduceAdd, List.length_map, List.length_append, Int.toNat_natCast, Int.ofNat_lt, Int.natCast_nonneg, Nat.le_refl, Nat.zero_add, Nat.reduceLeDiff, Nat.reduceMul, Nat.reduceLT, Nat.reduceSub, true_or, or_true, Nat.add_zero, Int.reduceLT, Int.reduceLE, Int.reduceNeg]
          simp [hm, hq]
      · have hq : isLeaf (allT t)[i] = false := by simpa [isLeaf] using hc
        refine loop_next (i + 1) (by omega) (by omega) (Sub.env' ?_ ?_)
        · simp [hm, hq]
        · simp -dsimp -implicitDefEqProofs +contextual (disch := omega) only [go_sem, ↓reduceIte, Nat.reduceEqDiff, Nat.reduceAdd, List.length_map, List.length_append, Int.toNat_natCast, Int.ofNat_lt, Int.natCast_nonneg, Nat.le_refl, Nat.zero_add, Nat.reduceLeDiff, Nat.reduceMul, Nat.reduceLT, Nat.reduceSub, true_or, or_true, Nat.add_zero, Int.reduceLT, Int.reduceLE, Int.reduceNeg]
          simp [hm, hq]
    · have e : i = (allT t).length := by omega
      subst e
      simp
end Go.Sim

set_option linter.unusedVariables false
set_option linter.unusedSimpArgs false
namespace Go.Sim
open Go.Proofs
@[go_sem] theorem drop5_cells (t : T) : (cellsT t).drop 5 = [.int .i64 t.id, .slice 7 (t.kids.map encT)] := by cases t; rfl
theorem Sub.trunc' {n0 : Nat} (k : Nat) {e e' : Env} {H H' : Heap} (hk : n0 ≤ k) (hl : k ≤ H.length) (hH' : H.take k = H') (ho : H'.all (objLt k) = true) (h : EnvSubLt k e e') : Sub n0 e H e' H' := Sub.trunc hk hl hH'.symm ho h
/-! the leaves' numbers -/
def idsT (t : T) : List Int := ((allT t).filter isLeaf).map T.id
set_option maxRecDepth 100000 in
theorem idsFn (t : T) (hs : sizeT t < 2 ^ 40) : PureFn Try.prog 7 [encT t] (.ret (.slice 1 ((idsT t).map encI))) := by
  refine PureFn.start (rs := [.tmp 2]) Try.func7 rfl rfl rfl (Nat.le_of_ble_eq_true rfl) (by decide) allLit ?_
  have hlen := length_allT t
  have hf : ((allT t).filter isLeaf).length ≤ (allT t).length := List.length_filter_le _ _
  simp -dsimp -implicitDefEqProofs +contextual (disch := omega) only [go_sem, ↓reduceIte, Nat.reduceEqDiff, Nat.reduceAdd, List.length_map, List.length_append, Int.toNat_natCast, Int.ofNat_lt, Int.natCast_nonneg, Nat.le_refl, Nat.zero_add, Nat.reduceLeDiff, Nat.reduceMul, Nat.reduceLT, Nat.reduceSub, true_or, or_true, Nat.add_zero, Int.reduceLT, Int.reduceLE, Int.reduceNeg]
  refine use_call (refLeavesFn t hs) (by simp [pureAll, pure_T]) ?_
  generalize hL : (allT t).filter isLeaf = L at *
  simp -dsimp -implicitDefEqProofs +contextual (disch := omega) only [go_sem, ↓reduceIte, Nat.reduceEqDiff, Nat.reduceAdd, List.length_map, List.length_append, Int.toNat_natCast, Int.ofNat_lt, Int.natCast_nonneg, Nat.le_refl, Nat.zero_add, Nat.reduceLeDiff, Nat.reduceMul, Nat.reduceLT, Nat.reduceSub, true_or, or_true, Nat.add_zero, Int.reduceLT, Int.reduceLE, Int.reduceNeg]
  refine loop_intro (ι := Nat) (fun i => ⟨[(3, .mslice 1 1 0 (L.take i).length), (4, .slice 7 (L.map encT)), (10, .int .i64 L.length), (11, .int .i64 i)], [some (.box (cellsT t)), some (.row 1 (((L.take i).map T.id).map encI))]⟩) (fun i => i ≤ L.length) (fun i => L.length - i) 0 (Nat.zero_le _) ((Sub.nilrow 3 1 (.inr ?_)).trans (Sub.env' ?_ ?_)) ?_
  · simp -dsimp -implicitDefEqProofs +contextual (disch := omega) only [go_sem, ↓reduceIte, Nat.reduceEqDiff, Nat.reduceAdd, List.length_map, List.length_append, Int.toNat_natCast, Int.ofNat_lt, Int.natCast_nonneg, Nat.le_refl, Nat.zero_add, Nat.reduceLeDiff, Nat.reduceMul, Nat.reduceLT, Nat.reduceSub, true_or, or_true, Nat.add_zero, Int.reduceLT, Int.reduceLE, Int.reduceNeg]
  · simp
  · simp -dsimp -implicitDefEqProofs +contextual (disch := omega) only [go_sem, ↓reduceIte, Nat.reduceEqDiff, Nat.reduceAdd, List.length_map, List.length_append, Int.toNat_natCast, Int.ofNat_lt, Int.natCast_nonneg, Nat.le_refl, Nat.zero_add, Nat.reduceLeDiff, Nat.reduceMul, Nat.reduceLT, Nat.reduceSub, true_or, or_true, Nat.add_zero, Int.reduceLT, Int.reduceLE, Int.reduceNeg]
    simp
  · intro i hi
    have hl : (L.take i).length = i := by simp; omega
    simp -dsimp -implicitDefEqProofs +contextual (disch := omega) only [go_sem, ↓reduceIte, Nat.reduceEqDiff, Nat.reduceAdd, List.length_map, List.length_append, Int.toNat_natCast, Int.ofNat_lt, Int.natCast_nonneg, Nat.le_refl, Nat.zero_add, Nat.reduceLeDiff, Nat.reduceMul, Nat.reduceLT, Nat.reduceSub, true_or, or_true, Nat.add_zero, Int.reduceLT, Int.reduceLE, Int.reduceNeg]
    refine ⟨fun hlt => ?_, fun hge => ?_⟩
    · refine ⟨by rw [hl]; omega, ?_⟩
      refine loop_next (i + 1) (by omega) (by omega) (Sub.env' ?_ ?_)
      · rw [List.take_succ_eq_append_getElem hlt]; simp only [List.map_append, List.map_cons, List.map_nil]; rfl
      · simp -dsimp -implicitDefEqProofs +contextual (disch := omega) only [go_sem, ↓reduceIte, Nat.reduceEqDiff, Nat.reduceAdd, List.length_map, List.length_append, Int.toNat_natCast, Int.ofNat_lt, Int.natCast_nonneg, Nat.le_refl, Nat.zero_add, Nat.reduceLeDiff, Nat.reduceMul, Nat.reduceLT, Nat.reduceSub, true_or, or_true, Nat.add_zero, Int.reduceLT, Int.reduceLE, Int.reduceNeg]
        simp; omega
    · have e : i = L.length := by omega
      subst e
      simp [idsT, hL]
mutual
def leavesT : T → List Int
  | .node k x y w h i ks => (if k = 1 then [i] else []) ++ leavesL ks
def leavesL : List T → List Int
  | [] => []
  | t :: ts => leavesT t ++ leavesL ts
end
theorem leavesT_eq (t : T) : leavesT t = (if t.kind = 1 then [t.id] else []) ++ leavesL t.kids := by cases t; rfl
theorem leavesL_append : ∀ a b : List T, leavesL (a ++ b) = leavesL a ++ leavesL b
  | [], b => rfl
  | t :: a, b => by simp [leavesL, leavesL_append a b]
theorem leavesL_succ (l : List T) {i : Nat} (h : i < l.length) : leavesL (l.take (i + 1)) = leavesL (l.take i) ++ leavesT l[i] := by
  rw [List.take_succ_eq_append_getElem h, leavesL_append]; simp [leavesL]
mutual
theorem length_leavesT : ∀ t : T, (leavesT t).length ≤ sizeT t
  | .node k x y w h i ks => by
    have := length_leavesL ks
    simp only [leavesT, sizeT, List.length_append]
    split <;> simp <;> omega
theorem length_leavesL : ∀ l : List T, (leavesL l).length ≤ sizeL l
  | [] => by simp [leavesL]
  | t :: ts => by
    have h1 := length_leavesT t
    have h2 := length_leavesL ts
    simp [leavesL, sizeL]; omega
end
set_option maxRecDepth 100000 in
theorem leavesStep (ks : List T) (hs : sizeL ks < 2 ^ 40) (ih : ∀ t ∈ ks, PureFn Try.prog 12 [.slice 7 (t.kids.map encT)] (.ret (.slice 1 ((leavesL t.kids).map encI)))) :
    PureFn Try.prog 12 [.slice 7 (ks.map encT)] (.ret (.slice 1 ((leavesL ks).map encI))) := by
  refine PureFn.start (rs := [.tmp 2]) Try.func12 rfl rfl rfl (Nat.le_of_ble_eq_true rfl) (by decide) allLit ?_
  have hlen := length_sizeL ks
  simp -dsimp -implicitDefEqProofs +contextual (disch := omega) only [go_sem, ↓reduceIte, Nat.reduceEqDiff, Nat.reduceAdd, List.length_map, List.length_append, Int.toNat_natCast, Int.ofNat_lt, Int.natCast_nonneg, Nat.le_refl, Nat.zero_add, Nat.reduceLeDiff, Nat.reduceMul, Nat.reduceLT, Nat.reduceSub, true_or, or_true, Nat.add_zero, Int.reduceLT, Int.reduceLE, Int.reduceNeg]
  refine loop_intro (ι := Nat) (fun i => ⟨[(3, .mslice 1 0 0 (leavesL (ks.take i)).length), (6, .slice 7 (ks.map encT)), (7, .int .i64 ks.length), (8, .int .i64 i)], [some (.row 1 ((leavesL (ks.take i)).map encI))]⟩) (fun i => i ≤ ks.length) (fun i => ks.length - i) 0 (Nat.zero_le _) ((Sub.nilrow 3 1 (.inl ?_)).trans (Sub.env' ?_ ?_)) ?_
  · simp -dsimp -implicitDefEqProofs +contextual (disch := omega) only [go_sem, ↓reduceIte, Nat.reduceEqDiff, Nat.reduceAdd, List.length_map, List.length_append, Int.toNat_natCast, Int.ofNat_lt, Int.natCast_nonneg, Nat.le_refl, Nat.zero_add, Nat.reduceLeDiff, Nat.reduceMul, Nat.reduceLT, Nat.reduceSub, true_or, or_true, Nat.add_zero, Int.reduceLT, Int.reduceLE, Int.reduceNeg]
  · simp [leavesL]
  · simp -dsimp -implicitDefEqProofs +contextual (disch := omega) only [go_sem, ↓reduceIte, Nat.reduceEqDiff, Nat.reduceAdd, List.length_map, List.length_append, Int.toNat_natCast, Int.ofNat_lt, Int.natCast_nonneg, Nat.le_refl, Nat.zero_add, Nat.reduceLeDiff, Nat.reduceMul, Nat.reduceLT, Nat.reduceSub, true_or, or_true, Nat.add_zero, Int.reduceLT, Int.reduceLE, Int.reduceNeg]
    simp [leavesL]
  · intro i hi
    have hd1 := length_leavesL (ks.take (i + 1))
    have hd2 := sizeL_take ks (i + 1)
    simp -dsimp -implicitDefEqProofs +contextual (disch := omega) only [go_sem, ↓reduceIte, Nat.reduceEqDiff, Nat.reduceAdd, List.length_map, List.length_append, Int.toNat_natCast, Int.ofNat_lt, Int.natCast_nonneg, Nat.le_refl, Nat.zero_add, Nat.reduceLeDiff, Nat.reduceMul, Nat.reduceLT, Nat.reduceSub, true_or, or_true, Nat.add_zero, Int.reduceLT, Int.reduceLE, Int.reduceNeg]
    refine ⟨fun hlt => ?_, fun hge => ?_⟩
    · have hm := leavesL_succ ks hlt
      have hm2 := leavesT_eq ks[i]
      rw [hm, hm2] at hd1
      refine ⟨fun hc => ?_, fun hc => ?_⟩
      · have hc' : ks[i].kind = 1 := by simpa using hc
        rw [if_pos hc'] at hm2 hd1
        simp only [List.length_append, List.length_cons, List.length_nil] at hd1
        refine ⟨by omega, ?_⟩
        refine use_call (ih _ (List.getElem_mem _)) (by simp [pureAll, AV.pureB]) ?_
        simp -dsimp -implicitDefEqProofs +contextual (disch := omega) only [go_sem, ↓reduceIte, Nat.reduceEqDiff, Nat.reduceAdd, List.length_map, List.length_append, Int.toNat_natCast, Int.ofNat_lt, Int.natCast_nonneg, Nat.le_refl, Nat.zero_add, Nat.reduceLeDiff, Nat.reduceMul, Nat.reduceLT, Nat.reduceSub, true_or, or_true, Nat.add_zero, Int.reduceLT, Int.reduceLE, Int.reduceNeg]

        refine ⟨by omega, ?_⟩
        refine loop_next (i + 1) (by omega) (by omega) (Sub.trunc' 1 (by omega) (by simp) ?_ (by simp [objLt]) ?_)
        · simp [hm, hm2, encI]
        · simp -dsimp -implicitDefEqProofs +contextual (disch := omega) only [go_sem, ↓reduceIte, Nat.reduceEqDiff, Nat.reduceAdd, List.length_map, List.length_append, Int.toNat_natCast, Int.ofNat_lt, Int.natCast_nonneg, Nat.le_refl, Nat.zero_add, Nat.reduceLeDiff, Nat.reduceMul, Nat.reduceLT, Nat.reduceSub, true_or, or_true, Nat.add_zero, Int.reduceLT, Int.reduceLE, Int.reduceNeg]
          simp [hm, hm2]; omega
      · have hc' : ¬ ks[i].kind = 1 := by simpa using hc
        rw [if_neg hc'] at hm2 hd1
        simp only [List.length_append, List.length_nil] at hd1
        refine use_call (ih _ (List.getElem_mem _)) (by simp [pureAll, AV.pureB]) ?_
        simp -dsimp -implicitDefEqProofs +contextual (disch := omega) only [go_sem, ↓reduceIte, Nat.reduceEqDiff, Nat.reduceAdd, List.length_map, List.length_append, Int.toNat_natCast, Int.ofNat_lt, Int.natCast_nonneg, Nat.le_refl, Nat.zero_add, Nat.reduceLeDiff, Nat.reduceMul, Nat.reduceLT, Nat.reduceSub, true_or, or_true, Nat.add_zero, Int.reduceLT, Int.reduceLE, Int.reduceNeg]
        refine ⟨by omega, ?_⟩
        refine loop_next (i + 1) (by omega) (by omega) (Sub.trunc' 1 (by omega) (by simp) ?_ (by simp [objLt]) ?_)
        · simp [hm, hm2]
        · simp -dsimp -implicitDefEqProofs +contextual (disch := omega) only [go_sem, ↓reduceIte, Nat.reduceEqDiff, Nat.reduceAdd, List.length_map, List.length_append, Int.toNat_natCast, Int.ofNat_lt, Int.natCast_nonneg, Nat.le_refl, Nat.zero_add, Nat.reduceLeDiff, Nat.reduceMul, Nat.reduceLT, Nat.reduceSub, true_or, or_true, Nat.add_zero, Int.reduceLT, Int.reduceLE, Int.reduceNeg]
          simp [hm, hm2]
    · have e : i = ks.length := by omega
      subst e
      simp
theorem leavesFn : ∀ (m : Nat) (ks : List T), sizeL ks < m → sizeL ks < 2 ^ 40 → PureFn Try.prog 12 [.slice 7 (ks.map encT)] (.ret (.slice 1 ((leavesL ks).map encI)))
  | 0, t, h, _ => by omega
  | m + 1, ks, h, hs => leavesStep ks hs fun u hu => by
    have h1 := sizeL_mem hu
    have h2 := sizeT_eq u
    exact leavesFn m u.kids (by omega) (by omega)
end Go.Sim
