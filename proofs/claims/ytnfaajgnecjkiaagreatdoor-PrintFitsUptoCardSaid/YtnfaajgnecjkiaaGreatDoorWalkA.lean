/- Each function that the law reaches computes what its Lean twin computes: trees, their leaves, rectangles, the walk over a tree. -/
import Derived.Test.YtnfaajgnecjkiaaGreatDoorSimF
import Derived.Test.YtnfaajgnecjkiaaGreatDoorProg
import Derived.KernelRfl
import Derived.Handy
import Derived.LoopTactic
import Derived.Lib.LaidTab
set_option linter.unusedVariables false
set_option linter.unusedSimpArgs false
namespace Go.Sim
open Go.Proofs
@[go_sem] theorem lk22 : lenKind Tryz.prog (22 : Nat) = 2 := by kernel_rfl
@[go_sem] theorem es22 : elemSz Tryz.prog (22 : Nat) = some (7) := by kernel_rfl
@[go_sem] theorem an22 : arrN Tryz.prog (22 : Nat) = none := by kernel_rfl
@[go_sem] theorem ld30 : ldInfo Tryz.prog (30 : Nat) = some (true, 7) := by kernel_rfl
@[go_sem] theorem ek4 : eqKind Tryz.prog (4 : Nat) = .bool := by kernel_rfl
@[go_sem] theorem bi28 : buildInfo Tryz.prog (28 : Nat) = some ([.int .i64 0, .int .i64 0, .int .i64 0, .int .i64 0], [(0, 1), (1, 1), (2, 1), (3, 1)]) := by kernel_rfl
@[go_sem] theorem bi30 : buildInfo Tryz.prog (30 : Nat) = some ([.int .u8 0, .int .i64 0, .int .i64 0, .int .i64 0, .int .i64 0, .int .i64 0, .nilslice], [(0, 1), (1, 4), (5, 1), (6, 1)]) := by kernel_rfl
@[go_sem] theorem lk9 : lenKind Tryz.prog (9 : Nat) = 1 := by kernel_rfl
@[go_sem] theorem fo30_1 : fieldOff Tryz.prog (30 : Nat) 1 = some (1) := by kernel_rfl
@[go_sem] theorem ld28 : ldInfo Tryz.prog (28 : Nat) = some (true, 4) := by kernel_rfl
@[go_sem] theorem fo30_0 : fieldOff Tryz.prog (30 : Nat) 0 = some (0) := by kernel_rfl
@[go_sem] theorem ld5 : ldInfo Tryz.prog (5 : Nat) = some (false, 1) := by kernel_rfl
@[go_sem] theorem fo30_2 : fieldOff Tryz.prog (30 : Nat) 2 = some (5) := by kernel_rfl
@[go_sem] theorem ld3 : ldInfo Tryz.prog (3 : Nat) = some (false, 1) := by kernel_rfl
@[go_sem] theorem fo30_3 : fieldOff Tryz.prog (30 : Nat) 3 = some (6) := by kernel_rfl
@[go_sem] theorem ld22 : ldInfo Tryz.prog (22 : Nat) = some (false, 1) := by kernel_rfl
@[go_sem] theorem et22 : elemTy Tryz.prog (22 : Nat) = (30 : Nat) := by kernel_rfl
@[go_sem] theorem sz22 : evA.sliceZero Tryz.prog (22 : Nat) = true := by kernel_rfl
@[go_sem] theorem bi56 : buildInfo Tryz.prog (56 : Nat) = some ([.nilp, .nilslice], [(0, 2)]) := by kernel_rfl
@[go_sem] theorem fo56_0 : fieldOff Tryz.prog (56 : Nat) 0 = some (0) := by kernel_rfl
@[go_sem] theorem es74 : elemSz Tryz.prog (74 : Nat) = some (1) := by kernel_rfl
@[go_sem] theorem et74 : elemTy Tryz.prog (74 : Nat) = (9 : Nat) := by kernel_rfl
@[go_sem] theorem sz74 : evA.sliceZero Tryz.prog (74 : Nat) = true := by kernel_rfl
@[go_sem] theorem ai30 : allocInfo Tryz.prog (30 : Nat) = some ([.int .u8 0, .int .i64 0, .int .i64 0, .int .i64 0, .int .i64 0, .int .i64 0, .nilslice]) := by kernel_rfl
@[go_sem] theorem an30 : arrN Tryz.prog (30 : Nat) = none := by kernel_rfl
@[go_sem] theorem ts30 : tSize Tryz.prog (30 : Nat) = some (7) := by kernel_rfl
@[go_sem] theorem es41 : elemSz Tryz.prog (41 : Nat) = some (4) := by kernel_rfl
@[go_sem] theorem et41 : elemTy Tryz.prog (41 : Nat) = (28 : Nat) := by kernel_rfl
@[go_sem] theorem sz41 : evA.sliceZero Tryz.prog (41 : Nat) = true := by kernel_rfl
@[go_sem] theorem lk41 : lenKind Tryz.prog (41 : Nat) = 2 := by kernel_rfl
@[go_sem] theorem tb41 : tBytes Tryz.prog (41 : Nat) = some (32) := by kernel_rfl
@[go_sem] theorem cv45_3 : convKind Tryz.prog (45 : Nat) (3 : Nat) = .int .i64 := by kernel_rfl
@[go_sem] theorem cv5_3 : convKind Tryz.prog (5 : Nat) (3 : Nat) = .int .i64 := by kernel_rfl
@[go_sem] theorem cv3_45 : convKind Tryz.prog (3 : Nat) (45 : Nat) = .int .u16 := by kernel_rfl
@[go_sem] theorem fo28_2 : fieldOff Tryz.prog (28 : Nat) 2 = some (2) := by kernel_rfl
@[go_sem] theorem fo28_3 : fieldOff Tryz.prog (28 : Nat) 3 = some (3) := by kernel_rfl
@[go_sem] theorem fo28_0 : fieldOff Tryz.prog (28 : Nat) 0 = some (0) := by kernel_rfl
@[go_sem] theorem fo28_1 : fieldOff Tryz.prog (28 : Nat) 1 = some (1) := by kernel_rfl
@[go_sem] theorem es79 : elemSz Tryz.prog (79 : Nat) = some (1) := by kernel_rfl
@[go_sem] theorem et79 : elemTy Tryz.prog (79 : Nat) = (3 : Nat) := by kernel_rfl
@[go_sem] theorem sz79 : evA.sliceZero Tryz.prog (79 : Nat) = true := by kernel_rfl
@[go_sem] theorem fo54_1 : fieldOff Tryz.prog (54 : Nat) 1 = some (1) := by kernel_rfl
@[go_sem] theorem ld52 : ldInfo Tryz.prog (52 : Nat) = some (false, 1) := by kernel_rfl
@[go_sem] theorem lk52 : lenKind Tryz.prog (52 : Nat) = 2 := by kernel_rfl
@[go_sem] theorem pt70 : ptrTo Tryz.prog (70 : Nat) = some ((5 : Nat)) := by kernel_rfl
@[go_sem] theorem cv45_72 : convKind Tryz.prog (45 : Nat) (72 : Nat) = .int .u64 := by kernel_rfl
@[go_sem] theorem tb22 : tBytes Tryz.prog (22 : Nat) = some (72) := by kernel_rfl
@[go_sem] theorem an41 : arrN Tryz.prog (41 : Nat) = none := by kernel_rfl
@[go_sem] theorem fl28 : flatOffs Tryz.prog (28 : Nat) = some ([0, 1, 2, 3]) := by kernel_rfl
@[go_sem] theorem an9 : arrN Tryz.prog (9 : Nat) = none := by kernel_rfl
@[go_sem] theorem ek64 : eqKind Tryz.prog (64 : Nat) = .iface := by kernel_rfl
@[go_sem] theorem bi83 : buildInfo Tryz.prog (83 : Nat) = some ([.int .i64 0, .nilslice], [(0, 1), (1, 1)]) := by kernel_rfl
@[go_sem] theorem fo83_0 : fieldOff Tryz.prog (83 : Nat) 0 = some (0) := by kernel_rfl
@[go_sem] theorem es52 : elemSz Tryz.prog (52 : Nat) = some (1) := by kernel_rfl
@[go_sem] theorem et52 : elemTy Tryz.prog (52 : Nat) = (5 : Nat) := by kernel_rfl
@[go_sem] theorem tb52 : tBytes Tryz.prog (52 : Nat) = some (1) := by kernel_rfl
@[go_sem] theorem ts52 : tSize Tryz.prog (52 : Nat) = some (1) := by kernel_rfl
@[go_sem] theorem lk79 : lenKind Tryz.prog (79 : Nat) = 2 := by kernel_rfl
@[go_sem] theorem an79 : arrN Tryz.prog (79 : Nat) = none := by kernel_rfl
@[go_sem] theorem lk74 : lenKind Tryz.prog (74 : Nat) = 2 := by kernel_rfl
@[go_sem] theorem tb74 : tBytes Tryz.prog (74 : Nat) = some (16) := by kernel_rfl
@[go_sem] theorem sz52 : evA.sliceZero Tryz.prog (52 : Nat) = true := by kernel_rfl
@[go_sem] theorem an74 : arrN Tryz.prog (74 : Nat) = none := by kernel_rfl
@[go_sem] theorem ld9 : ldInfo Tryz.prog (9 : Nat) = some (false, 1) := by kernel_rfl
@[go_sem] theorem cv5_45 : convKind Tryz.prog (5 : Nat) (45 : Nat) = .int .u16 := by kernel_rfl
@[go_sem] theorem tb79 : tBytes Tryz.prog (79 : Nat) = some (8) := by kernel_rfl
@[go_sem] theorem bi97 : buildInfo Tryz.prog (97 : Nat) = some ([.nilslice, .niliface], [(0, 1), (1, 1)]) := by kernel_rfl
@[go_sem] theorem io94 : ifaceOk Tryz.prog (94 : Nat) = true := by kernel_rfl
@[go_sem] theorem bi100 : buildInfo Tryz.prog (100 : Nat) = some ([.int .i64 0, .int .i64 0], [(0, 1), (1, 1)]) := by kernel_rfl
@[go_sem] theorem io98 : ifaceOk Tryz.prog (98 : Nat) = true := by kernel_rfl
@[go_sem] theorem ld81 : ldInfo Tryz.prog (81 : Nat) = some (false, 1) := by kernel_rfl
@[go_sem] theorem ts3 : tSize Tryz.prog (3 : Nat) = some (1) := by kernel_rfl
@[go_sem] theorem fo83_1 : fieldOff Tryz.prog (83 : Nat) 1 = some (1) := by kernel_rfl
@[go_sem] theorem ld41 : ldInfo Tryz.prog (41 : Nat) = some (false, 1) := by kernel_rfl
@[go_sem] theorem ts41 : tSize Tryz.prog (41 : Nat) = some (1) := by kernel_rfl
@[go_sem] theorem fo54_0 : fieldOff Tryz.prog (54 : Nat) 0 = some (0) := by kernel_rfl
@[go_sem] theorem ld51 : ldInfo Tryz.prog (51 : Nat) = some (false, 1) := by kernel_rfl
@[go_sem] theorem ek51 : eqKind Tryz.prog (51 : Nat) = .pointer := by kernel_rfl
@[go_sem] theorem pe51 : ptrElem Tryz.prog (51 : Nat) = true := by kernel_rfl
@[go_sem] theorem cv51_101 : convKind Tryz.prog (51 : Nat) (101 : Nat) = .toU := by kernel_rfl
@[go_sem] theorem cv101_51 : convKind Tryz.prog (101 : Nat) (51 : Nat) = .fromU (liesB Tryz.prog (54 : Nat)) := by kernel_rfl
@[go_sem] theorem ts51 : tSize Tryz.prog (51 : Nat) = some (1) := by kernel_rfl
@[go_sem] theorem cv72_3 : convKind Tryz.prog (72 : Nat) (3 : Nat) = .int .i64 := by kernel_rfl
@[go_sem] theorem ai103 : allocInfo Tryz.prog (103 : Nat) = some ((List.replicate 24 (0 : UInt8)).map enc8) := by kernel_rfl
@[go_sem] theorem an103 : arrN Tryz.prog (103 : Nat) = some (24) := by kernel_rfl
@[go_sem] theorem lk103 : lenKind Tryz.prog (103 : Nat) = 0 := by kernel_rfl
@[go_sem] theorem cv52_9 : convKind Tryz.prog (52 : Nat) (9 : Nat) = .bytes := by kernel_rfl
@[go_sem] theorem io9 : ifaceOk Tryz.prog (9 : Nat) = true := by kernel_rfl
@[go_sem] theorem cv3_87 : convKind Tryz.prog (3 : Nat) (87 : Nat) = .int .u64 := by kernel_rfl
@[go_sem] theorem mk113 : mapKey Tryz.prog (113 : Nat) = some (.int .i64 0) := by kernel_rfl
@[go_sem] theorem mz113 : mapZero Tryz.prog (113 : Nat) = some (.bool false) := by kernel_rfl
@[go_sem] theorem ai113 : allocInfo Tryz.prog (113 : Nat) = some ([.nilmap]) := by kernel_rfl
@[go_sem] theorem an113 : arrN Tryz.prog (113 : Nat) = none := by kernel_rfl
@[go_sem] theorem ts113 : tSize Tryz.prog (113 : Nat) = some (1) := by kernel_rfl
@[go_sem] theorem ai3 : allocInfo Tryz.prog (3 : Nat) = some ([.int .i64 0]) := by kernel_rfl
@[go_sem] theorem an3 : arrN Tryz.prog (3 : Nat) = none := by kernel_rfl
@[go_sem] theorem ek74 : eqKind Tryz.prog (74 : Nat) = .slice := by kernel_rfl
@[go_sem] theorem ai122 : allocInfo Tryz.prog (122 : Nat) = some ((List.replicate 65 (0 : UInt8)).map enc8) := by kernel_rfl
@[go_sem] theorem an122 : arrN Tryz.prog (122 : Nat) = some (65) := by kernel_rfl
@[go_sem] theorem cv3_72 : convKind Tryz.prog (3 : Nat) (72 : Nat) = .int .u64 := by kernel_rfl
@[go_sem] theorem ts5 : tSize Tryz.prog (5 : Nat) = some (1) := by kernel_rfl
@[go_sem] theorem lk122 : lenKind Tryz.prog (122 : Nat) = 0 := by kernel_rfl
@[go_sem] theorem an52 : arrN Tryz.prog (52 : Nat) = none := by kernel_rfl
@[go_sem] theorem ld32 : ldInfo Tryz.prog (32 : Nat) = some (false, 1) := by kernel_rfl
@[go_sem] theorem ld113 : ldInfo Tryz.prog (113 : Nat) = some (false, 1) := by kernel_rfl
@[go_sem] theorem ai28 : allocInfo Tryz.prog (28 : Nat) = some ([.int .i64 0, .int .i64 0, .int .i64 0, .int .i64 0]) := by kernel_rfl
@[go_sem] theorem an28 : arrN Tryz.prog (28 : Nat) = none := by kernel_rfl
@[go_sem] theorem ts28 : tSize Tryz.prog (28 : Nat) = some (4) := by kernel_rfl
@[go_sem] theorem cv87_108 : convKind Tryz.prog (87 : Nat) (108 : Nat) = .int .u32 := by kernel_rfl
@[go_sem] theorem an133 : arrN Tryz.prog (133 : Nat) = some (32) := by kernel_rfl
@[go_sem] theorem an134 : arrN Tryz.prog (134 : Nat) = some (64) := by kernel_rfl
end Go.Sim

namespace Go.Sim
open Go.Proofs
theorem mixed : Tryz.prog.follows .mixedOrders = true := by kernel_rfl
/-! ### cells -/
inductive T where
  | node (k x y w h id : Int) (kids : List T)
mutual
def encT : T → AV
  | .node k x y w h i ks => .agg [.int .u8 k, .int .i64 x, .int .i64 y, .int .i64 w, .int .i64 h, .int .i64 i, .slice 7 (encTs ks)]
def encTs : List T → List AV
  | [] => []
  | t :: ts => encT t :: encTs ts
end
theorem encTs_eq : ∀ l : List T, encTs l = l.map encT
  | [] => rfl
  | t :: ts => by simp [encTs, encTs_eq ts]
def cellsT : T → List AV
  | .node k x y w h i ks => [.int .u8 k, .int .i64 x, .int .i64 y, .int .i64 w, .int .i64 h, .int .i64 i, .slice 7 (ks.map encT)]
theorem encT_cells (t : T) : encT t = .agg (cellsT t) := by cases t; simp [encT, cellsT, encTs_eq]
@[go_sem] theorem fold_T (t : T) : AV.agg (cellsT t) = encT t := (encT_cells t).symm
@[go_sem] theorem elem_T {t : T} {kl : List AV → Prop} {z} : Run (elemCells (encT t) kl) z = kl (cellsT t) := by show elemCells (encT t) kl = _; rw [encT_cells]; rfl
@[go_sem] theorem len_T (t : T) : (cellsT t).length = 7 := by cases t; rfl
@[go_sem] theorem take_T (t : T) : (cellsT t).take 7 = cellsT t := by cases t; rfl
@[go_sem] theorem one_T (t : T) : (cellsT t).all AV.one = true := by cases t; rfl
@[go_sem] theorem setC_T (t : T) {a b c d e f g : AV} : setC [a, b, c, d, e, f, g] 0 (cellsT t) = cellsT t := by cases t; rfl
@[go_sem] theorem width_T (t : T) : (encT t).width = some 7 := by cases t; rfl
@[go_sem] theorem cellsOne_T (t : T) : (encT t).cellsOne = true := by cases t; rfl
mutual
@[go_sem, simp] theorem pure_T : ∀ t : T, (encT t).pureB = true
  | .node k x y w h i ks => by simp [encT, AV.pureB, pureAll]
theorem pure_Ts : ∀ l : List T, pureAll (encTs l) = true
  | [] => rfl
  | t :: ts => by simp [encTs, pureAll, pure_T t, pure_Ts ts]
end
def T.kids : T → List T
  | .node _ _ _ _ _ _ ks => ks
def T.kind : T → Int
  | .node k _ _ _ _ _ _ => k
def T.id : T → Int
  | .node _ _ _ _ _ i _ => i
@[go_sem] theorem drop6_T (t : T) : (cellsT t).drop 6 = [.slice 7 (t.kids.map encT)] := by cases t; rfl
@[go_sem] theorem drop5_T (t : T) : (cellsT t).drop 5 = [.int .i64 t.id, .slice 7 (t.kids.map encT)] := by cases t; rfl
theorem drop0_T (t : T) : (cellsT t) = .int .u8 t.kind :: (cellsT t).tail := by cases t; rfl
/-! numbers and strings -/
def encI (n : Int) : AV := .int .i64 n
@[go_sem] theorem cells_I {n : Int} {kl : List AV → Prop} {z} : Run (elemCells (encI n) kl) z = kl [.int .i64 n] := rfl
@[go_sem] theorem width_I (n : Int) : (encI n).width = some 1 := rfl
@[go_sem] theorem cellsOne_I (n : Int) : (encI n).cellsOne = true := rfl
@[go_sem, simp] theorem pure_I (n : Int) : (encI n).pureB = true := rfl
theorem fold_I (n : Int) : AV.int .i64 n = encI n := rfl
@[simp] theorem pureAll_mapT (l : List T) : pureAll (l.map encT) = true := by rw [← encTs_eq]; exact pure_Ts l
theorem pureAll_map {α : Type} {f : α → AV} (h : ∀ a, (f a).pureB = true) : ∀ l : List α, pureAll (l.map f) = true
  | [] => rfl
  | a :: l => by simp [pureAll, h a, pureAll_map h l]
@[simp] theorem pureAll_mapI (l : List Int) : pureAll (l.map encI) = true := pureAll_map (fun _ => rfl) l
def encB (s : List UInt8) : AV := .str s
@[go_sem] theorem cells_B {s : List UInt8} {kl : List AV → Prop} {z} : Run (elemCells (encB s) kl) z = kl [.str s] := rfl
@[go_sem] theorem width_B (s : List UInt8) : (encB s).width = some 1 := rfl
@[go_sem] theorem cellsOne_B (s : List UInt8) : (encB s).cellsOne = true := rfl
@[go_sem, simp] theorem pure_B (s : List UInt8) : (encB s).pureB = true := rfl
@[simp] theorem pureAll_mapB (l : List (List UInt8)) : pureAll (l.map encB) = true := pureAll_map (fun _ => rfl) l
end Go.Sim

namespace Go.Sim
open Go.Proofs
@[go_sem] theorem ld0_T {t : T} {n : Nat} {k : AV → Prop} {z} : Run (ldCells (some (false, n)) (cellsT t) k) z = k (.int .u8 t.kind) := by cases t; rfl
mutual
def sizeT : T → Nat
  | .node _ _ _ _ _ _ ks => sizeL ks + 1
def sizeL : List T → Nat
  | [] => 0
  | t :: ts => sizeT t + sizeL ts
end
theorem sizeT_eq (t : T) : sizeT t = sizeL t.kids + 1 := by cases t; rfl
theorem sizeL_append : ∀ a b : List T, sizeL (a ++ b) = sizeL a + sizeL b
  | [], b => by simp [sizeL]
  | t :: a, b => by simp [sizeL, sizeL_append a b]; omega
theorem sizeL_take (l : List T) (i : Nat) : sizeL (l.take i) ≤ sizeL l := by
  have := sizeL_append (l.take i) (l.drop i)
  rw [List.take_append_drop] at this; omega
theorem sizeL_mem {t : T} : ∀ {l : List T}, t ∈ l → sizeT t ≤ sizeL l
  | a :: l, h => by
    rcases List.mem_cons.1 h with rfl | h
    · simp [sizeL]
    · have := sizeL_mem h; simp [sizeL]; omega
theorem length_sizeL : ∀ l : List T, l.length ≤ sizeL l
  | [] => by simp
  | t :: l => by have := length_sizeL l; have := sizeT_eq t; simp [sizeL]; omega
/-! counting up to a bound -/
mutual
def cntT (n : Int) : T → Int
  | .node _ _ _ _ _ _ ks => cntL n 1 ks
def cntL (n : Int) : Int → List T → Int
  | tot, [] => tot
  | tot, t :: ts => if tot > n then tot else cntL n (tot + cntT n t) ts
end
theorem cntT_eq (n : Int) (t : T) : cntT n t = cntL n 1 t.kids := by cases t; rfl
mutual
theorem cntT_bound (n : Int) : ∀ t : T, 1 ≤ cntT n t ∧ cntT n t ≤ sizeT t
  | .node _ _ _ _ _ _ ks => by
    have := cntL_bound n ks 1
    simp only [cntT, sizeT]; omega
theorem cntL_bound (n : Int) : ∀ (l : List T) (tot : Int), tot ≤ cntL n tot l ∧ cntL n tot l ≤ tot + sizeL l
  | [], tot => by simp [cntL, sizeL]
  | t :: ts, tot => by
    have h1 := cntT_bound n t
    have h2 := cntL_bound n ts (tot + cntT n t)
    simp only [cntL, sizeL]
    split <;> omega
end
/-- the total before the i-th kid, if none was too much -/
def sumC (n : Int) (l : List T) : Int := 1 + (l.map (cntT n)).sum
theorem sumC_bound (n : Int) (l : List T) : 1 ≤ sumC n l ∧ sumC n l ≤ 1 + sizeL l := by
  unfold sumC
  induction l with
  | nil => simp [sizeL]
  | cons t l ih => have := cntT_bound n t; simp [sizeL] at ih ⊢; omega
theorem cntL_all (n : Int) : ∀ (l : List T) (tot : Int), (∀ i, i < l.length → tot + ((l.take i).map (cntT n)).sum ≤ n) → cntL n tot l = tot + (l.map (cntT n)).sum
  | [], tot, _ => by simp [cntL]
  | t :: ts, tot, h => by
    have h0 := h 0 (by simp)
    simp at h0
    rw [cntL, if_neg (by omega), cntL_all n ts _ (fun i hi => by have := h (i + 1) (by simpa using hi); simp only [List.take_succ_cons, List.map_cons, List.sum_cons] at this; omega)]
    simp; omega
theorem cntL_stop (n : Int) : ∀ (l : List T) (tot : Int) (i : Nat), i < l.length → (∀ j, j < i → tot + ((l.take j).map (cntT n)).sum ≤ n) → tot + ((l.take i).map (cntT n)).sum > n → cntL n tot l = tot + ((l.take i).map (cntT n)).sum
  | t :: ts, tot, 0, _, _, h => by simp at h; simp [cntL, h]
  | t :: ts, tot, i + 1, hi, h1, h2 => by
    have h0 := h1 0 (by omega)
    simp at h0
    rw [cntL, if_neg (by omega), cntL_stop n ts _ i (by simpa using hi) (fun j hj => by have := h1 (j + 1) (by omega); simp only [List.take_succ_cons, List.map_cons, List.sum_cons] at this; omega) (by simp only [List.take_succ_cons, List.map_cons, List.sum_cons] at h2; omega)]
    simp only [List.take_succ_cons, List.map_cons, List.sum_cons]; omega
theorem sum_take_succ {α : Type} (f : α → Int) (l : List α) {i : Nat} (h : i < l.length) : ((l.take (i + 1)).map f).sum = ((l.take i).map f).sum + f l[i] := by
  rw [List.take_succ_eq_append_getElem h, List.map_append, List.sum_append]; simp
set_option maxRecDepth 100000 in
theorem countStep (n : Int) (hn : 0 ≤ n ∧ n < 2 ^ 40) (t : T) (hs : sizeT t < 2 ^ 40) (ih : ∀ u ∈ t.kids, PureFn Tryz.prog 16 [encT u, .int .i64 n] (.ret (.int .i64 (cntT n u)))) :
    PureFn Tryz.prog 16 [encT t, .int .i64 n] (.ret (.int .i64 (cntT n t))) := by
  refine PureFn.start (rs := [.tmp 4]) Tryz.func16 rfl rfl rfl (Nat.le_of_ble_eq_true rfl) (by decide) allLit ?_
  have hlen := length_sizeL t.kids
  have hst := sizeT_eq t
  simp -dsimp -implicitDefEqProofs +contextual (disch := omega) only [go_sem]
  refine loop_intro (ι := Nat) (fun i => ⟨[(1, .int .i64 n), (2, .ptr 0 0), (5, .int .i64 (sumC n (t.kids.take i))), (9, .int .i64 t.kids.length), (10, .int .i64 i)], _⟩) (fun i => i ≤ t.kids.length ∧ ∀ j, j < i → sumC n (t.kids.take j) ≤ n) (fun i => t.kids.length - i) 0 ⟨Nat.zero_le _, fun j hj => by omega⟩ (Sub.env ?_) ?_
  · simp -dsimp -implicitDefEqProofs +contextual (disch := omega) only [go_sem]
    simp [sumC]
  · rintro i ⟨hi, hj⟩
    have hb := sumC_bound n (t.kids.take i)
    have hb2 := sizeL_take t.kids i
    simp -dsimp -implicitDefEqProofs +contextual (disch := omega) only [go_sem]
    refine ⟨fun hlt => ⟨fun hc => ?_, fun hc => ?_⟩, fun hge => ?_⟩
    · rw [cntT_eq, cntL_stop n t.kids 1 i hlt hj hc]; rfl
    · refine use_call (ih _ (List.getElem_mem _)) (by simp [pureAll, pure_T]; rfl) ?_
      have hm := sum_take_succ (cntT n) t.kids hlt
      have hbt := cntT_bound n t.kids[i]
      have hst := sizeL_mem (List.getElem_mem hlt)
      simp -dsimp -implicitDefEqProofs +contextual (disch := omega) only [go_sem]
      refine loop_next (i + 1) ⟨by omega, fun j hj' => ?_⟩ (by omega) (Sub.env ?_)
      · rcases Nat.lt_or_ge j i with h | h
        · exact hj j h
        · have : j = i := by omega
          subst this; omega
      · simp -dsimp -implicitDefEqProofs +contextual (disch := omega) only [go_sem]
        simp only [sumC, hm, AV.int.injEq, true_and, and_true]; omega
    · have e : i = t.kids.length := by omega
      subst e
      rw [cntT_eq, cntL_all n t.kids 1 hj]
      simp [sumC]

theorem countFn (n : Int) (hn : 0 ≤ n ∧ n < 2 ^ 40) : ∀ (m : Nat) (t : T), sizeT t < m → sizeT t < 2 ^ 40 → PureFn Tryz.prog 16 [encT t, .int .i64 n] (.ret (.int .i64 (cntT n t)))
  | 0, t, h, _ => by omega
  | m + 1, t, h, hs => countStep n hn t hs fun u hu => by
    have h1 := sizeL_mem hu
    have h2 := sizeT_eq t
    exact countFn n hn m u (by omega) (by omega)
def greatT (t : T) : Bool := decide (cntT 200 t > 200)
set_option maxRecDepth 100000 in
theorem greatFn (t : T) (hs : sizeT t < 2 ^ 40) : PureFn Tryz.prog 8 [encT t] (.ret (.bool (greatT t))) := by
  refine PureFn.start (rs := [.tmp 2]) Tryz.func8 rfl rfl rfl (Nat.le_of_ble_eq_true rfl) (by decide) allLit ?_
  simp -dsimp -implicitDefEqProofs +contextual (disch := omega) only [go_sem]
  refine use_call (countFn 200 (by omega) _ t (Nat.lt_succ_self _) hs) (by simp [pureAll, pure_T]; rfl) ?_
  simp -dsimp -implicitDefEqProofs +contextual (disch := omega) only [go_sem]
  rfl
def greatAllT (ts : List T) : Bool := decide (ts.length > 20) || ts.any greatT
set_option maxRecDepth 100000 in
theorem greatAllFn (ts : List T) (hs : sizeL ts < 2 ^ 40) : PureFn Tryz.prog 4 [.slice 7 (ts.map encT)] (.ret (.bool (greatAllT ts))) := by
  refine PureFn.start (rs := [.tmp 2]) Tryz.func4 rfl rfl rfl (Nat.le_of_ble_eq_true rfl) (by decide) allLit ?_
  have hlen := length_sizeL ts
  simp -dsimp -implicitDefEqProofs +contextual (disch := omega) only [go_sem]
  refine ⟨fun h => ?_, fun h => ?_⟩
  · simp [greatAllT]; omega
  · refine loop_intro (ι := Nat) (fun i => ⟨[(0, .slice 7 (ts.map encT)), (2, .bool false), (8, .int .i64 ts.length), (9, .int .i64 i)], _⟩) (fun i => i ≤ ts.length ∧ ∀ t ∈ ts.take i, greatT t = false) (fun i => ts.length - i) 0 ⟨Nat.zero_le _, by simp⟩ (Sub.env ?_) ?_
    · simp -dsimp -implicitDefEqProofs +contextual (disch := omega) only [go_sem]
      simp
    · rintro i ⟨hi, hj⟩
      simp -dsimp -implicitDefEqProofs +contextual (disch := omega) only [go_sem]
      refine ⟨fun hlt => ?_, fun hge => ?_⟩
      · have hst := sizeL_mem (List.getElem_mem hlt)
        refine use_call (greatFn _ (by omega)) (by simp [pureAll, pure_T]) ?_
        simp -dsimp -implicitDefEqProofs +contextual (disch := omega) only [go_sem]
        refine ⟨fun hg => ?_, fun hg => ?_⟩
        · simp only [greatAllT]
          have : ts.any greatT = true := List.any_eq_true.2 ⟨_, List.getElem_mem hlt, hg⟩
          simp [this]
        · refine loop_next (i + 1) ⟨by omega, fun t ht => ?_⟩ (by omega) (Sub.env ?_)
          · rw [List.take_succ_eq_append_getElem hlt] at ht
            rcases List.mem_append.1 ht with h1 | h1
            · exact hj t h1
            · simp at h1; subst h1; exact hg
          · simp -dsimp -implicitDefEqProofs +contextual (disch := omega) only [go_sem]
            simp
      · have e : i = ts.length := by omega
        subst e
        have : ts.any greatT = false := by
          rw [List.any_eq_false]
          intro t ht
          have := hj t (by rw [List.take_length]; exact ht)
          simp [this]
        simp only [greatAllT, this]
        simp; omega
end Go.Sim

namespace Go.Sim
open Go.Proofs
@[go_sem, simp] theorem lt_cells (k : Nat) (t : T) : AV.ltAll k (cellsT t) = true := by cases t; simp [cellsT, AV.ltAll, AV.lt]
@[go_sem, simp] theorem lt_T (k : Nat) (t : T) : (encT t).lt k = true := by rw [encT_cells]; exact lt_cells k t
/-! depth -/
mutual
def depthT : T → Int
  | .node _ _ _ _ _ _ ks => maxD 0 ks + 1
def maxD : Int → List T → Int
  | m, [] => m
  | m, t :: ts => maxD (if depthT t > m then depthT t else m) ts
end
theorem depthT_eq (t : T) : depthT t = maxD 0 t.kids + 1 := by cases t; rfl
theorem maxD_snoc : ∀ (l : List T) (m : Int) (t : T), maxD m (l ++ [t]) = if depthT t > maxD m l then depthT t else maxD m l
  | [], m, t => rfl
  | a :: l, m, t => by simp only [List.cons_append, maxD]; exact maxD_snoc l _ t
mutual
theorem depthT_bound : ∀ t : T, 0 ≤ depthT t ∧ depthT t ≤ sizeT t
  | .node _ _ _ _ _ _ ks => by
    have := maxD_bound ks 0 (by omega)
    simp only [depthT, sizeT]; omega
theorem maxD_bound : ∀ (l : List T) (m : Int), 0 ≤ m → 0 ≤ maxD m l ∧ maxD m l ≤ m + sizeL l
  | [], m, h => by simp [maxD, sizeL, h]
  | t :: ts, m, h => by
    have h1 := depthT_bound t
    simp only [maxD, sizeL]
    by_cases hc : depthT t > m
    · have h2 := maxD_bound ts (depthT t) (by omega)
      rw [if_pos hc]; omega
    · have h2 := maxD_bound ts m (by omega)
      rw [if_neg hc]; omega
end
set_option maxRecDepth 100000 in
theorem depthStep9 (t : T) (hs : sizeT t < 2 ^ 40) (ih : ∀ u ∈ t.kids, PureFn Tryz.prog 13 [encT u] (.ret (.int .i64 (depthT u)))) : PureFn Tryz.prog 13 [encT t] (.ret (.int .i64 (depthT t))) := by
  refine PureFn.start (rs := [.tmp 2]) Tryz.func13 rfl rfl rfl (Nat.le_of_ble_eq_true rfl) (by decide) allLit ?_
  have hlen := length_sizeL t.kids
  have hst := sizeT_eq t
  simp -dsimp -implicitDefEqProofs +contextual (disch := omega) only [go_sem]
  refine loop_intro (ι := Nat) (fun i => ⟨[(1, .ptr 0 0), (2, .int .i64 0), (3, .int .i64 (maxD 0 (t.kids.take i))), (7, .slice 7 (t.kids.map encT)), (8, .int .i64 t.kids.length), (9, .int .i64 i)], _⟩) (fun i => i ≤ t.kids.length) (fun i => t.kids.length - i) 0 (Nat.zero_le _) (Sub.env ?_) ?_
  · simp -dsimp -implicitDefEqProofs +contextual (disch := omega) only [go_sem]
    simp [maxD]
  · intro i hi
    have hd1 := maxD_bound (t.kids.take i) 0 (by omega)
    have hd2 := sizeL_take t.kids i
    simp -dsimp -implicitDefEqProofs +contextual (disch := omega) only [go_sem]
    refine ⟨fun hlt => ?_, fun hge => ?_⟩
    · refine use_call (ih _ (List.getElem_mem _)) (by simp [pureAll, pure_T]) ?_
      have hm := maxD_snoc (t.kids.take i) 0 (t.kids[i])
      rw [← List.take_succ_eq_append_getElem hlt] at hm
      simp -dsimp -implicitDefEqProofs +contextual (disch := omega) only [go_sem]
      refine ⟨fun hc => ?_, fun hc => ?_⟩
      · refine loop_next (i + 1) (by omega) (by omega) (Sub.env ?_)
        simp -dsimp -implicitDefEqProofs +contextual (disch := omega) only [go_sem]
        simp [hm]; omega
      · refine loop_next (i + 1) (by omega) (by omega) (Sub.env ?_)
        simp -dsimp -implicitDefEqProofs +contextual (disch := omega) only [go_sem]
        simp [hm]; omega
    · have e : i = t.kids.length := by omega
      subst e
      simp [depthT_eq]
theorem depthFn9 : ∀ (m : Nat) (t : T), sizeT t < m → sizeT t < 2 ^ 40 → PureFn Tryz.prog 13 [encT t] (.ret (.int .i64 (depthT t)))
  | 0, t, h, _ => by omega
  | m + 1, t, h, hs => depthStep9 t hs fun u hu => by
    have h1 := sizeL_mem hu
    have h2 := sizeT_eq t
    exact depthFn9 m u (by omega) (by omega)
set_option maxRecDepth 100000 in
theorem depthStep8 (t : T) (hs : sizeT t < 2 ^ 40) (ih : ∀ u ∈ t.kids, PureFn Tryz.prog 19 [encT u] (.ret (.int .i64 (depthT u)))) : PureFn Tryz.prog 19 [encT t] (.ret (.int .i64 (depthT t))) := by
  refine PureFn.start (rs := [.tmp 2]) Tryz.func19 rfl rfl rfl (Nat.le_of_ble_eq_true rfl) (by decide) allLit ?_
  have hlen := length_sizeL t.kids
  have hst := sizeT_eq t
  simp -dsimp -implicitDefEqProofs +contextual (disch := omega) only [go_sem]
  refine loop_intro (ι := Nat) (fun i => ⟨[(1, .ptr 0 0), (2, .int .i64 0), (3, .int .i64 (maxD 0 (t.kids.take i))), (7, .slice 7 (t.kids.map encT)), (8, .int .i64 t.kids.length), (9, .int .i64 i)], _⟩) (fun i => i ≤ t.kids.length) (fun i => t.kids.length - i) 0 (Nat.zero_le _) (Sub.env ?_) ?_
  · simp -dsimp -implicitDefEqProofs +contextual (disch := omega) only [go_sem]
    simp [maxD]
  · intro i hi
    have hd1 := maxD_bound (t.kids.take i) 0 (by omega)
    have hd2 := sizeL_take t.kids i
    simp -dsimp -implicitDefEqProofs +contextual (disch := omega) only [go_sem]
    refine ⟨fun hlt => ?_, fun hge => ?_⟩
    · refine use_call (ih _ (List.getElem_mem _)) (by simp [pureAll, pure_T]) ?_
      have hm := maxD_snoc (t.kids.take i) 0 (t.kids[i])
      rw [← List.take_succ_eq_append_getElem hlt] at hm
      simp -dsimp -implicitDefEqProofs +contextual (disch := omega) only [go_sem]
      refine loop_next (i + 1) (by omega) (by omega) (Sub.trunc (k := 1) (by omega) (by simp) (by simp) (by simp [objLt, AV.ltAll, AV.lt, lt_cells]) ?_)
      simp -dsimp -implicitDefEqProofs +contextual (disch := omega) only [go_sem]
      simp [hm, AV.lt]
    · have e : i = t.kids.length := by omega
      subst e
      simp [depthT_eq]
theorem depthFn8 : ∀ (m : Nat) (t : T), sizeT t < m → sizeT t < 2 ^ 40 → PureFn Tryz.prog 19 [encT t] (.ret (.int .i64 (depthT t)))
  | 0, t, h, _ => by omega
  | m + 1, t, h, hs => depthStep8 t hs fun u hu => by
    have h1 := sizeL_mem hu
    have h2 := sizeT_eq t
    exact depthFn8 m u (by omega) (by omega)
end Go.Sim

namespace Go.Sim
open Go.Proofs
theorem Sub.env' {n0 : Nat} {e e' : Env} {H H' : Heap} (hH : H = H') (h : EnvSub e e') : Sub n0 e H e' H' := hH ▸ Sub.env h
/-! all cells of a tree -/
mutual
def allT : T → List T
  | .node k x y w h i ks => .node k x y w h i ks :: allL ks
def allL : List T → List T
  | [] => []
  | t :: ts => allT t ++ allL ts
end
theorem allT_eq (t : T) : allT t = t :: allL t.kids := by cases t; rfl
theorem allL_append : ∀ a b : List T, allL (a ++ b) = allL a ++ allL b
  | [], b => rfl
  | t :: a, b => by simp [allL, allL_append a b]
theorem allL_succ (l : List T) {i : Nat} (h : i < l.length) : allL (l.take (i + 1)) = allL (l.take i) ++ allT l[i] := by
  rw [List.take_succ_eq_append_getElem h, allL_append]; simp [allL]
mutual
theorem length_allT : ∀ t : T, (allT t).length = sizeT t
  | .node k x y w h i ks => by simp [allT, sizeT, length_allL ks]
theorem length_allL : ∀ l : List T, (allL l).length = sizeL l
  | [] => rfl
  | t :: ts => by simp [allL, sizeL, length_allT t, length_allL ts]
end
set_option maxRecDepth 100000 in
theorem allStep (t : T) (hs : sizeT t < 2 ^ 40) (ih : ∀ u ∈ t.kids, PureFn Tryz.prog 32 [encT u] (.ret (.slice 7 ((allT u).map encT)))) : PureFn Tryz.prog 32 [encT t] (.ret (.slice 7 ((allT t).map encT))) := by
  refine PureFn.start (rs := [.tmp 2]) Tryz.func32 rfl rfl rfl (Nat.le_of_ble_eq_true rfl) (by decide) noLit ?_
  have hlen := length_sizeL t.kids
  have hst := sizeT_eq t
  simp -dsimp -implicitDefEqProofs +contextual (disch := omega) only [go_sem, Nat.reduceBEq]
  refine loop_intro (ι := Nat) (fun i => ⟨[(1, .ptr 0 0), (3, .mslice 7 1 0 ((allL (t.kids.take i)).length + 1)), (9, .int .i64 t.kids.length), (10, .int .i64 i)], [some (.box (30 : Nat) (cellsT t)), some (.row (30 : Nat) 7 ((t :: allL (t.kids.take i)).map encT))]⟩) (fun i => i ≤ t.kids.length) (fun i => t.kids.length - i) 0 (Nat.zero_le _) (Sub.env' ?_ ?_) ?_
  · simp [allL]
  · simp -dsimp -implicitDefEqProofs +contextual (disch := omega) only [go_sem]
    simp [allL]
  · intro i hi
    have hd2 := sizeL_take t.kids i
    have hl := length_allL (t.kids.take i)
    simp -dsimp -implicitDefEqProofs +contextual (disch := omega) only [go_sem]
    refine ⟨fun hlt => ?_, fun hge => ?_⟩
    · refine use_call (ih _ (List.getElem_mem _)) (by simp [pureAll, pure_T]) ?_
      have hm := allL_succ t.kids hlt
      have hl2 := length_allL (t.kids.take (i + 1))
      have hd3 := sizeL_take t.kids (i + 1)
      rw [hm, List.length_append] at hl2
      simp -dsimp -implicitDefEqProofs +contextual (disch := omega) only [go_sem]

      refine ⟨by omega, ?_⟩
      refine loop_next (i + 1) (by omega) (by omega) (Sub.env' ?_ ?_)
      · simp [hm]
      · simp -dsimp -implicitDefEqProofs +contextual (disch := omega) only [go_sem]
        simp [hm]; omega
    · have e : i = t.kids.length := by omega
      subst e
      simp [allT_eq]
theorem allFn : ∀ (m : Nat) (t : T), sizeT t < m → sizeT t < 2 ^ 40 → PureFn Tryz.prog 32 [encT t] (.ret (.slice 7 ((allT t).map encT)))
  | 0, t, h, _ => by omega
  | m + 1, t, h, hs => allStep t hs fun u hu => by
    have h1 := sizeL_mem hu
    have h2 := sizeT_eq t
    exact allFn m u (by omega) (by omega)
/-! leaves -/
def isLeaf (t : T) : Bool := decide (t.kind = 1)
set_option maxRecDepth 100000 in
theorem refLeavesFn (t : T) (hs : sizeT t < 2 ^ 40) : PureFn Tryz.prog 45 [encT t] (.ret (.slice 7 (((allT t).filter isLeaf).map encT))) := by
  refine PureFn.start (rs := [.tmp 2]) Tryz.func45 rfl rfl rfl (Nat.le_of_ble_eq_true rfl) (by decide) allLit ?_
  have hlen := length_allT t
  simp -dsimp -implicitDefEqProofs +contextual (disch := omega) only [go_sem]
  refine use_call (allFn _ t (Nat.lt_succ_self _) hs) (by simp [pureAll, pure_T]) ?_
  simp -dsimp -implicitDefEqProofs +contextual (disch := omega) only [go_sem]
  refine loop_intro (ι := Nat) (fun i => ⟨[(3, .mslice 7 1 0 (((allT t).take i).filter isLeaf).length), (4, .slice 7 ((allT t).map encT)), (10, .int .i64 (allT t).length), (11, .int .i64 i)], [some (.box (30 : Nat) (cellsT t)), some (.row (30 : Nat) 7 ((((allT t).take i).filter isLeaf).map encT))]⟩) (fun i => i ≤ (allT t).length) (fun i => (allT t).length - i) 0 (Nat.zero_le _) ((Sub.nilrow 3 7 (30 : Nat) (.inr ?_)).trans (Sub.env' ?_ ?_)) ?_
  · simp -dsimp -implicitDefEqProofs +contextual (disch := omega) only [go_sem]
  · simp
  · simp -dsimp -implicitDefEqProofs +contextual (disch := omega) only [go_sem]
    simp
  · intro i hi
    have hf : (((allT t).take i).filter isLeaf).length ≤ (allT t).length := Nat.le_trans (List.length_filter_le _ _) (by simp; omega)
    simp -dsimp -implicitDefEqProofs +contextual (disch := omega) only [go_sem]
    refine ⟨fun hlt => ?_, fun hge => ?_⟩
    · have hm : ((allT t).take (i + 1)).filter isLeaf = ((allT t).take i).filter isLeaf ++ [(allT t)[i]].filter isLeaf := by
        rw [List.take_succ_eq_append_getElem hlt, List.filter_append]
      refine ⟨fun hc => ?_, fun hc => ?_⟩
      · have hq : isLeaf (allT t)[i] = true := by simpa [isLeaf] using hc
        refine ⟨by omega, ?_⟩
        refine loop_next (i + 1) (by omega) (by omega) (Sub.env' ?_ ?_)
        · simp [hm, hq]
        · simp -dsimp -implicitDefEqProofs +contextual (disch := omega) only [go_sem]
          simp [hm, hq]
      · have hq : isLeaf (allT t)[i] = false := by simpa [isLeaf] using hc
        refine loop_next (i + 1) (by omega) (by omega) (Sub.env' ?_ ?_)
        · simp [hm, hq]
        · simp -dsimp -implicitDefEqProofs +contextual (disch := omega) only [go_sem]
          simp [hm, hq]
    · have e : i = (allT t).length := by omega
      subst e
      simp
end Go.Sim

namespace Go.Sim
open Go.Proofs
@[go_sem] theorem drop5_cells (t : T) : (cellsT t).drop 5 = [.int .i64 t.id, .slice 7 (t.kids.map encT)] := by cases t; rfl
theorem Sub.trunc' {n0 : Nat} (k : Nat) {e e' : Env} {H H' : Heap} (hk : n0 ≤ k) (hl : k ≤ H.length) (hH' : H.take k = H') (ho : H'.all (objLt k) = true) (h : EnvSubLt k e e') : Sub n0 e H e' H' := Sub.trunc hk hl hH'.symm ho h
end Go.Sim

namespace Go.Sim
open Go.Proofs
/-! rectangles -/
structure R where
  x : Int
  y : Int
  w : Int
  h : Int
  deriving DecidableEq
def cellsR (r : R) : List AV := [.int .i64 r.x, .int .i64 r.y, .int .i64 r.w, .int .i64 r.h]
def encR (r : R) : AV := .agg (cellsR r)
@[go_sem] theorem fold_R (r : R) : AV.agg (cellsR r) = encR r := rfl
@[go_sem] theorem elem_R {r : R} {kl : List AV → Prop} {z} : Run (elemCells (encR r) kl) z = kl (cellsR r) := rfl
@[go_sem] theorem len_R (r : R) : (cellsR r).length = 4 := rfl
@[go_sem] theorem take_R (r : R) : (cellsR r).take 4 = cellsR r := rfl
@[go_sem] theorem width_R (r : R) : (encR r).width = some 4 := rfl
@[go_sem] theorem cellsOne_R (r : R) : (encR r).cellsOne = true := rfl
@[go_sem, simp] theorem pure_R (r : R) : (encR r).pureB = true := rfl
@[simp] theorem pureAll_mapR (l : List R) : pureAll (l.map encR) = true := pureAll_map (fun _ => rfl) l
@[go_sem] theorem ld0_R {r : R} {n : Nat} {k : AV → Prop} {z} : Run (ldCells (some (false, n)) (cellsR r) k) z = k (.int .i64 r.x) := rfl
@[go_sem] theorem drop1_R (r : R) : (cellsR r).drop 1 = [.int .i64 r.y, .int .i64 r.w, .int .i64 r.h] := rfl
@[go_sem] theorem drop2_R (r : R) : (cellsR r).drop 2 = [.int .i64 r.w, .int .i64 r.h] := rfl
@[go_sem] theorem drop3_R (r : R) : (cellsR r).drop 3 = [.int .i64 r.h] := rfl
def rectMay (r : R) : Bool := decide (0 ≤ r.x ∧ 1 ≤ r.w ∧ r.w ≤ 10000 ∧ r.x ≤ 10000 - r.w ∧ 0 ≤ r.y ∧ 1 ≤ r.h ∧ r.h ≤ 10000 ∧ r.y ≤ 10000 - r.h)
set_option maxRecDepth 100000 in
theorem rectMayFn (r : R) : PureFn Tryz.prog 94 [encR r] (.ret (.bool (rectMay r))) := by
  refine PureFn.start (rs := [.tmp 2]) Tryz.func94 rfl rfl rfl (Nat.le_of_ble_eq_true rfl) (by decide) allLit ?_
  simp -dsimp -implicitDefEqProofs +contextual (disch := omega) only [go_sem]
  simp +contextual [rectMay]; omega
set_option maxRecDepth 100000 in
theorem rectMay1Fn (r : R) : PureFn Tryz.prog 93 [encR r] (.ret (.bool (!rectMay r))) := by
  refine PureFn.start (rs := [.tmp 2]) Tryz.func93 rfl rfl rfl (Nat.le_of_ble_eq_true rfl) (by decide) allLit ?_
  simp -dsimp -implicitDefEqProofs +contextual (disch := omega) only [go_sem]
  refine use_call (rectMayFn r) (by simp [pureAll, pure_R]) ?_
  simp -dsimp -implicitDefEqProofs +contextual (disch := omega) only [go_sem]
def findR (p : R → Bool) : List R → Int → Int
  | [], _ => -1
  | r :: l, i => if p r then i else findR p l (i + 1)
theorem findR_none (p : R → Bool) : ∀ (l : List R) (i : Int), (∀ r ∈ l, p r = false) → findR p l i = -1
  | [], _, _ => rfl
  | r :: l, i, h => by rw [findR, if_neg (by simp [h r]), findR_none p l _ fun x hx => h x (by simp [hx])]
theorem findR_at (p : R → Bool) : ∀ (l : List R) (i : Int) (j : Nat) (h : j < l.length), (∀ r ∈ l.take j, p r = false) → p l[j] = true → findR p l i = i + j
  | r :: l, i, 0, _, _, hp => by simp at hp; simp [findR, hp]
  | r :: l, i, j + 1, h, hn, hp => by
    rw [findR, if_neg (by have := hn r (by simp); simp [this]), findR_at p l (i + 1) j (by simpa using h) (fun x hx => hn x (by simp [hx])) (by simpa using hp)]
    simp; omega
set_option maxRecDepth 100000 in
theorem indexRFn (p : R → Bool) (fid : FuncId) (hp : ∀ r, PureFn Tryz.prog fid [encR r] (.ret (.bool (p r)))) (rs : List R) (hs : rs.length < 2 ^ 40) :
    PureFn Tryz.prog 99 [.slice 4 (rs.map encR), .func (.func fid) [] []] (.ret (.int .i64 (findR p rs 0))) := by
  refine PureFn.start (rs := [.tmp 4]) Tryz.func99 rfl rfl rfl (Nat.le_of_ble_eq_true rfl) (by decide) allLit ?_
  simp -dsimp -implicitDefEqProofs +contextual (disch := omega) only [go_sem]
  refine loop_intro (ι := Nat) (fun i => ⟨[(0, .slice 4 (rs.map encR)), (1, .func (.func fid) [] []), (7, .int .i64 rs.length), (8, .int .i64 i)], []⟩) (fun i => i ≤ rs.length ∧ ∀ r ∈ rs.take i, p r = false) (fun i => rs.length - i) 0 ⟨Nat.zero_le _, by simp⟩ (Sub.env ?_) ?_
  · simp -dsimp -implicitDefEqProofs +contextual (disch := omega) only [go_sem]
    simp
  · rintro i ⟨hi, hj⟩
    simp -dsimp -implicitDefEqProofs +contextual (disch := omega) only [go_sem]
    refine ⟨fun hlt => ?_, fun hge => ?_⟩
    · refine use_call (hp _) (by simp [pureAll, pure_R]) ?_
      simp -dsimp -implicitDefEqProofs +contextual (disch := omega) only [go_sem]
      refine ⟨fun hc => ?_, fun hc => ?_⟩
      · rw [findR_at p rs 0 i hlt hj hc]; simp
      · refine loop_next (i + 1) ⟨by omega, fun r hr => ?_⟩ (by omega) (Sub.env ?_)
        · rw [List.take_succ_eq_append_getElem hlt] at hr
          rcases List.mem_append.1 hr with h1 | h1
          · exact hj r h1
          · simp at h1; subst h1; exact hc
        · simp -dsimp -implicitDefEqProofs +contextual (disch := omega) only [go_sem]
          simp
    · have e : i = rs.length := by omega
      subst e
      rw [List.take_length] at hj
      rw [findR_none p rs 0 hj]
theorem findR_ge (p : R → Bool) : ∀ (l : List R) (i : Int), 0 ≤ i → decide (0 ≤ findR p l i) = l.any p
  | [], i, _ => by simp [findR]
  | r :: l, i, h => by
    rw [findR]
    split
    · rename_i hp; simp [hp, h]
    · rename_i hp; simp [hp, findR_ge p l (i + 1) (by omega)]
set_option maxRecDepth 100000 in
theorem containsRFn (p : R → Bool) (fid : FuncId) (hp : ∀ r, PureFn Tryz.prog fid [encR r] (.ret (.bool (p r)))) (rs : List R) (hs : rs.length < 2 ^ 40) :
    PureFn Tryz.prog 92 [.slice 4 (rs.map encR), .func (.func fid) [] []] (.ret (.bool (rs.any p))) := by
  refine PureFn.start (rs := [.tmp 4]) Tryz.func92 rfl rfl rfl (Nat.le_of_ble_eq_true rfl) (by decide) allLit ?_
  simp -dsimp -implicitDefEqProofs +contextual (disch := omega) only [go_sem]
  refine use_call (indexRFn p fid hp rs hs) (by simp [pureAll, AV.pureB]) ?_
  simp -dsimp -implicitDefEqProofs +contextual (disch := omega) only [go_sem]
  simpa using findR_ge p rs 0 (by omega)
set_option maxRecDepth 100000 in
theorem rectsMayFn (rs : List R) (hs : rs.length < 2 ^ 40) : PureFn Tryz.prog 80 [.slice 4 (rs.map encR)] (.ret (.bool (!rs.any fun r => !rectMay r))) := by
  refine PureFn.start (rs := [.tmp 2]) Tryz.func80 rfl rfl rfl (Nat.le_of_ble_eq_true rfl) (by decide) allLit ?_
  simp -dsimp -implicitDefEqProofs +contextual (disch := omega) only [go_sem]
  refine use_call (containsRFn (fun r => !rectMay r) 93 rectMay1Fn rs hs) (by simp [pureAll, AV.pureB]) ?_
  simp -dsimp -implicitDefEqProofs +contextual (disch := omega) only [go_sem]
end Go.Sim

namespace Go.Sim
open Go.Proofs
/-! what a cell must be -/
def nodeB (t : T) : Bool :=
  if t.kind = 1 then decide (t.kids.length = 0 ∧ 0 ≤ t.id ∧ t.id ≤ 2147483647)
  else if t.kind = 2 ∨ t.kind = 3 then decide (2 ≤ t.kids.length ∧ t.id = 0) else false
set_option maxRecDepth 100000 in
theorem nodeFn (t : T) (hs : sizeT t < 2 ^ 40) : PureFn Tryz.prog 79 [encT t] (.ret (.bool (nodeB t))) := by
  refine PureFn.start (rs := [.tmp 2]) Tryz.func79 rfl rfl rfl (Nat.le_of_ble_eq_true rfl) (by decide) allLit ?_
  have hlen := length_sizeL t.kids
  have hst := sizeT_eq t
  simp -dsimp -implicitDefEqProofs +contextual (disch := omega) only [go_sem]
  have e0 : ((t.kids.length : Int) == 0) = decide (t.kids.length = 0) := by
    by_cases h : t.kids.length = 0 <;> simp [h]
  have e1 : ∀ a b : Int, (a == b) = decide (a = b) := fun a b => by by_cases h : a = b <;> simp [h]
  simp only [e0]
  simp only [e1, nodeB, decide_eq_true_eq, decide_eq_false_iff_not]
  refine ⟨fun h1 => ?_, fun h1 => ⟨fun h2 => ?_, fun h2 => ⟨fun h3 => ?_, fun h3 => ?_⟩⟩⟩
  · rw [if_pos h1]
    refine ⟨fun a => ⟨fun b => ?_, fun b => ?_⟩, fun a => ?_⟩
    · simp [a, b]
    · simp [b]
    · simp [a]
  · rw [if_neg h1, if_pos (.inl h2)]
    refine ⟨fun a => ?_, fun a => ?_⟩
    · have : 2 ≤ t.kids.length := by omega
      simp [this]
    · have : ¬ 2 ≤ t.kids.length := by omega
      simp [this]
  · rw [if_neg h1, if_pos (.inr h3)]
    refine ⟨fun a => ?_, fun a => ?_⟩
    · have : 2 ≤ t.kids.length := by omega
      simp [this]
    · have : ¬ 2 ≤ t.kids.length := by omega
      simp [this]
  · rw [if_neg h1, if_neg (by omega)]
end Go.Sim

namespace Go.Sim
open Go.Proofs
/-! trees that may be: a walk with a counter and the numbers seen -/
abbrev S := Int × List Int
def encS (s : S) : Heap := [some (.box (3 : Nat) [.int .i64 s.1]), some (.box (113 : Nat) [.map 2]), some (.map (s.2.map encI) (s.2.map fun _ => .bool true))]
def T.rect : T → R
  | .node _ x y w h _ _ => ⟨x, y, w, h⟩
@[go_sem] theorem lenR_T (t : T) : (List.drop 1 (cellsT t)).length = 6 := by cases t; rfl
@[go_sem] theorem takeR_T (t : T) : List.take 4 (List.drop 1 (cellsT t)) = cellsR t.rect := by cases t; rfl
theorem find_seen (x : Int) : ∀ (l : List Int) (i : Nat), aFind (.int .i64 x) (l.map encI) (l.map fun _ => AV.bool true) i = if x ∈ l then some (some (i + l.idxOf x, .bool true)) else some none
  | [], i => by simp [aFind]
  | y :: l, i => by
    simp only [List.map_cons, aFind, encI, aSame, if_true]
    by_cases h : x = y
    · subst h; simp
    · have := find_seen x l (i + 1)
      unfold encI at this
      simp only [h, decide_false]
      rw [show (List.map encI l) = List.map (fun n => AV.int .i64 n) l from rfl, this]
      by_cases h2 : x ∈ l
      · have hne : ¬ y = x := fun e => h e.symm
        have hne2 : (y == x) = false := by simp [hne]
        simp [h, h2, List.idxOf_cons, hne2]; omega
      · simp [h, h2]
def visit (s : S) (t : T) : Bool × S :=
  if s.1 + 1 > 20000 ∨ nodeB t = false ∨ rectMay t.rect = false ∨ (t.kind = 1 ∧ t.id ∈ s.2) then (false, (s.1 + 1, s.2))
  else (true, (s.1 + 1, if t.kind = 1 then s.2 ++ [t.id] else s.2))
theorem ltAll_map {α : Type} {f : α → AV} {k : Nat} (h : ∀ a, (f a).lt k = true) : ∀ l : List α, AV.ltAll k (l.map f) = true
  | [] => rfl
  | a :: l => by simp [AV.ltAll, h a, ltAll_map h l]
theorem ltAll_I (k : Nat) (l : List Int) : AV.ltAll k (l.map encI) = true := ltAll_map (fun _ => rfl) l
theorem ltAll_c (k : Nat) (b : Bool) (l : List Int) : AV.ltAll k (l.map fun _ => AV.bool b) = true := ltAll_map (fun _ => rfl) l
theorem ltAll_append {k : Nat} : ∀ {a b : List AV}, AV.ltAll k (a ++ b) = (AV.ltAll k a && AV.ltAll k b)
  | [], b => by simp [AV.ltAll]
  | x :: a, b => by simp [AV.ltAll, ltAll_append (a := a), Bool.and_assoc]
theorem rectMay29 (r : R) : PureFn Tryz.prog 80 [.slice 4 [encR r]] (.ret (.bool (rectMay r))) := by
  have := rectsMayFn [r] (by simp)
  simpa using this
set_option maxRecDepth 100000 in
theorem visitFn (s : S) (t : T) (hn : 0 ≤ s.1 ∧ s.1 < 2 ^ 40) (hs : sizeT t < 2 ^ 40) : ACalls Tryz.prog 78 [encT t, .ptr 0 0, .ptr 1 0] (encS s) fun r H' => r = .ret (.bool (visit s t).1) ∧ H' = encS (visit s t).2 := by
  refine ACalls.start (rs := [.tmp 4]) Tryz.func78 rfl rfl rfl (Nat.le_of_ble_eq_true rfl) (by decide) allLit ?_
  obtain ⟨n, seen⟩ := s
  simp only at hn
  simp only [encS]
  simp -dsimp -implicitDefEqProofs +contextual (disch := omega) only [go_sem]
  have hA : 3 ≤ 4 := by omega
  refine ⟨fun h1 => ?_, fun h1 => ?_⟩
  · refine use_call (nodeFn t hs) (by simp [pureAll, pure_T]) ?_
    cases h2 : nodeB t with
    | false =>
      simp -dsimp -implicitDefEqProofs +contextual (disch := omega) only [go_sem, h1]
      refine end_trunc (by simp) rfl (by simp [objLt, AV.ltAll, AV.lt, ltAll_I, ltAll_c, ltAll_append]) ⟨?_, ?_⟩ <;> simp [visit, h2, encS]
    | true =>
      simp -dsimp -implicitDefEqProofs +contextual (disch := omega) only [go_sem, h1]
      refine use_call (rectMay29 t.rect) (by simp [pureAll, AV.pureB, pure_R]) ?_
      cases h3 : rectMay t.rect with
      | false =>
        simp -dsimp -implicitDefEqProofs +contextual (disch := omega) only [go_sem, h1]
        refine end_trunc (by simp) rfl (by simp [objLt, AV.ltAll, AV.lt, ltAll_I, ltAll_c, ltAll_append]) ⟨?_, ?_⟩ <;> simp [visit, h3, encS]
      | true =>
        by_cases h5 : t.id ∈ seen
        · have hf : aFind (.int .i64 t.id) (seen.map encI) (seen.map fun _ => AV.bool true) 0 = some (some (0 + seen.idxOf t.id, .bool true)) := by rw [find_seen, if_pos h5]
          simp -dsimp -implicitDefEqProofs +contextual (disch := omega) only [go_sem, hf, h1]
          refine ⟨fun h4 => ?_, fun h4 => ?_⟩
          · have h4' : t.kind = 1 := by simpa using h4
            refine end_trunc (by simp) rfl (by simp [objLt, AV.ltAll, AV.lt, ltAll_I, ltAll_c, ltAll_append]) ⟨?_, ?_⟩ <;> simp [visit, h4', h5, encS]
          · have h4' : ¬ t.kind = 1 := by simpa using h4
            refine end_trunc (by simp) rfl (by simp [objLt, AV.ltAll, AV.lt, ltAll_I, ltAll_c, ltAll_append]) ⟨?_, ?_⟩ <;> simp [visit, h1, h2, h3, h4', encS]
        · have hf : aFind (.int .i64 t.id) (seen.map encI) (seen.map fun _ => AV.bool true) 0 = some none := by rw [find_seen, if_neg h5]
          simp -dsimp -implicitDefEqProofs +contextual (disch := omega) only [go_sem, hf, h1]
          refine ⟨fun h4 => ?_, fun h4 => ?_⟩
          · have h4' : t.kind = 1 := by simpa using h4
            refine end_trunc (by simp) rfl (by simp [objLt, AV.ltAll, AV.lt, ltAll_I, ltAll_c, ltAll_append]) ⟨?_, ?_⟩ <;> simp [visit, h1, h2, h3, h4', h5, encS, encI]
          · have h4' : ¬ t.kind = 1 := by simpa using h4
            refine end_trunc (by simp) rfl (by simp [objLt, AV.ltAll, AV.lt, ltAll_I, ltAll_c, ltAll_append]) ⟨?_, ?_⟩ <;> simp [visit, h1, h2, h3, h4', encS]
  · refine end_trunc (by simp) rfl (by simp [objLt, AV.ltAll, AV.lt, ltAll_I, ltAll_c, ltAll_append]) ⟨?_, ?_⟩ <;> simp [visit, h1, encS]
end Go.Sim

namespace Go.Sim
open Go.Proofs
mutual
def allB (s : S) : T → Bool × S
  | .node k x y w h i ks => match visit s (.node k x y w h i ks) with
    | (true, s') => listB s' ks
    | (false, s') => (false, s')
def listB (s : S) : List T → Bool × S
  | [] => (true, s)
  | t :: ts => match allB s t with
    | (true, s') => listB s' ts
    | (false, s') => (false, s')
end
theorem allB_eq (s : S) (t : T) : allB s t = if (visit s t).1 = true then listB (visit s t).2 t.kids else (false, (visit s t).2) := by
  cases t
  rw [allB]
  split <;> rename_i h <;> simp [h, T.kids]
theorem visit_bound (s : S) (t : T) (h : 0 ≤ s.1) : s.1 ≤ (visit s t).2.1 ∧ (visit s t).2.1 ≤ s.1 + 1 := by
  unfold visit
  split <;> simp <;> omega
mutual
theorem allB_bound : ∀ (t : T) (s : S), 0 ≤ s.1 → s.1 ≤ (allB s t).2.1 ∧ (allB s t).2.1 ≤ s.1 + sizeT t
  | .node k x y w h i ks, s, hs => by
    have hv := visit_bound s (.node k x y w h i ks) hs
    rw [allB_eq]
    simp only [sizeT]
    split
    · have := listB_bound ks (visit s (.node k x y w h i ks)).2 (by omega)
      simp only [T.kids]; omega
    · simp only []; omega
theorem listB_bound : ∀ (l : List T) (s : S), 0 ≤ s.1 → s.1 ≤ (listB s l).2.1 ∧ (listB s l).2.1 ≤ s.1 + sizeL l
  | [], s, hs => by simp [listB, sizeL]
  | t :: ts, s, hs => by
    have h1 := allB_bound t s hs
    simp only [listB, sizeL]
    split
    · rename_i s' h
      rw [h] at h1
      have := listB_bound ts s' (by simp only at h1; omega)
      simp only at h1
      omega
    · rename_i s' h
      rw [h] at h1
      simp only at h1 ⊢
      omega
end
def fun27 : AV := .func (.func 78) [] [.ptr 0 0, .ptr 1 0]
def encS2 (s : S) : Heap := encS s ++ [some (.box (32 : Nat) [fun27])]
def fun32 : AV := .func (.func 91) [] [.ptr 3 0]
/-- the contract of cell.all with this walk -/
def AllC (s : S) (t : T) : Prop := ACalls Tryz.prog 77 [encT t, fun27] (encS s) fun r H' => r = .ret (.bool (allB s t).1) ∧ H' = encS (allB s t).2
mutual
theorem ren_pure (ρ : Nat → Nat) : ∀ v : AV, v.pureB = true → v.ren ρ = v
  | .any, _ | .bool _, _ | .int _ _, _ | .str _, _ | .nilp, _ | .cptr _ _, _ | .nilslice, _ | .zcap, _ | .slice _ _, _ | .nilmap, _ | .cmap _ _, _ | .nilfunc, _ | .niliface, _ => rfl
  | .ptr _ _, h | .mslice _ _ _ _, h | .meptr _ _ _ _ _, h | .map _, h => by cases h
  | .func fn f c, h => by
    simp only [AV.pureB, Bool.and_eq_true] at h
    simp only [AV.ren, renAll_pure ρ f h.1, renAll_pure ρ c h.2]
  | .iface t v, h => by
    simp only [AV.ren, ren_pure ρ v h]
  | .agg cs, h => by simp only [AV.ren, renAll_pure ρ cs h]
  | .tuple cs, h => by simp only [AV.ren, renAll_pure ρ cs h]
theorem renAll_pure (ρ : Nat → Nat) : ∀ vs : List AV, pureAll vs = true → renAll ρ vs = vs
  | [], _ => rfl
  | v :: vs, h => by
    simp only [pureAll, Bool.and_eq_true] at h
    simp only [renAll, ren_pure ρ v h.1, renAll_pure ρ vs h.2]
end
@[simp] theorem ren_T (ρ : Nat → Nat) (t : T) : (encT t).ren ρ = encT t := ren_pure ρ _ (pure_T t)
@[simp] theorem ren_cells (ρ : Nat → Nat) (t : T) : renAll ρ (cellsT t) = cellsT t := renAll_pure ρ _ (by have := pure_T t; rw [encT_cells] at this; exact this)
@[simp] theorem ren_I (ρ : Nat → Nat) (l : List Int) : renAll ρ (l.map encI) = l.map encI := renAll_pure ρ _ (pureAll_map (fun _ => rfl) l)
@[simp] theorem ren_c (ρ : Nat → Nat) (b : Bool) (l : List Int) : renAll ρ (l.map fun _ => AV.bool b) = l.map fun _ => AV.bool b := renAll_pure ρ _ (pureAll_map (fun _ => rfl) l)
set_option maxRecDepth 100000 in
theorem all1Fn (s : S) (t : T) (ih : AllC s t) : ACalls Tryz.prog 91 [encT t, .ptr 3 0] (encS2 s) fun r H' => r = .ret (.bool (!(allB s t).1)) ∧ H' = encS2 (allB s t).2 := by
  refine ACalls.start (rs := [.tmp 3]) Tryz.func91 rfl rfl rfl (Nat.le_of_ble_eq_true rfl) (by decide) allLit ?_
  simp only [encS2, encS, fun27]
  simp -dsimp -implicitDefEqProofs +contextual (disch := omega) only [go_sem]
  refine use_frame [0, 1, 2] ih (by decide) rfl (by simp) (by simp [encS, fun27, lt_T]) (by simp [fun27, ren_T]) (by simp [encS, ren_I, ren_c, ltAll_I, ltAll_c]) (r2 := .ret (.bool (allB s t).1)) rfl (H2 := encS (allB s t).2 ++ [some (.box (32 : Nat) [fun27]), some (.box (30 : Nat) (cellsT t))]) (by simp [encS, fun27, ren_I, ren_c]) ?_
  simp -dsimp -implicitDefEqProofs +contextual (disch := omega) only [go_sem]
  refine end_trunc (by simp [encS]) rfl (by simp [encS, fun27, ltAll_I, ltAll_c]) ⟨rfl, ?_⟩
  simp [encS, fun27]

/-- the index of the first kid that may not be, and the state behind -/
def idxB : S → Int → List T → Int × S
  | s, _, [] => (-1, s)
  | s, i, t :: ts => match allB s t with
    | (true, s') => idxB s' (i + 1) ts
    | (false, s') => (i, s')
theorem idxB_list : ∀ (l : List T) (s : S) (i : Int), 0 ≤ i → (idxB s i l).2 = (listB s l).2 ∧ (0 ≤ (idxB s i l).1 ↔ (listB s l).1 = false)
  | [], s, i, h => by simp [idxB, listB]
  | t :: ts, s, i, h => by
    simp only [idxB, listB]
    rcases he : allB s t with ⟨_ | _, s'⟩
    · simp [h]
    · exact idxB_list ts s' (i + 1) (by omega)
set_option maxRecDepth 100000 in
theorem indexFn (ks : List T) (s : S) (h0 : 0 ≤ s.1) (hs : s.1 + sizeL ks < 2 ^ 40) (ih : ∀ t ∈ ks, ∀ s' : S, 0 ≤ s'.1 → s'.1 + sizeT t < 2 ^ 40 → AllC s' t) :
    ACalls Tryz.prog 25 [.slice 7 (ks.map encT), fun32] (encS2 s) fun r H' => r = .ret (.int .i64 (idxB s 0 ks).1) ∧ H' = encS2 (idxB s 0 ks).2 := by
  refine ACalls.start (rs := [.tmp 4]) Tryz.func25 rfl rfl rfl (Nat.le_of_ble_eq_true rfl) (by decide) allLit ?_
  have hlen := length_sizeL ks
  simp only [fun32]
  simp -dsimp -implicitDefEqProofs +contextual (disch := omega) only [go_sem]
  refine loop_intro (ι := Nat × S) (fun p => ⟨[(0, .slice 7 (ks.map encT)), (1, .func (.func 91) [] [.ptr 3 0]), (7, .int .i64 ks.length), (8, .int .i64 p.1)], encS2 p.2⟩) (fun p => p.1 ≤ ks.length ∧ 0 ≤ p.2.1 ∧ p.2.1 + sizeL (ks.drop p.1) ≤ s.1 + sizeL ks ∧ idxB s 0 ks = idxB p.2 p.1 (ks.drop p.1)) (fun p => ks.length - p.1) (0, s) ⟨Nat.zero_le _, h0, by simp, by simp⟩ (Sub.env ?_) ?_
  · simp -dsimp -implicitDefEqProofs +contextual (disch := omega) only [go_sem]
    simp
  · rintro ⟨i, s'⟩ ⟨hi, hs', hsz, hj⟩
    simp only at hi hs' hj hsz
    simp -dsimp -implicitDefEqProofs +contextual (disch := omega) only [go_sem]
    refine ⟨fun hlt => ?_, fun hge => ?_⟩
    · have hb := allB_bound ks[i] s' hs'
      have hd : ks.drop i = ks[i] :: ks.drop (i + 1) := List.drop_eq_getElem_cons hlt
      rw [hd] at hj hsz
      simp only [idxB, sizeL] at hj hsz
      refine use_acalls (all1Fn s' ks[i] (ih _ (List.getElem_mem _) s' hs' (by omega))) ?_
      rintro r H' ⟨rfl, rfl⟩
      simp -dsimp -implicitDefEqProofs +contextual (disch := omega) only [go_sem]
      refine ⟨fun hc => ?_, fun hc => ?_⟩
      · have hc' : (allB s' ks[i]).1 = false := by simpa using hc
        have he : allB s' ks[i] = (false, (allB s' ks[i]).2) := by rw [← hc']
        rw [he] at hj
        refine end_same ⟨?_, ?_⟩
        · rw [hj]
        · rw [hj]
      · have hc' : (allB s' ks[i]).1 = true := by simpa using hc
        have he : allB s' ks[i] = (true, (allB s' ks[i]).2) := by rw [← hc']
        rw [he] at hj
        refine loop_next (i + 1, (allB s' ks[i]).2) ⟨by simp only; omega, by simp only; omega, by simp only; omega, ?_⟩ (by simp only; omega) (Sub.env' rfl ?_)
        · simp only; rw [hj]; simp
        · simp -dsimp -implicitDefEqProofs +contextual (disch := omega) only [go_sem]
          simp
    · have e : i = ks.length := by omega
      subst e
      rw [List.drop_length] at hj
      refine end_same ⟨?_, ?_⟩
      · rw [hj]; rfl
      · rw [hj]; rfl
set_option maxRecDepth 100000 in
theorem containsFn (ks : List T) (s : S) (h0 : 0 ≤ s.1) (hs : s.1 + sizeL ks < 2 ^ 40) (ih : ∀ t ∈ ks, ∀ s' : S, 0 ≤ s'.1 → s'.1 + sizeT t < 2 ^ 40 → AllC s' t) :
    ACalls Tryz.prog 14 [.slice 7 (ks.map encT), fun32] (encS2 s) fun r H' => r = .ret (.bool (!(listB s ks).1)) ∧ H' = encS2 (listB s ks).2 := by
  refine ACalls.start (rs := [.tmp 4]) Tryz.func14 rfl rfl rfl (Nat.le_of_ble_eq_true rfl) (by decide) allLit ?_
  simp -dsimp -implicitDefEqProofs +contextual (disch := omega) only [go_sem]
  refine use_acalls (indexFn ks s h0 hs ih) ?_
  rintro r H' ⟨rfl, rfl⟩
  have hb := idxB_list ks s 0 (by omega)
  simp -dsimp -implicitDefEqProofs +contextual (disch := omega) only [go_sem]
  refine end_same ⟨?_, ?_⟩
  · cases hq : (listB s ks).1 <;> simp [hb.2, hq]
  · rw [hb.1]
set_option maxRecDepth 100000 in
theorem noneFn (ks : List T) (s : S) (h0 : 0 ≤ s.1) (hs : s.1 + sizeL ks < 2 ^ 40) (ih : ∀ t ∈ ks, ∀ s' : S, 0 ≤ s'.1 → s'.1 + sizeT t < 2 ^ 40 → AllC s' t) :
    ACalls Tryz.prog 61 [.slice 7 (ks.map encT), fun32] (encS2 s) fun r H' => r = .ret (.bool (listB s ks).1) ∧ H' = encS2 (listB s ks).2 := by
  refine ACalls.start (rs := [.tmp 4]) Tryz.func61 rfl rfl rfl (Nat.le_of_ble_eq_true rfl) (by decide) allLit ?_
  simp -dsimp -implicitDefEqProofs +contextual (disch := omega) only [go_sem]
  refine use_acalls (containsFn ks s h0 hs ih) ?_
  rintro r H' ⟨rfl, rfl⟩
  simp -dsimp -implicitDefEqProofs +contextual (disch := omega) only [go_sem]
  refine end_same ⟨?_, rfl⟩
  simp
end Go.Sim

namespace Go.Sim
open Go.Proofs
set_option maxRecDepth 100000 in
theorem allCStep (t : T) (s : S) (hs : 0 ≤ s.1) (hz : s.1 + sizeT t < 2 ^ 40) (ih : ∀ u ∈ t.kids, ∀ s' : S, 0 ≤ s'.1 → s'.1 + sizeT u < 2 ^ 40 → AllC s' u) : AllC s t := by
  have hv := visitFn s t ⟨hs, by omega⟩ (by omega)
  have hvb := visit_bound s t hs
  have hst := sizeT_eq t
  have hno := noneFn t.kids (visit s t).2 (by omega) (by omega) ih
  show ACalls _ _ _ _ _
  refine ACalls.start (rs := [.tmp 4]) Tryz.func77 rfl rfl rfl (Nat.le_of_ble_eq_true rfl) (by decide) allLit ?_
  simp only [encS, fun27]
  simp -dsimp -implicitDefEqProofs +contextual (disch := omega) only [go_sem]
  refine use_frame [0, 1, 2] hv (by decide) rfl (by simp) (by simp [encS, lt_T]) (by simp [ren_T]) (by simp [encS, ren_I, ren_c, ltAll_I, ltAll_c]) (r2 := .ret (.bool (visit s t).1)) rfl (H2 := encS (visit s t).2 ++ [some (.box (30 : Nat) (cellsT t)), some (.box (32 : Nat) [fun27])]) (by simp [encS, fun27, ren_I, ren_c]) ?_
  simp only [encS, fun27]
  cases hb : (visit s t).1 with
  | false =>
    simp -dsimp -implicitDefEqProofs +contextual (disch := omega) only [go_sem]
    refine end_trunc (by simp [encS]) rfl (by simp [encS, fun27, ltAll_I, ltAll_c]) ⟨?_, ?_⟩
    · simp [allB_eq, hb]
    · simp [encS, fun27, allB_eq, hb]
  | true =>
    simp -dsimp -implicitDefEqProofs +contextual (disch := omega) only [go_sem]
    refine use_frame [0, 1, 2, 4] hno (by decide) rfl (by simp) (by simp [encS2, encS, lt_T, fun32]) (by simp [fun32]) (by simp [encS2, encS, fun27, ren_I, ren_c, ltAll_I, ltAll_c]) (r2 := .ret (.bool (listB (visit s t).2 t.kids).1)) rfl (H2 := encS (listB (visit s t).2 t.kids).2 ++ [some (.box (30 : Nat) (cellsT t)), some (.box (32 : Nat) [fun27])]) (by simp [encS2, encS, fun27, ren_I, ren_c]) ?_
    simp only [encS, fun27]
    simp -dsimp -implicitDefEqProofs +contextual (disch := omega) only [go_sem]
    refine end_trunc (by simp [encS]) rfl (by simp [encS, fun27, ltAll_I, ltAll_c]) ⟨?_, ?_⟩
    · simp [allB_eq, hb]
    · simp [encS, fun27, allB_eq, hb]
theorem allC : ∀ (m : Nat) (t : T) (s : S), sizeT t < m → 0 ≤ s.1 → s.1 + sizeT t < 2 ^ 40 → AllC s t
  | 0, t, s, h, _, _ => by omega
  | m + 1, t, s, h, h0, hz => allCStep t s h0 hz fun u hu s' h1 h2 => by
    have h3 := sizeL_mem hu
    have h4 := sizeT_eq t
    exact allC m u s' (by omega) h1 h2
def mayT (t : T) : Bool := (allB (0, []) t).1
set_option maxRecDepth 100000 in
theorem mayTFn (t : T) (hz : sizeT t < 2 ^ 40) : PureFn Tryz.prog 63 [encT t] (.ret (.bool (mayT t))) := by
  refine PureFn.start (rs := [.tmp 2]) Tryz.func63 rfl rfl rfl (Nat.le_of_ble_eq_true rfl) (by decide) allLit ?_
  have hc := allC (sizeT t + 1) t (0, []) (by omega) (by simp) (by simp; omega)
  simp -dsimp -implicitDefEqProofs +contextual (disch := omega) only [go_sem]
  refine use_frame [3, 2, 1] hc (by decide) rfl (by simp) (by simp [encS, fun27, lt_T]) (by simp [ren_T, fun27]) (by simp [encS]) (r2 := .ret (.bool (mayT t))) rfl (H2 := [some (.box (30 : Nat) (cellsT t)), some (.map ((allB (0, []) t).2.2.map encI) ((allB (0, []) t).2.2.map fun _ => .bool true)), some (.box (113 : Nat) [.map 1]), some (.box (3 : Nat) [.int .i64 (allB (0, []) t).2.1])]) (by simp [encS, ren_I, ren_c]) ?_
  simp -dsimp -implicitDefEqProofs +contextual (disch := omega) only [go_sem]
set_option maxRecDepth 100000 in
theorem may1Fn (t : T) (hz : sizeT t < 2 ^ 40) : PureFn Tryz.prog 62 [encT t] (.ret (.bool (!mayT t))) := by
  refine PureFn.start (rs := [.tmp 2]) Tryz.func62 rfl rfl rfl (Nat.le_of_ble_eq_true rfl) (by decide) allLit ?_
  simp -dsimp -implicitDefEqProofs +contextual (disch := omega) only [go_sem]
  refine use_call (mayTFn t hz) (by simp [pureAll, pure_T]) ?_
  simp -dsimp -implicitDefEqProofs +contextual (disch := omega) only [go_sem]
def findT (p : T → Bool) : List T → Int → Int
  | [], _ => -1
  | r :: l, i => if p r then i else findT p l (i + 1)
theorem findT_none (p : T → Bool) : ∀ (l : List T) (i : Int), (∀ r ∈ l, p r = false) → findT p l i = -1
  | [], _, _ => rfl
  | r :: l, i, h => by rw [findT, if_neg (by simp [h r]), findT_none p l _ fun x hx => h x (by simp [hx])]
theorem findT_at (p : T → Bool) : ∀ (l : List T) (i : Int) (j : Nat) (h : j < l.length), (∀ r ∈ l.take j, p r = false) → p l[j] = true → findT p l i = i + j
  | r :: l, i, 0, _, _, hp => by simp at hp; simp [findT, hp]
  | r :: l, i, j + 1, h, hn, hp => by
    rw [findT, if_neg (by have := hn r (by simp); simp [this]), findT_at p l (i + 1) j (by simpa using h) (fun x hx => hn x (by simp [hx])) (by simpa using hp)]
    simp; omega
theorem findT_ge (p : T → Bool) : ∀ (l : List T) (i : Int), 0 ≤ i → decide (0 ≤ findT p l i) = l.any p
  | [], i, _ => by simp [findT]
  | r :: l, i, h => by
    rw [findT]
    split
    · rename_i hp; simp [hp, h]
    · rename_i hp; simp [hp, findT_ge p l (i + 1) (by omega)]
set_option maxRecDepth 100000 in
theorem indexTFn (p : T → Bool) (fid : FuncId) (ts : List T) (hp : ∀ t ∈ ts, PureFn Tryz.prog fid [encT t] (.ret (.bool (p t)))) (hs : ts.length < 2 ^ 40) :
    PureFn Tryz.prog 25 [.slice 7 (ts.map encT), .func (.func fid) [] []] (.ret (.int .i64 (findT p ts 0))) := by
  refine PureFn.start (rs := [.tmp 4]) Tryz.func25 rfl rfl rfl (Nat.le_of_ble_eq_true rfl) (by decide) allLit ?_
  simp -dsimp -implicitDefEqProofs +contextual (disch := omega) only [go_sem]
  refine loop_intro (ι := Nat) (fun i => ⟨[(0, .slice 7 (ts.map encT)), (1, .func (.func fid) [] []), (7, .int .i64 ts.length), (8, .int .i64 i)], []⟩) (fun i => i ≤ ts.length ∧ ∀ r ∈ ts.take i, p r = false) (fun i => ts.length - i) 0 ⟨Nat.zero_le _, by simp⟩ (Sub.env ?_) ?_
  · simp -dsimp -implicitDefEqProofs +contextual (disch := omega) only [go_sem]
    simp
  · rintro i ⟨hi, hj⟩
    simp -dsimp -implicitDefEqProofs +contextual (disch := omega) only [go_sem]
    refine ⟨fun hlt => ?_, fun hge => ?_⟩
    · refine use_call (hp _ (List.getElem_mem _)) (by simp [pureAll, pure_T]) ?_
      simp -dsimp -implicitDefEqProofs +contextual (disch := omega) only [go_sem]
      refine ⟨fun hc => ?_, fun hc => ?_⟩
      · rw [findT_at p ts 0 i hlt hj hc]; simp
      · refine loop_next (i + 1) ⟨by omega, fun r hr => ?_⟩ (by omega) (Sub.env ?_)
        · rw [List.take_succ_eq_append_getElem hlt] at hr
          rcases List.mem_append.1 hr with h1 | h1
          · exact hj r h1
          · simp at h1; subst h1; exact hc
        · simp -dsimp -implicitDefEqProofs +contextual (disch := omega) only [go_sem]
          simp
    · have e : i = ts.length := by omega
      subst e
      rw [List.take_length] at hj
      rw [findT_none p ts 0 hj]
set_option maxRecDepth 100000 in
theorem containsTFn (p : T → Bool) (fid : FuncId) (ts : List T) (hp : ∀ t ∈ ts, PureFn Tryz.prog fid [encT t] (.ret (.bool (p t)))) (hs : ts.length < 2 ^ 40) :
    PureFn Tryz.prog 14 [.slice 7 (ts.map encT), .func (.func fid) [] []] (.ret (.bool (ts.any p))) := by
  refine PureFn.start (rs := [.tmp 4]) Tryz.func14 rfl rfl rfl (Nat.le_of_ble_eq_true rfl) (by decide) allLit ?_
  simp -dsimp -implicitDefEqProofs +contextual (disch := omega) only [go_sem]
  refine use_call (indexTFn p fid ts hp hs) (by simp [pureAll, AV.pureB]) ?_
  simp -dsimp -implicitDefEqProofs +contextual (disch := omega) only [go_sem]
  simpa using findT_ge p ts 0 (by omega)
set_option maxRecDepth 100000 in
theorem noneTFn (p : T → Bool) (fid : FuncId) (ts : List T) (hp : ∀ t ∈ ts, PureFn Tryz.prog fid [encT t] (.ret (.bool (p t)))) (hs : ts.length < 2 ^ 40) :
    PureFn Tryz.prog 61 [.slice 7 (ts.map encT), .func (.func fid) [] []] (.ret (.bool (!ts.any p))) := by
  refine PureFn.start (rs := [.tmp 4]) Tryz.func61 rfl rfl rfl (Nat.le_of_ble_eq_true rfl) (by decide) allLit ?_
  simp -dsimp -implicitDefEqProofs +contextual (disch := omega) only [go_sem]
  refine use_call (containsTFn p fid ts hp hs) (by simp [pureAll, AV.pureB]) ?_
  simp -dsimp -implicitDefEqProofs +contextual (disch := omega) only [go_sem]
set_option maxRecDepth 100000 in
theorem mayFn (ts : List T) (hs : sizeL ts < 2 ^ 40) : PureFn Tryz.prog 48 [.slice 7 (ts.map encT)] (.ret (.bool (!ts.any fun t => !mayT t))) := by
  refine PureFn.start (rs := [.tmp 2]) Tryz.func48 rfl rfl rfl (Nat.le_of_ble_eq_true rfl) (by decide) allLit ?_
  have hlen := length_sizeL ts
  simp -dsimp -implicitDefEqProofs +contextual (disch := omega) only [go_sem]
  refine use_call (noneTFn (fun t => !mayT t) 62 ts (fun t ht => may1Fn t (by have := sizeL_mem ht; omega)) (by omega)) (by simp [pureAll, AV.pureB]) ?_
  simp -dsimp -implicitDefEqProofs +contextual (disch := omega) only [go_sem]
end Go.Sim

namespace Go.Proofs
open Go.RowKit
theorem tz16_idx : (IntKind.u64.wrap (bits BinOp.and IntKind.u64 16 (IntKind.u64.wrap (-16)) * 285870213051353865) / 288230376151711744).toNat = 15 := by decide +kernel
theorem tz16 (w : World) (h : w.cell? ⟨3, 15, none⟩ = some (.int .u8 4)) : Calls Tryz.prog 98 #[.int .u64 16] w fun e w' => e = .returned (.int .i64 4) ∧ w' = w := by
  rw [← tz16_idx] at h
  go_enter Tryz.func98, Tryz.ntmps98
  go_wp2
  go_ret
  exact ⟨rfl, rfl⟩
end Go.Proofs
