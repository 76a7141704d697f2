/- Each function that the law reaches computes what its Lean twin computes: what tiles, texts, and the law itself. -/
import Derived.Test.YtnfaajgnecjkiaaGreatDoorWalkB
import Derived.Test.YtnfaajgnecjkiaaGreatDoorSimF
set_option linter.unusedVariables false
set_option linter.unusedSimpArgs false
namespace Go.Sim
open Go.Proofs
/-! ### cutting a rectangle -/
def turnR (r : R) (a : Int) : R := if a = 2 then ⟨r.y, r.x, r.h, r.w⟩ else r
theorem turnR_may (r : R) (a : Int) : rectMay (turnR r a) = rectMay r := by
  unfold turnR rectMay
  split
  · simp only [decide_eq_decide]; constructor <;> rintro ⟨h1, h2, h3, h4, h5, h6, h7, h8⟩ <;> exact ⟨h5, h6, h7, h8, h1, h2, h3, h4⟩
  · rfl
theorem rectMay_iff {r : R} (h : rectMay r = true) : 0 ≤ r.x ∧ 1 ≤ r.w ∧ r.w ≤ 10000 ∧ r.x ≤ 10000 - r.w ∧ 0 ≤ r.y ∧ 1 ≤ r.h ∧ r.h ≤ 10000 ∧ r.y ≤ 10000 - r.h := by simpa [rectMay] using h
def cutGo (r : R) (a : Int) : Bool → Int → List R → List R → List Int → Option (List R × List R)
  | _, x, ps, bs, [] => if x = r.x + r.w then some (ps, bs) else none
  | c, x, ps, bs, n :: l =>
    if n < 1 ∨ n > r.x + r.w - (if c then x + 1 else x) then none
    else cutGo r a true ((if c then x + 1 else x) + n) (ps ++ [turnR ⟨if c then x + 1 else x, r.y, n, r.h⟩ a]) (if c then bs ++ [turnR ⟨x, r.y, 1, r.h⟩ a] else bs) l
def cutR (r : R) (a : Int) (ns : List Int) : Option (List R × List R) :=
  if rectMay r = false ∨ a < 1 ∨ a > 2 ∨ ns = [] then none else cutGo (turnR r a) a false (turnR r a).x [] [] ns
def encCut : Option (List R × List R) → AV
  | none => .tuple [.slice 4 [], .slice 4 [], .bool false]
  | some (p, b) => .tuple [.slice 4 (p.map encR), .slice 4 (b.map encR), .bool true]
@[simp] theorem ren_R (ρ : Nat → Nat) (r : R) : (encR r).ren ρ = encR r := rfl
@[simp] theorem ren_cellsR (ρ : Nat → Nat) (r : R) : renAll ρ (cellsR r) = cellsR r := rfl
@[go_sem, simp] theorem lt_R (k : Nat) (r : R) : (encR r).lt k = true := rfl
@[go_sem, simp] theorem lt_cellsR (k : Nat) (r : R) : AV.ltAll k (cellsR r) = true := rfl
@[go_sem] theorem setC_R (r : R) {a b c d : AV} : setC [a, b, c, d] 0 (cellsR r) = cellsR r := rfl
@[go_sem] theorem setC_RR (r q : R) : setC (cellsR q) 0 (cellsR r) = cellsR r := rfl
@[go_sem] theorem one_cellsR (r : R) : (cellsR r).all AV.one = true := rfl
@[go_sem] theorem drop4_T (t : T) : (cellsT t).drop 4 = [.int .i64 t.rect.h, .int .i64 t.id, .slice 7 (t.kids.map encT)] := by cases t; rfl
@[go_sem] theorem drop3_T (t : T) : (cellsT t).drop 3 = [.int .i64 t.rect.w, .int .i64 t.rect.h, .int .i64 t.id, .slice 7 (t.kids.map encT)] := by cases t; rfl
@[go_sem] theorem drop2_T (t : T) : (cellsT t).drop 2 = [.int .i64 t.rect.y, .int .i64 t.rect.w, .int .i64 t.rect.h, .int .i64 t.id, .slice 7 (t.kids.map encT)] := by cases t; rfl
@[go_sem] theorem ld1_T {t : T} {n : Nat} {k : AV → Prop} {z} : Run (ldCells (some (false, n)) ((cellsT t).drop 1) k) z = k (.int .i64 t.rect.x) := by cases t; rfl
set_option maxRecDepth 100000 in
theorem refRectMayFn (r : R) : PureFn Tryz.prog 44 [encR r] (.ret (.bool (rectMay r))) := by
  refine PureFn.start (rs := [.tmp 2]) Tryz.func44 rfl rfl rfl (Nat.le_of_ble_eq_true rfl) (by decide) allLit ?_
  simp -dsimp -implicitDefEqProofs +contextual (disch := omega) only [go_sem]
  simp only [rectMay, eq_comm (a := false), decide_eq_false_iff_not, decide_eq_decide]
  omega
set_option maxRecDepth 100000 in
theorem turnedFn (r : R) (a : Int) (ha : a = 1 ∨ a = 2) : PureFn Tryz.prog 100 [encR r, .int .u8 a] (.ret (.tuple [encR (turnR r a), .bool true])) := by
  refine PureFn.start (rs := [.cell 4 (28 : Nat), .tmp 5]) Tryz.func100 rfl rfl rfl (Nat.le_of_ble_eq_true rfl) (by decide) allLit ?_
  obtain ⟨x, y, w, h⟩ := r
  simp only [encR, cellsR]
  rcases ha with rfl | rfl
  · simp -dsimp -implicitDefEqProofs +contextual (disch := omega) only [go_sem]
    simp [Frz, turnR, pureAll, AV.pureB]
  · simp -dsimp -implicitDefEqProofs +contextual (disch := omega) only [go_sem]
    simp [Frz, turnR, pureAll, AV.pureB]
abbrev CutI := Nat × Int × List R × List R
set_option maxRecDepth 100000 in
theorem cutFn (r : R) (a : Int) (ha : a = 1 ∨ a = 2) (ns : List Int) (hn : ns.length < 2 ^ 40) : PureFn Tryz.prog 95 [encR r, .int .u8 a, .slice 1 (ns.map encI)] (.ret (encCut (cutR r a ns))) := by
  refine PureFn.start (rs := [.tmp 6, .tmp 7, .tmp 8]) Tryz.func95 rfl rfl rfl (Nat.le_of_ble_eq_true rfl) (by decide) allLit ?_
  simp -dsimp -implicitDefEqProofs +contextual (disch := omega) only [go_sem]
  refine use_call (turnedFn r a ha) (by simp [pureAll, pure_R, AV.pureB]) ?_
  simp -dsimp -implicitDefEqProofs +contextual (disch := omega) only [go_sem]
  refine use_call (rectMayFn r) (by simp [pureAll, pure_R]) ?_
  cases hm : rectMay r with
  | false =>
    simp -dsimp -implicitDefEqProofs +contextual (disch := omega) only [go_sem]
    simp [cutR, hm, encCut, Frz, All2, AV.pureB]
  | true =>
    simp -dsimp -implicitDefEqProofs +contextual (disch := omega) only [go_sem]
    refine ⟨fun h => ?_, fun h => ?_⟩
    · have : ns = [] := by simpa using h
      simp [cutR, this, encCut, Frz, All2, AV.pureB]
    have hne : ns ≠ [] := by simpa using h
    have hcr : cutR r a ns = cutGo (turnR r a) a false (turnR r a).x [] [] ns := by
      unfold cutR; rw [if_neg (by simp [hm, hne]; omega)]
    rw [hcr]
    have hq := rectMay_iff ((turnR_may r a).trans hm)
    generalize turnR r a = q at *
    refine loop_intro (ι := CutI) (fun p => ⟨[(1, .int .u8 a), (9, .ptr 1 0), (11, .mslice 4 2 0 p.2.2.1.length), (12, .mslice 4 3 0 p.2.2.2.length), (13, .int .i64 p.2.1), (40, .slice 1 (ns.map encI)), (41, .int .i64 ns.length), (42, .int .i64 p.1)], [some (.box (28 : Nat) (cellsR r)), some (.box (28 : Nat) (cellsR q)), some (.row (28 : Nat) 4 (p.2.2.1.map encR)), some (.row (28 : Nat) 4 (p.2.2.2.map encR))]⟩)
      (fun p => p.1 ≤ ns.length ∧ q.x ≤ p.2.1 ∧ p.2.1 ≤ q.x + q.w ∧ p.2.2.1.length ≤ p.1 ∧ p.2.2.2.length ≤ p.1 ∧ cutGo q a false q.x [] [] ns = cutGo q a (decide (0 < p.1)) p.2.1 p.2.2.1 p.2.2.2 (ns.drop p.1)) (fun p => ns.length - p.1) (0, q.x, [], [])
      ⟨Nat.zero_le _, by simp, by simp only; omega, by simp, by simp, by simp⟩ ((Sub.nilrow 11 4 (28 : Nat) (.inl ?_)).trans ((Sub.nilrow 12 4 (28 : Nat) (.inl ?_)).trans (Sub.env' ?_ ?_))) ?_
    · simp -dsimp -implicitDefEqProofs +contextual (disch := omega) only [go_sem]
    · simp -dsimp -implicitDefEqProofs +contextual (disch := omega) only [go_sem]
    · simp
    · simp -dsimp -implicitDefEqProofs +contextual (disch := omega) only [go_sem] <;> simp
    · rintro ⟨i, x, ps, bs⟩ ⟨hi, hx1, hx2, hp1, hp2, hc⟩
      simp only at hi hx1 hx2 hp1 hp2 hc
      simp -dsimp -implicitDefEqProofs +contextual (disch := omega) only [go_sem]
      refine ⟨fun hlt => ?_, fun hge => ?_⟩
      · rw [List.drop_eq_getElem_cons hlt, cutGo] at hc
        refine ⟨fun h0 => ?_, fun h0 => ?_⟩
        · have h0' : 0 < i := by omega
          refine use_call (turnedFn ⟨x, q.y, 1, q.h⟩ a ha) (by simp [pureAll, AV.pureB]) ?_
          simp only [h0', decide_true, if_true] at hc
          simp -dsimp -implicitDefEqProofs +contextual (disch := omega) only [go_sem]
          refine ⟨by omega, fun h1 => ⟨fun h2 => ?_, fun h2 => ?_⟩, fun h1 => ?_⟩
          · rw [if_pos (by omega)] at hc
            rw [hc]; simp [encCut, Frz, All2, AV.pureB]
          · rw [if_neg (by omega)] at hc
            refine use_call (turnedFn ⟨x + 1, q.y, ns[i], q.h⟩ a ha) (by simp [pureAll, AV.pureB]) ?_
            simp -dsimp -implicitDefEqProofs +contextual (disch := omega) only [go_sem]
            refine ⟨by omega, ?_⟩
            refine loop_next (i + 1, x + 1 + ns[i], ps ++ [turnR ⟨x + 1, q.y, ns[i], q.h⟩ a], bs ++ [turnR ⟨x, q.y, 1, q.h⟩ a]) ⟨by simp only; omega, by simp only; omega, by simp only; omega, by simp; omega, by simp; omega, by simpa using hc⟩ (by simp only; omega) (Sub.trunc' 4 (by simp) (by simp) ?_ (by simp [objLt]) ?_)
            · simp
            · simp -dsimp -implicitDefEqProofs +contextual (disch := omega) only [go_sem] <;> simp
          · rw [if_pos (by omega)] at hc
            rw [hc]; simp [encCut, Frz, All2, AV.pureB]
        · have h0' : ¬ 0 < i := by omega
          have hi0 : i = 0 := by omega
          simp only [h0', decide_false, if_false, Bool.false_eq_true] at hc
          refine ⟨fun h1 => ⟨fun h2 => ?_, fun h2 => ?_⟩, fun h1 => ?_⟩
          · rw [if_pos (by omega)] at hc
            rw [hc]; simp [encCut, Frz, All2, AV.pureB]
          · rw [if_neg (by omega)] at hc
            refine use_call (turnedFn ⟨x, q.y, ns[i], q.h⟩ a ha) (by simp [pureAll, AV.pureB]) ?_
            simp -dsimp -implicitDefEqProofs +contextual (disch := omega) only [go_sem]
            refine ⟨by omega, ?_⟩
            refine loop_next (i + 1, x + ns[i], ps ++ [turnR ⟨x, q.y, ns[i], q.h⟩ a], bs) ⟨by simp only; omega, by simp only; omega, by simp only; omega, by simp; omega, by simp; omega, by simpa using hc⟩ (by simp only; omega) (Sub.trunc' 4 (by simp) (by simp) ?_ (by simp [objLt]) ?_)
            · simp
            · simp -dsimp -implicitDefEqProofs +contextual (disch := omega) only [go_sem] <;> simp
          · rw [if_pos (by omega)] at hc
            rw [hc]; simp [encCut, Frz, All2, AV.pureB]
      · have e : i = ns.length := by omega
        subst e
        rw [List.drop_length, cutGo] at hc
        rw [hc]
        refine ⟨fun h => ?_, fun h => ?_⟩
        · rw [if_neg (by simpa using h)]
          simp [encCut, Frz, All2, AV.pureB]
        · rw [if_pos (by simpa using h)]
          simp [encCut, Frz, All2, AV.pureB]
set_option maxRecDepth 100000 in
theorem refCutFn (r : R) (a : Int) (ha : 0 ≤ a ∧ a ≤ 255) (ns : List Int) (hn : ns.length < 2 ^ 40) : PureFn Tryz.prog 46 [encR r, .int .u8 a, .slice 1 (ns.map encI)] (.ret (encCut (cutR r a ns))) := by
  refine PureFn.start (rs := [.tmp 6, .tmp 7, .tmp 8]) Tryz.func46 rfl rfl rfl (Nat.le_of_ble_eq_true rfl) (by decide) allLit ?_
  simp -dsimp -implicitDefEqProofs +contextual (disch := omega) only [go_sem]
  refine use_call (refRectMayFn r) (by simp [pureAll, pure_R]) ?_
  have fin : ∀ H, Frz 9 H (AV.tuple [AV.zcap, AV.zcap, AV.bool false]) (encCut none) := fun H => by simp [encCut, Frz, All2, AV.pureB]
  cases hm : rectMay r with
  | false =>
    simp -dsimp -implicitDefEqProofs +contextual (disch := omega) only [go_sem]
    rw [cutR, if_pos (.inl hm)]
    exact fin _
  | true =>
    simp -dsimp -implicitDefEqProofs +contextual (disch := omega) only [go_sem]
    refine ⟨fun h1 => ⟨fun h2 => ⟨fun h3 => ?_, fun h3 => ?_⟩, fun h2 => ?_⟩, fun h1 => ?_⟩
    · rw [cutR, if_pos (.inr (.inr (.inr (by simpa using h3))))]; exact fin _
    · have hne : ns ≠ [] := by simpa using h3
      have hcr : cutR r a ns = cutGo (turnR r a) a false (turnR r a).x [] [] ns := by
        unfold cutR; rw [if_neg (by simp [hm, hne]; omega)]
      rw [hcr]
      have hq := rectMay_iff ((turnR_may r a).trans hm)
      have hq2 := rectMay_iff hm
      have ha2 : a = 1 ∨ a = 2 := by omega
      have hp : ∀ o n, turnR ⟨(turnR r a).x + o, (turnR r a).y, n, (turnR r a).h⟩ a = if a = 1 then ⟨r.x + o, r.y, n, r.h⟩ else ⟨r.x, r.y + o, r.w, n⟩ := by
        intro o n
        rcases ha2 with rfl | rfl <;> simp [turnR]
      generalize hqq : turnR r a = q at *
      rcases ha2 with rfl | rfl
      ·
        simp -dsimp -implicitDefEqProofs +contextual (disch := omega) only [go_sem]
        have hw : q.w = r.w := by rw [← hqq]; simp [turnR]
        refine loop_intro (ι := CutI) (fun p => ⟨[(1, .int .u8 1), (2, .slice 1 (ns.map encI)), (3, .ptr 0 0), (9, .zcap), (10, .int .i64 q.w), (11, .mslice 4 1 0 p.2.2.1.length), (12, .mslice 4 2 0 p.2.2.2.length), (13, .int .i64 p.2.1), (43, .int .i64 ns.length), (44, .int .i64 p.1)], [some (.box (28 : Nat) (cellsR r)), some (.row (28 : Nat) 4 (p.2.2.1.map encR)), some (.row (28 : Nat) 4 (p.2.2.2.map encR))]⟩)
          (fun p => p.1 ≤ ns.length ∧ 0 ≤ p.2.1 ∧ p.2.1 ≤ q.w ∧ p.2.2.1.length ≤ p.1 ∧ p.2.2.2.length ≤ p.1 ∧ cutGo q 1 false q.x [] [] ns = cutGo q 1 (decide (0 < p.1)) (q.x + p.2.1) p.2.2.1 p.2.2.2 (ns.drop p.1)) (fun p => ns.length - p.1) (0, 0, [], [])
          ⟨Nat.zero_le _, by simp, by simp only; omega, by simp, by simp, by simp⟩ ((Sub.nilrow 11 4 (28 : Nat) (.inr ?_)).trans ((Sub.nilrow 12 4 (28 : Nat) (.inr ?_)).trans (Sub.env' ?_ ?_))) ?_
        · simp -dsimp -implicitDefEqProofs +contextual (disch := omega) only [go_sem]
        · simp -dsimp -implicitDefEqProofs +contextual (disch := omega) only [go_sem]
        · simp
        · simp -dsimp -implicitDefEqProofs +contextual (disch := omega) only [go_sem, hw] <;> simp
        · rintro ⟨i, o, ps, bs⟩ ⟨hi, hx1, hx2, hp1, hp2, hc⟩
          simp only at hi hx1 hx2 hp1 hp2 hc
          simp -dsimp -implicitDefEqProofs +contextual (disch := omega) only [go_sem]
          refine ⟨fun hlt => ?_, fun hge => ?_⟩
          · rw [List.drop_eq_getElem_cons hlt, cutGo] at hc
            refine ⟨fun h0 => ?_, fun h0 => ?_⟩
            · have h0' : 0 < i := by omega
              simp only [h0', decide_true, if_true] at hc
              refine ⟨by omega, fun h1 => ⟨fun h2 => ⟨fun h3 => ?_, fun h3 => ?_⟩, fun h2 => ?_⟩, fun h1 => ?_⟩
              · rw [if_pos (by omega)] at hc; rw [hc]; exact fin _
              · rw [if_neg (by omega)] at hc
                refine use_draw [(0, none), (1, none), (2, none), (3, none), (4, none), (5, none), (6, none), (7, none), (8, none), (9, none), (10, none), (11, none), (12, none), (13, none), (14, none), (15, some []), (16, some [])] [[], [], [1], [], [1, 2, 3], [], [5], [], [], [7, 8], [7, 8, 9], [], [11], [1, 2, 3, 4, 5, 6, 7, 8, 9, 10, 11, 12], [1, 2, 3, 4, 5, 6, 7, 8, 9, 10, 11, 12, 13], [0, 1, 2, 3, 4, 5, 6, 7, 8, 9, 10, 11, 12, 13, 14], [0, 1, 2, 3, 4, 5, 6, 7, 8, 9, 10, 11, 12, 13, 14, 15]] mixed (by decide +kernel) ?_
                simp -dsimp -implicitDefEqProofs +contextual (disch := omega) only [go_sem]
                refine ⟨by omega, by omega, by omega, ?_⟩
                refine loop_next (i + 1, o + 1 + ns[i], ps ++ [turnR (R.mk (q.x + (o + 1)) q.y (ns[i]) q.h) 1], bs ++ [turnR (R.mk (q.x + o) q.y (1) q.h) 1]) ⟨by simp only; omega, by simp only; omega, by simp only; omega, by simp; omega, by simp; omega, by rw [hc]; simp [Int.add_assoc]⟩ (by simp only; omega) (Sub.env' ?_ ?_)
                · rw [hp, hp]; simp [encR, cellsR]
                · simp -dsimp -implicitDefEqProofs +contextual (disch := omega) only [go_sem] <;> simp
              · rw [if_pos (by omega)] at hc; rw [hc]; exact fin _
              · rw [if_pos (by omega)] at hc; rw [hc]; exact fin _
            · have h0' : ¬ 0 < i := by omega
              have hi0 : i = 0 := by omega
              simp only [h0', decide_false, if_false, Bool.false_eq_true] at hc
              refine ⟨fun h1 => ⟨fun h2 => ⟨fun h3 => ?_, fun h3 => ?_⟩, fun h2 => ?_⟩, fun h1 => ?_⟩
              · rw [if_pos (by omega)] at hc; rw [hc]; exact fin _
              · rw [if_neg (by omega)] at hc
                refine use_draw [(0, none), (1, none), (2, none), (3, none), (4, none), (5, none), (6, none), (7, none), (8, none), (9, none), (10, none), (11, none), (12, none), (13, none), (14, none), (15, some []), (16, some [])] [[], [], [1], [], [1, 2, 3], [], [5], [], [], [7, 8], [7, 8, 9], [], [11], [1, 2, 3, 4, 5, 6, 7, 8, 9, 10, 11, 12], [1, 2, 3, 4, 5, 6, 7, 8, 9, 10, 11, 12, 13], [0, 1, 2, 3, 4, 5, 6, 7, 8, 9, 10, 11, 12, 13, 14], [0, 1, 2, 3, 4, 5, 6, 7, 8, 9, 10, 11, 12, 13, 14, 15]] mixed (by decide +kernel) ?_
                simp -dsimp -implicitDefEqProofs +contextual (disch := omega) only [go_sem]
                refine ⟨by omega, by omega, by omega, ?_⟩
                refine loop_next (i + 1, o + ns[i], ps ++ [turnR (R.mk (q.x + o) q.y (ns[i]) q.h) 1], bs) ⟨by simp only; omega, by simp only; omega, by simp only; omega, by simp; omega, by simp; omega, by rw [hc]; simp [Int.add_assoc]⟩ (by simp only; omega) (Sub.env' ?_ ?_)
                · rw [hp]; simp [encR, cellsR]
                · simp -dsimp -implicitDefEqProofs +contextual (disch := omega) only [go_sem] <;> simp
              · rw [if_pos (by omega)] at hc; rw [hc]; exact fin _
              · rw [if_pos (by omega)] at hc; rw [hc]; exact fin _
          · have e : i = ns.length := by omega
            subst e
            rw [List.drop_length, cutGo] at hc
            rw [hc]
            refine ⟨fun h => ?_, fun h => ?_⟩
            · rw [if_neg (by simp at h; omega)]
              exact fin _
            · rw [if_pos (by simp at h; omega)]
              simp [encCut, Frz, All2, AV.pureB]
      ·
        simp -dsimp -implicitDefEqProofs +contextual (disch := omega) only [go_sem]
        have hw : q.w = r.h := by rw [← hqq]; simp [turnR]
        refine loop_intro (ι := CutI) (fun p => ⟨[(1, .int .u8 2), (2, .slice 1 (ns.map encI)), (3, .ptr 0 0), (9, .zcap), (10, .int .i64 q.w), (11, .mslice 4 1 0 p.2.2.1.length), (12, .mslice 4 2 0 p.2.2.2.length), (13, .int .i64 p.2.1), (43, .int .i64 ns.length), (44, .int .i64 p.1)], [some (.box (28 : Nat) (cellsR r)), some (.row (28 : Nat) 4 (p.2.2.1.map encR)), some (.row (28 : Nat) 4 (p.2.2.2.map encR))]⟩)
          (fun p => p.1 ≤ ns.length ∧ 0 ≤ p.2.1 ∧ p.2.1 ≤ q.w ∧ p.2.2.1.length ≤ p.1 ∧ p.2.2.2.length ≤ p.1 ∧ cutGo q 2 false q.x [] [] ns = cutGo q 2 (decide (0 < p.1)) (q.x + p.2.1) p.2.2.1 p.2.2.2 (ns.drop p.1)) (fun p => ns.length - p.1) (0, 0, [], [])
          ⟨Nat.zero_le _, by simp, by simp only; omega, by simp, by simp, by simp⟩ ((Sub.nilrow 11 4 (28 : Nat) (.inr ?_)).trans ((Sub.nilrow 12 4 (28 : Nat) (.inr ?_)).trans (Sub.env' ?_ ?_))) ?_
        · simp -dsimp -implicitDefEqProofs +contextual (disch := omega) only [go_sem]
        · simp -dsimp -implicitDefEqProofs +contextual (disch := omega) only [go_sem]
        · simp
        · simp -dsimp -implicitDefEqProofs +contextual (disch := omega) only [go_sem, hw] <;> simp
        · rintro ⟨i, o, ps, bs⟩ ⟨hi, hx1, hx2, hp1, hp2, hc⟩
          simp only at hi hx1 hx2 hp1 hp2 hc
          simp -dsimp -implicitDefEqProofs +contextual (disch := omega) only [go_sem]
          refine ⟨fun hlt => ?_, fun hge => ?_⟩
          · rw [List.drop_eq_getElem_cons hlt, cutGo] at hc
            refine ⟨fun h0 => ?_, fun h0 => ?_⟩
            · have h0' : 0 < i := by omega
              simp only [h0', decide_true, if_true] at hc
              refine ⟨by omega, fun h1 => ⟨fun h2 => ⟨fun h3 => ?_, fun h3 => ?_⟩, fun h2 => ?_⟩, fun h1 => ?_⟩
              · rw [if_pos (by omega)] at hc; rw [hc]; exact fin _
              · rw [if_neg (by omega)] at hc
                refine use_draw [(0, none), (1, none), (2, none), (3, none), (4, none), (5, none), (6, none), (7, none), (8, none), (9, none), (10, none), (11, none), (12, none), (13, none), (14, none), (15, some []), (16, some [])] [[], [], [1], [], [3], [], [3, 4, 5], [], [7], [], [], [9, 10], [9, 10, 11], [1, 2, 3, 4, 5, 6, 7, 8, 9, 10, 11, 12], [1, 2, 3, 4, 5, 6, 7, 8, 9, 10, 11, 12, 13], [0, 1, 2, 3, 4, 5, 6, 7, 8, 9, 10, 11, 12, 13, 14], [0, 1, 2, 3, 4, 5, 6, 7, 8, 9, 10, 11, 12, 13, 14, 15]] mixed (by decide +kernel) ?_
                simp -dsimp -implicitDefEqProofs +contextual (disch := omega) only [go_sem]
                refine ⟨by omega, by omega, by omega, ?_⟩
                refine loop_next (i + 1, o + 1 + ns[i], ps ++ [turnR (R.mk (q.x + (o + 1)) q.y (ns[i]) q.h) 2], bs ++ [turnR (R.mk (q.x + o) q.y (1) q.h) 2]) ⟨by simp only; omega, by simp only; omega, by simp only; omega, by simp; omega, by simp; omega, by rw [hc]; simp [Int.add_assoc]⟩ (by simp only; omega) (Sub.env' ?_ ?_)
                · rw [hp, hp]; simp [encR, cellsR]
                · simp -dsimp -implicitDefEqProofs +contextual (disch := omega) only [go_sem] <;> simp
              · rw [if_pos (by omega)] at hc; rw [hc]; exact fin _
              · rw [if_pos (by omega)] at hc; rw [hc]; exact fin _
            · have h0' : ¬ 0 < i := by omega
              have hi0 : i = 0 := by omega
              simp only [h0', decide_false, if_false, Bool.false_eq_true] at hc
              refine ⟨fun h1 => ⟨fun h2 => ⟨fun h3 => ?_, fun h3 => ?_⟩, fun h2 => ?_⟩, fun h1 => ?_⟩
              · rw [if_pos (by omega)] at hc; rw [hc]; exact fin _
              · rw [if_neg (by omega)] at hc
                refine use_draw [(0, none), (1, none), (2, none), (3, none), (4, none), (5, none), (6, none), (7, none), (8, none), (9, none), (10, none), (11, none), (12, none), (13, none), (14, none), (15, some []), (16, some [])] [[], [], [1], [], [3], [], [3, 4, 5], [], [7], [], [], [9, 10], [9, 10, 11], [1, 2, 3, 4, 5, 6, 7, 8, 9, 10, 11, 12], [1, 2, 3, 4, 5, 6, 7, 8, 9, 10, 11, 12, 13], [0, 1, 2, 3, 4, 5, 6, 7, 8, 9, 10, 11, 12, 13, 14], [0, 1, 2, 3, 4, 5, 6, 7, 8, 9, 10, 11, 12, 13, 14, 15]] mixed (by decide +kernel) ?_
                simp -dsimp -implicitDefEqProofs +contextual (disch := omega) only [go_sem]
                refine ⟨by omega, by omega, by omega, ?_⟩
                refine loop_next (i + 1, o + ns[i], ps ++ [turnR (R.mk (q.x + o) q.y (ns[i]) q.h) 2], bs) ⟨by simp only; omega, by simp only; omega, by simp only; omega, by simp; omega, by simp; omega, by rw [hc]; simp [Int.add_assoc]⟩ (by simp only; omega) (Sub.env' ?_ ?_)
                · rw [hp]; simp [encR, cellsR]
                · simp -dsimp -implicitDefEqProofs +contextual (disch := omega) only [go_sem] <;> simp
              · rw [if_pos (by omega)] at hc; rw [hc]; exact fin _
              · rw [if_pos (by omega)] at hc; rw [hc]; exact fin _
          · have e : i = ns.length := by omega
            subst e
            rw [List.drop_length, cutGo] at hc
            rw [hc]
            refine ⟨fun h => ?_, fun h => ?_⟩
            · rw [if_neg (by simp at h; omega)]
              exact fin _
            · rw [if_pos (by simp at h; omega)]
              simp [encCut, Frz, All2, AV.pureB]
    · rw [cutR, if_pos (by omega)]; exact fin _
    · rw [cutR, if_pos (by omega)]; exact fin _
end Go.Sim

namespace Go.Sim
open Go.Proofs
def eqF {α β : Type} (p : α → β → Bool) : List α → List β → Bool
  | [], [] => true
  | a :: l, b :: m => p a b && eqF p l m
  | _, _ => false
theorem eqF_ne {α β : Type} (p : α → β → Bool) : ∀ {l : List α} {m : List β}, l.length ≠ m.length → eqF p l m = false
  | [], [], h => (h rfl).elim
  | [], _ :: _, _ => rfl
  | _ :: _, [], _ => rfl
  | a :: l, b :: m, h => by simp only [eqF, eqF_ne p (l := l) (m := m) (by simpa using h), Bool.and_false]
theorem eqF_map {α β : Type} [DecidableEq β] (g : α → β) : ∀ (l : List α) (m : List β), eqF (fun a b => decide (g a = b)) l m = decide (l.map g = m)
  | [], [] => rfl
  | [], _ :: _ => rfl
  | _ :: _, [] => rfl
  | a :: l, b :: m => by simp [eqF, eqF_map g l m]
/-! ### a walk over a tree with a state -/
mutual
def travT {σ : Type} (f : σ → T → Bool × σ) (s : σ) : T → Bool × σ
  | .node k x y w h i ks => if (f s (.node k x y w h i ks)).1 then travL f (f s (.node k x y w h i ks)).2 ks else (false, (f s (.node k x y w h i ks)).2)
def travL {σ : Type} (f : σ → T → Bool × σ) (s : σ) : List T → Bool × σ
  | [] => (true, s)
  | t :: ts => if (travT f s t).1 then travL f (travT f s t).2 ts else (false, (travT f s t).2)
end
def seqL {σ : Type} (f : σ → T → Bool × σ) (s : σ) : List T → Bool × σ
  | [] => (true, s)
  | t :: ts => if (f s t).1 then seqL f (f s t).2 ts else (false, (f s t).2)
theorem travT_eq {σ : Type} (f : σ → T → Bool × σ) (s : σ) (t : T) : travT f s t = if (f s t).1 then travL f (f s t).2 t.kids else (false, (f s t).2) := by cases t; simp only [travT]; rfl
theorem seqL_append {σ : Type} (f : σ → T → Bool × σ) : ∀ (a b : List T) (s : σ), seqL f s (a ++ b) = if (seqL f s a).1 then seqL f (seqL f s a).2 b else (false, (seqL f s a).2)
  | [], b, s => by simp [seqL]
  | t :: a, b, s => by
    simp only [List.cons_append, seqL]
    split
    · exact seqL_append f a b _
    · simp
mutual
theorem travT_seq {σ : Type} (f : σ → T → Bool × σ) : ∀ (t : T) (s : σ), travT f s t = seqL f s (allT t)
  | .node k x y w h i ks, s => by
    simp only [travT, allT, seqL]
    split
    · exact travL_seq f ks _
    · rfl
theorem travL_seq {σ : Type} (f : σ → T → Bool × σ) : ∀ (l : List T) (s : σ), travL f s l = seqL f s (allL l)
  | [], s => rfl
  | t :: ts, s => by
    simp only [travL, allL, seqL_append, ← travT_seq f t s]
    split
    · exact travL_seq f ts _
    · rfl
end
theorem idxCell_trav {σ : Type} (f : σ → T → Bool × σ) : ∀ (l : List T) (s : σ) (i : Int), 0 ≤ i → (idxCell (fun s k => (!(travT f s k).1, (travT f s k).2)) s i l).2 = (travL f s l).2 ∧ decide (0 ≤ (idxCell (fun s k => (!(travT f s k).1, (travT f s k).2)) s i l).1) = !(travL f s l).1
  | [], s, i, h => by simp [idxCell, travL]
  | t :: ts, s, i, h => by
    simp only [idxCell, travL]
    cases hq : (travT f s t).1
    · simp [h]
    · simpa using idxCell_trav f ts (travT f s t).2 (i + 1) (by omega)
/-! ### cells that tile -/
def sizesT (t : T) : List Int := t.kids.map fun k => if t.kind = 2 then k.rect.w else k.rect.h
def linesV (t : T) : List R × Bool :=
  if t.kind = 1 then ([], true) else match cutR t.rect (t.kind - 1) (sizesT t) with
    | none => ([], false)
    | some (ps, bs) => (bs, decide (t.kids.map T.rect = ps))
set_option maxRecDepth 100000 in
theorem equalCR (p : T → R → Bool) (fid : FuncId) (xs : List T) (ys : List R) (hx : xs.length < 2 ^ 40) (hy : ys.length < 2 ^ 40) (hp : ∀ a ∈ xs, ∀ b ∈ ys, PureFn Tryz.prog fid (encT a :: encR b :: []) (.ret (.bool (p a b)))) :
    PureFn Tryz.prog 82 [.slice 7 (xs.map encT), .slice 4 (ys.map encR), .func (.func fid) [] []] (.ret (.bool (eqF p xs ys))) := by
  refine PureFn.start (rs := [.tmp 6]) Tryz.func82 rfl rfl rfl (Nat.le_of_ble_eq_true rfl) (by decide) allLit ?_
  simp -dsimp -implicitDefEqProofs +contextual (disch := omega) only [go_sem]
  refine ⟨fun h => ?_, fun h => ?_⟩
  · rw [eqF_ne p (by intro e; simp [e] at h)]
  · have hl : xs.length = ys.length := by
      have : (xs.length : Int) = ys.length := by simpa using h
      omega
    refine loop_intro (ι := Nat) (fun i => ⟨[(1, .slice 4 (ys.map encR)), (2, .func (.func fid) [] []), (15, .slice 7 (xs.map encT)), (16, .int .i64 xs.length), (17, .int .i64 i)], []⟩) (fun i => i ≤ xs.length ∧ eqF p xs ys = eqF p (xs.drop i) (ys.drop i)) (fun i => xs.length - i) 0 ⟨Nat.zero_le _, by simp⟩ (Sub.env ?_) ?_
    · simp -dsimp -implicitDefEqProofs +contextual (disch := omega) only [go_sem] <;> simp
    · rintro i ⟨hi, hj⟩
      simp -dsimp -implicitDefEqProofs +contextual (disch := omega) only [go_sem]
      refine ⟨fun hlt => ?_, fun hge => ?_⟩
      · have hlt2 : i < ys.length := by omega
        rw [List.drop_eq_getElem_cons hlt, List.drop_eq_getElem_cons hlt2, eqF] at hj
        simp -dsimp -implicitDefEqProofs +contextual (disch := omega) only [go_sem, hlt2]
        refine use_call (by simpa using hp _ (List.getElem_mem hlt) _ (List.getElem_mem hlt2)) (by simp [pureAll, AV.pureB, pure_T, pure_R, encI, encB]) ?_
        simp -dsimp -implicitDefEqProofs +contextual (disch := omega) only [go_sem]
        refine ⟨fun hc => ?_, fun hc => ?_⟩
        · simp at hc; simp [hj, hc]
        · refine loop_next (i + 1) ⟨by omega, by simp at hc; simp [hj, hc]⟩ (by omega) (Sub.trunc' 0 (by simp) (by simp) (by simp) (by simp [objLt]) ?_)
          simp -dsimp -implicitDefEqProofs +contextual (disch := omega) only [go_sem] <;> simp
      · have e : i = xs.length := by omega
        rw [hj, e, List.drop_length, hl, List.drop_length]; rfl
theorem decEq_iff (x y w h x' y' w' h' : Int) : (R.mk x y w h = R.mk x' y' w' h') ↔ (x = x' ∧ y = y' ∧ w = w' ∧ h = h') := by simp
set_option maxRecDepth 100000 in
@[go_sem] theorem v_R_eql {H : Heap} {k : AV → Prop} {c : Bool} {a b : R} {z} : Run (evBin Tryz.prog H .eql (28 : Nat) c (encR a) (encR b) k) z = k (.bool (decide (a = b))) := by
  obtain ⟨x, y, w, h⟩ := a
  obtain ⟨x', y', w', h'⟩ := b
  rw [run_eq]
  show Run (evBin Tryz.prog H .eql (28 : Nat) c (.agg [.int .i64 x, .int .i64 y, .int .i64 w, .int .i64 h]) (.agg [.int .i64 x', .int .i64 y', .int .i64 w', .int .i64 h']) k) .mk = _
  have e : ((x == x') && ((y == y') && ((w == w') && ((h == h') && true)))) = decide (R.mk x y w h = R.mk x' y' w' h') := by rw [Bool.eq_iff_iff]; simp
  simp -dsimp -implicitDefEqProofs +contextual (disch := omega) only [go_sem]
  rw [← e]; simp
set_option maxRecDepth 100000 in
@[go_sem] theorem v_R_neq {H : Heap} {k : AV → Prop} {c : Bool} {a b : R} {z} : Run (evBin Tryz.prog H .neq (28 : Nat) c (encR a) (encR b) k) z = k (.bool (!decide (a = b))) := by
  obtain ⟨x, y, w, h⟩ := a
  obtain ⟨x', y', w', h'⟩ := b
  rw [run_eq]
  show Run (evBin Tryz.prog H .neq (28 : Nat) c (.agg [.int .i64 x, .int .i64 y, .int .i64 w, .int .i64 h]) (.agg [.int .i64 x', .int .i64 y', .int .i64 w', .int .i64 h']) k) .mk = _
  have e : ((x == x') && ((y == y') && ((w == w') && ((h == h') && true)))) = decide (R.mk x y w h = R.mk x' y' w' h') := by rw [Bool.eq_iff_iff]; simp
  simp -dsimp -implicitDefEqProofs +contextual (disch := omega) only [go_sem]
  rw [← e]; simp
set_option maxRecDepth 100000 in
theorem lines1Fn (t : T) (r : R) : PureFn Tryz.prog 83 [encT t, encR r] (.ret (.bool (decide (t.rect = r)))) := by
  refine PureFn.start (rs := [.tmp 4]) Tryz.func83 rfl rfl rfl (Nat.le_of_ble_eq_true rfl) (by decide) allLit ?_
  simp -dsimp -implicitDefEqProofs +contextual (disch := omega) only [go_sem]
  trace_state
set_option maxRecDepth 100000 in
theorem tileCutFn (t : T) (hk : t.kind = 2 ∨ t.kind = 3) (hs : sizeT t < 2 ^ 40) : PureFn Tryz.prog 81 [encT t] (.ret (encCut (cutR t.rect (t.kind - 1) (sizesT t)))) := by
  refine PureFn.start (rs := [.tmp 2, .tmp 3, .tmp 4]) Tryz.func81 rfl rfl rfl (Nat.le_of_ble_eq_true rfl) (by decide) allLit ?_
  have hlen := length_sizeL t.kids
  have hsz := sizeT_eq t
  simp -dsimp -implicitDefEqProofs +contextual (disch := omega) only [go_sem]
  refine loop_intro (ι := Nat) (fun i => ⟨[(1, .ptr 0 0), (5, .mslice 1 1 0 i), (9, .slice 7 (t.kids.map encT)), (10, .int .i64 t.kids.length), (11, .int .i64 i)], [some (.box (30 : Nat) (cellsT t)), some (.row (3 : Nat) 1 (((sizesT t).take i).map encI))]⟩) (fun i => i ≤ t.kids.length) (fun i => t.kids.length - i) 0 (Nat.zero_le _) ((Sub.nilrow 5 1 (3 : Nat) (.inl ?_)).trans (Sub.env' ?_ ?_)) ?_
  · simp -dsimp -implicitDefEqProofs +contextual (disch := omega) only [go_sem]
  · simp
  · simp -dsimp -implicitDefEqProofs +contextual (disch := omega) only [go_sem] <;> simp
  · intro i hi
    have hsl : (sizesT t).length = t.kids.length := by simp [sizesT]
    have hl : ((sizesT t).take i).length = i := by simp [hsl]; omega
    simp -dsimp -implicitDefEqProofs +contextual (disch := omega) only [go_sem, hl]
    refine ⟨fun hlt => ?_, fun hge => ?_⟩
    · have hlt2 : i < (sizesT t).length := by omega
      have hm : (sizesT t).take (i + 1) = (sizesT t).take i ++ [if t.kind = 2 then t.kids[i].rect.w else t.kids[i].rect.h] := by
        rw [List.take_succ_eq_append_getElem hlt2]; simp [sizesT]
      refine ⟨fun h2 => ?_, fun h2 => ?_⟩
      · have h2' : t.kind = 2 := by simpa using h2
        refine ⟨by omega, ?_⟩
        refine loop_next (i + 1) (by omega) (by omega) (Sub.trunc' 2 (by simp) (by simp) ?_ (by simp [objLt]) ?_)
        · simp [hm, h2', encI]
        · simp -dsimp -implicitDefEqProofs +contextual (disch := omega) only [go_sem] <;> simp
      · have h2' : ¬ t.kind = 2 := by simpa using h2
        refine ⟨by omega, ?_⟩
        refine loop_next (i + 1) (by omega) (by omega) (Sub.trunc' 2 (by simp) (by simp) ?_ (by simp [objLt]) ?_)
        · simp [hm, h2', encI]
        · simp -dsimp -implicitDefEqProofs +contextual (disch := omega) only [go_sem] <;> simp
    · have e : i = t.kids.length := by omega
      subst e
      rw [show t.kind - 2 + 1 = t.kind - 1 by omega]
      refine use_drop (l := 1) (sz := 1) (tg := (3 : Nat)) (cutFn t.rect (t.kind - 1) (by omega) (sizesT t) (by omega)) (xs := (sizesT t).map encI) (by simp [← hsl]) (by simp [All2, DropArg, hsl]) (by simp [pureAll, AV.pureB, pure_R]) ?_
      rcases cutR t.rect (t.kind - 1) (sizesT t) with _ | ⟨ps, bs⟩
      · simp only [encCut]
        simp -dsimp -implicitDefEqProofs +contextual (disch := omega) only [go_sem]
      · simp only [encCut]
        simp -dsimp -implicitDefEqProofs +contextual (disch := omega) only [go_sem]
theorem cutGo_len (r : R) (a : Int) : ∀ (ns : List Int) (c : Bool) (x : Int) (ps bs p b : List R), cutGo r a c x ps bs ns = some (p, b) → p.length = ps.length + ns.length ∧ b.length ≤ bs.length + ns.length
  | [], c, x, ps, bs, p, b, h => by
    simp only [cutGo] at h
    split at h
    · cases h; simp
    · cases h
  | n :: l, c, x, ps, bs, p, b, h => by
    cases c <;> simp only [cutGo, if_true, if_false, Bool.false_eq_true] at h <;> split at h <;> first | (cases h; done) | skip
    all_goals
      have := cutGo_len r a l _ _ _ _ _ _ h
      simp only [List.length_append, List.length_cons, List.length_nil] at this ⊢
      omega
theorem cutR_len {r : R} {a : Int} {ns : List Int} {p b : List R} (h : cutR r a ns = some (p, b)) : p.length = ns.length ∧ b.length ≤ ns.length := by
  unfold cutR at h
  split at h
  · cases h
  · have := cutGo_len _ _ _ _ _ _ _ _ _ h
    simpa using this
theorem linesV_len (t : T) : (linesV t).1.length ≤ t.kids.length := by
  unfold linesV
  split
  · simp
  · split
    · simp
    · rename_i h
      have := (cutR_len h).2
      simpa [sizesT] using this
set_option maxRecDepth 100000 in
theorem linesFn (t : T) (hk : 1 ≤ t.kind ∧ t.kind ≤ 3) (hs : sizeT t < 2 ^ 40) : PureFn Tryz.prog 65 [encT t] (.ret (.tuple [.slice 4 ((linesV t).1.map encR), .bool (linesV t).2])) := by
  refine PureFn.start (rs := [.tmp 2, .tmp 3]) Tryz.func65 rfl rfl rfl (Nat.le_of_ble_eq_true rfl) (by decide) allLit ?_
  have hlen := length_sizeL t.kids
  have hsz := sizeT_eq t
  simp -dsimp -implicitDefEqProofs +contextual (disch := omega) only [go_sem]
  refine ⟨fun h => ?_, fun h => ?_⟩
  · have h' : t.kind = 1 := by simpa using h
    simp [linesV, h', Frz, All2, AV.pureB]
  · have h' : ¬ t.kind = 1 := by simpa using h
    refine use_call (tileCutFn t (by omega) hs) (by simp [pureAll, pure_T]) ?_
    have hv : linesV t = match cutR t.rect (t.kind - 1) (sizesT t) with
      | none => ([], false)
      | some (ps, bs) => (bs, decide (t.kids.map T.rect = ps)) := if_neg h'
    rcases hc : cutR t.rect (t.kind - 1) (sizesT t) with _ | ⟨ps, bs⟩
    · rw [hc] at hv
      simp only [encCut]
      simp -dsimp -implicitDefEqProofs +contextual (disch := omega) only [go_sem]
      simp [hv, Frz, All2, AV.pureB]
    · rw [hc] at hv
      have hl := cutR_len hc
      simp only [encCut]
      simp -dsimp -implicitDefEqProofs +contextual (disch := omega) only [go_sem]
      refine use_call (equalCR (fun t r => decide (t.rect = r)) 83 t.kids ps (by omega) (by rw [hl.1]; simp [sizesT]; omega) fun t _ r _ => lines1Fn t r) (by simp [pureAll, AV.pureB]) ?_
      simp -dsimp -implicitDefEqProofs +contextual (disch := omega) only [go_sem]
      simp [hv, eqF_map, Frz, All2, AV.pureB, pureAll_map]
/-! the walker -/
abbrev W := Int × List R
def encW (s : W) : Heap := [some (.box (83 : Nat) [.int .i64 s.1, .mslice 4 1 0 s.2.length]), some (.row (28 : Nat) 4 (s.2.map encR))]
def walkV (s : W) (t : T) : Bool × W := if (linesV t).2 then (true, (s.1 + 1, s.2 ++ (linesV t).1)) else (false, s)
theorem walkV_bound (s : W) (t : T) : s.1 ≤ (walkV s t).2.1 ∧ (walkV s t).2.1 ≤ s.1 + 1 ∧ (walkV s t).2.2.length ≤ s.2.length + t.kids.length := by
  have := linesV_len t
  unfold walkV
  split <;> simp <;> omega
mutual
theorem walk_bound : ∀ (t : T) (s : W), s.1 ≤ (travT walkV s t).2.1 ∧ (travT walkV s t).2.1 ≤ s.1 + sizeT t ∧ (travT walkV s t).2.2.length + 1 ≤ s.2.length + sizeT t
  | .node k x y w h i ks, s => by
    have hv := walkV_bound s (.node k x y w h i ks)
    have hl := length_sizeL ks
    rw [travT_eq]
    simp only [sizeT]
    simp only [T.kids] at hv ⊢
    split
    · have := walkL_bound ks (walkV s (.node k x y w h i ks)).2
      omega
    · simp only []; omega
theorem walkL_bound : ∀ (l : List T) (s : W), s.1 ≤ (travL walkV s l).2.1 ∧ (travL walkV s l).2.1 ≤ s.1 + sizeL l ∧ (travL walkV s l).2.2.length + l.length ≤ s.2.length + sizeL l
  | [], s => by simp [travL, sizeL]
  | t :: ts, s => by
    have h1 := walk_bound t s
    have hl := length_sizeL ts
    simp only [travL, sizeL, List.length_cons]
    split
    · have := walkL_bound ts (travT walkV s t).2
      omega
    · simp only []; omega
end
def WalkC (s : W) (t : T) : Prop := ACalls Tryz.prog 51 [.ptr 0 0, encT t] (encW s) fun r H' => r = .ret (.bool (travT walkV s t).1) ∧ H' = encW (travT walkV s t).2
def encW2 (c : List AV) (s : W) : Heap := encW s ++ [some (.box (81 : Nat) [.ptr 0 0]), some (.box (30 : Nat) c)]
set_option maxRecDepth 100000 in
theorem walk1Fn (u t : T) (s : W) (ih : WalkC s t) : ACalls Tryz.prog 66 [encT t, .ptr 2 0] (encW2 (cellsT u) s) fun r H' => r = .ret (.bool (!(travT walkV s t).1)) ∧ H' = encW2 (cellsT u) (travT walkV s t).2 := by
  refine ACalls.start (rs := [.tmp 3]) Tryz.func66 rfl rfl rfl (Nat.le_of_ble_eq_true rfl) (by decide) allLit ?_
  simp only [encW2, encW]
  simp -dsimp -implicitDefEqProofs +contextual (disch := omega) only [go_sem]
  refine use_frame [0, 1] ( ih) (by decide) rfl (by simp) (by simp [encW]) (by simp [encW]) (by simp [encW]) (by simp [encW] <;> rfl) (by simp [encW] <;> rfl) ?_
  simp -dsimp -implicitDefEqProofs +contextual (disch := omega) only [go_sem]
  refine end_trunc (by simp) rfl (by simp) ⟨rfl, ?_⟩
  simp [encW]
set_option maxRecDepth 100000 in
theorem walkStep (t : T) (s : W) (hk : 1 ≤ t.kind ∧ t.kind ≤ 3) (h0 : 0 ≤ s.1) (hs : s.1 + sizeT t < 2 ^ 40 ∧ s.2.length + sizeT t ≤ 2 ^ 40) (ih : ∀ u ∈ t.kids, ∀ s' : W, 0 ≤ s'.1 → s'.1 + sizeT u < 2 ^ 40 ∧ s'.2.length + sizeT u ≤ 2 ^ 40 → WalkC s' u) : WalkC s t := by
  show ACalls _ _ _ _ _
  refine ACalls.start (rs := [.tmp 4]) Tryz.func51 rfl rfl rfl (Nat.le_of_ble_eq_true rfl) (by decide) allLit ?_
  have hsz := sizeT_eq t
  have hlen := length_sizeL t.kids
  have hll := linesV_len t
  simp only [encW]
  simp -dsimp -implicitDefEqProofs +contextual (disch := omega) only [go_sem]
  refine use_call (linesFn t hk (by omega)) (by simp [pureAll, pure_T]) ?_
  simp -dsimp -implicitDefEqProofs +contextual (disch := omega) only [go_sem]
  cases hv : (linesV t).2 with
  | false =>
    simp -dsimp -implicitDefEqProofs +contextual (disch := omega) only [go_sem]
    refine end_trunc (by simp) rfl (by simp) ⟨?_, ?_⟩
    · simp [travT_eq, walkV, hv]
    · simp [travT_eq, walkV, hv, encW]
  | true =>
    simp -dsimp -implicitDefEqProofs +contextual (disch := omega) only [go_sem]
    refine use_draw [(0, none), (1, none), (2, none), (3, none), (4, none), (5, none), (6, some [0]), (7, none), (8, none), (9, some [])] [[], [], [1], [1, 2], [1, 2, 3], [], [1, 2, 3, 4, 5], [0, 1, 2, 3, 4, 5, 6], [0, 1, 2, 3, 4, 5, 6, 7], [0, 1, 2, 3, 4, 5, 6, 7, 8]] mixed (by decide +kernel) ?_
    simp -dsimp -implicitDefEqProofs +contextual (disch := omega) only [go_sem]
    refine ⟨by omega, re_load rfl rfl rfl rfl re_nil, ?_⟩
    have hv1 : walkV s t = (true, (s.1 + 1, s.2 ++ (linesV t).1)) := by simp [walkV, hv]
    have hb := fun u : T => walk_bound u
    have hc := containsCell (encW2 (cellsT t)) (fun s k => (!(travT walkV s k).1, (travT walkV s k).2)) 66 [.ptr 2 0] t.kids (fun i s' => 0 ≤ s'.1 ∧ s'.1 + sizeL (t.kids.drop i) < 2 ^ 40 ∧ s'.2.length + sizeL (t.kids.drop i) < 2 ^ 40 + (t.kids.length - i)) (s.1 + 1, s.2 ++ (linesV t).1) (by omega) ⟨by simp only; omega, by simp; omega, by simp; omega⟩ ?_
    · have hi := idxCell_trav walkV t.kids (s.1 + 1, s.2 ++ (linesV t).1) 0 (by omega)
      refine use_acalls (by simpa [encW2, encW] using hc) ?_
      rintro r H' ⟨rfl, rfl⟩
      simp only [hi.1, encW]
      simp -dsimp -implicitDefEqProofs +contextual (disch := omega) only [go_sem]
      refine end_trunc (by simp) rfl (by simp) ⟨?_, ?_⟩
      · rw [hi.2, travT_eq, hv1]; simp
      · simp [travT_eq, hv1, encW]
    · rintro i hlt s' ⟨h1, h2, h3⟩
      rw [List.drop_eq_getElem_cons hlt] at h2 h3
      simp only [sizeL] at h2 h3
      have := hb t.kids[i] s'
      have hdl := length_sizeL (t.kids.drop (i + 1))
      rw [List.length_drop] at hdl
      exact ⟨⟨by simp only; omega, by simp only; omega, by simp only; omega⟩, walk1Fn t _ s' (ih _ (List.getElem_mem _) s' h1 ⟨by omega, by omega⟩)⟩
theorem walkFn : ∀ (m : Nat) (t : T) (s : W), sizeT t < m → (∀ u ∈ allT t, 1 ≤ u.kind ∧ u.kind ≤ 3) → 0 ≤ s.1 → s.1 + sizeT t < 2 ^ 40 ∧ s.2.length + sizeT t ≤ 2 ^ 40 → WalkC s t
  | 0, t, s, h, _, _, _ => by omega
  | m + 1, t, s, h, hk, h0, hs => walkStep t s (hk t (by rw [allT_eq]; simp)) h0 hs fun u hu s' h1 h2 => by
    have h3 := sizeL_mem hu
    have h4 := sizeT_eq t
    exact walkFn m u s' (by omega) (fun v hv => hk v (by rw [allT_eq]; exact List.mem_cons_of_mem _ (mem_allL hu hv))) h1 h2
end Go.Sim

namespace Go.Sim
open Go.Proofs
/-! ### errors -/
def errNew (e a : Int) : AV := .iface (98 : Nat) (.cptr [.int .i64 e, .int .i64 a] 0)
def errIn (ws : List (List UInt8)) (v : AV) : AV := .iface (94 : Nat) (.cptr [.slice 1 (ws.map encB), v] 0)
set_option maxRecDepth 100000 in
theorem faultNewFn (e a : Int) (he : e ≠ 0) : PureFn Tryz.prog 50 [.int .i64 e, .int .i64 a] (.ret (errNew e a)) := by
  refine PureFn.start (rs := [.tmp 4]) Tryz.func50 rfl rfl rfl (Nat.le_of_ble_eq_true rfl) (by decide) allLit ?_
  have h0 : (e == 0) = false := by simpa using he
  simp -dsimp -implicitDefEqProofs +contextual (disch := omega) only [go_sem, h0]
  simp [errNew, Frz, All2, AV.pureB]
set_option maxRecDepth 100000 in
theorem cloneStrFn (w : List UInt8) (ws : List (List UInt8)) (hs : ws.length < 2 ^ 40) : PureFn Tryz.prog 64 [.slice 1 (encB w :: ws.map encB)] (.ret (.slice 1 (encB w :: ws.map encB))) := by
  refine PureFn.start (rs := [.tmp 2]) Tryz.func64 rfl rfl rfl (Nat.le_of_ble_eq_true rfl) (by decide) allLit ?_
  simp -dsimp -implicitDefEqProofs +contextual (disch := omega) only [go_sem]
  omega
set_option maxRecDepth 100000 in
theorem faultInFn (w : List UInt8) (ws : List (List UInt8)) (t : TypeId) (v : AV) (hs : ws.length < 2 ^ 40) (hv : v.pureB = true) : PureFn Tryz.prog 49 [.iface t v, .slice 1 (encB w :: ws.map encB)] (.ret (errIn (w :: ws) (.iface t v))) := by
  refine PureFn.start (rs := [.tmp 4]) Tryz.func49 rfl rfl rfl (Nat.le_of_ble_eq_true rfl) (by decide) allLit ?_
  simp -dsimp -implicitDefEqProofs +contextual (disch := omega) only [go_sem]
  refine ⟨fun h => by simp at h; omega, fun h => ?_⟩
  refine use_call (cloneStrFn w ws hs) (by simp [pureAll, AV.pureB, encB, pureAll_map]) ?_
  simp -dsimp -implicitDefEqProofs +contextual (disch := omega) only [go_sem, errIn]
  simp [encB, AV.pureB, pureAll_map, hv]
def layoutS : List UInt8 := [108, 97, 121, 111, 117, 116]
def tileE (t : T) : Option (Int × Int) := if mayT t = false then some (1, 0) else if (travT walkV (0, []) t).1 = false then some (5, (travT walkV (0, []) t).2.1) else none
def encErr (ws : List (List UInt8)) : Option (Int × Int) → AV
  | none => .niliface
  | some (e, a) => errIn ws (errNew e a)
set_option maxRecDepth 100000 in
theorem tileCheckFn (t : T) (hs : sizeT t < 2 ^ 30) (hk : mayT t = true → ∀ u ∈ allT t, 1 ≤ u.kind ∧ u.kind ≤ 3) : PureFn Tryz.prog 36 [encT t] (.ret (encErr [layoutS] (tileE t))) := by
  refine PureFn.start (rs := [.tmp 2]) Tryz.func36 rfl rfl rfl (Nat.le_of_ble_eq_true rfl) (by decide) allLit ?_
  simp -dsimp -implicitDefEqProofs +contextual (disch := omega) only [go_sem]
  refine use_call (by simpa using mayFn [t] (by simp [sizeL]; omega)) (by simp [pureAll, pure_T, AV.pureB]) ?_
  simp -dsimp -implicitDefEqProofs +contextual (disch := omega) only [go_sem]
  cases hm : mayT t with
  | false =>
    simp -dsimp -implicitDefEqProofs +contextual (disch := omega) only [go_sem]
    refine use_call (faultNewFn 1 0 (by decide)) (by simp [pureAll, AV.pureB]) ?_
    simp -dsimp -implicitDefEqProofs +contextual (disch := omega) only [go_sem]
    refine use_call (faultInFn layoutS [] (98 : Nat) (.cptr [.int .i64 1, .int .i64 0] 0) (by simp) rfl) (by simp [pureAll, AV.pureB, errNew]) ?_
    simp -dsimp -implicitDefEqProofs +contextual (disch := omega) only [go_sem]
    rw [show tileE t = some (1, 0) by simp [tileE, hm]]
    exact frz_self rfl
  | true =>
    simp -dsimp -implicitDefEqProofs +contextual (disch := omega) only [go_sem]
    refine use_nilcell (l := 1) (o := 1) 4 (28 : Nat) rfl (by simp) (.inl rfl) ?_
    refine acalls_frame [1, 2] ( walkFn _ t (0, []) (Nat.lt_succ_self _) (hk hm) (by simp) ⟨by simp; omega, by simp; omega⟩) (by decide) rfl (by simp) (by simp [encW]) (by simp [encW]) (by simp [encW]) (by simp [encW] <;> rfl) (by simp [encW] <;> rfl) ?_
    simp -dsimp -implicitDefEqProofs +contextual (disch := omega) only [go_sem]
    cases hw : (travT walkV (0, []) t).1 with
    | false =>
      simp -dsimp -implicitDefEqProofs +contextual (disch := omega) only [go_sem]
      refine use_call (faultNewFn 5 _ (by decide)) (by simp [pureAll, AV.pureB]) ?_
      simp -dsimp -implicitDefEqProofs +contextual (disch := omega) only [go_sem]
      refine use_call (faultInFn layoutS [] (98 : Nat) (.cptr [.int .i64 5, .int .i64 _] 0) (by simp) rfl) (by simp [pureAll, AV.pureB, errNew]) ?_
      simp -dsimp -implicitDefEqProofs +contextual (disch := omega) only [go_sem]
      rw [show tileE t = some (5, (travT walkV (0, []) t).2.1) by simp [tileE, hm, hw]]
      exact frz_self rfl
    | true =>
      simp -dsimp -implicitDefEqProofs +contextual (disch := omega) only [go_sem]
      simp [tileE, hm, hw, encErr]
set_option maxRecDepth 100000 in
theorem tiles1Fn (t : T) (hs : sizeT t < 2 ^ 30) (hk : mayT t = true → ∀ u ∈ allT t, 1 ≤ u.kind ∧ u.kind ≤ 3) : PureFn Tryz.prog 35 [encT t] (.ret (.bool (tileE t).isSome)) := by
  refine PureFn.start (rs := [.tmp 2]) Tryz.func35 rfl rfl rfl (Nat.le_of_ble_eq_true rfl) (by decide) allLit ?_
  simp -dsimp -implicitDefEqProofs +contextual (disch := omega) only [go_sem]
  refine use_call (tileCheckFn t hs hk) (by simp [pureAll, pure_T]) ?_
  rcases tileE t with _ | ⟨e, a⟩
  · simp only [encErr]
    simp -dsimp -implicitDefEqProofs +contextual (disch := omega) only [go_sem]
    simp
  · simp only [encErr, errIn]
    simp -dsimp -implicitDefEqProofs +contextual (disch := omega) only [go_sem]
    simp
set_option maxRecDepth 100000 in
theorem tilesFn (ts : List T) (hs : sizeL ts < 2 ^ 30) (hk : ∀ t ∈ ts, mayT t = true → ∀ u ∈ allT t, 1 ≤ u.kind ∧ u.kind ≤ 3) : PureFn Tryz.prog 26 [.slice 7 (ts.map encT)] (.ret (.bool (!ts.any fun t => (tileE t).isSome))) := by
  refine PureFn.start (rs := [.tmp 2]) Tryz.func26 rfl rfl rfl (Nat.le_of_ble_eq_true rfl) (by decide) allLit ?_
  have hlen := length_sizeL ts
  simp -dsimp -implicitDefEqProofs +contextual (disch := omega) only [go_sem]
  refine use_call (containspCell (fun t => (tileE t).isSome) 35 [] ts (by omega) fun t ht => tiles1Fn t (by have := sizeL_mem ht; omega) (hk t ht)) (by simp [pureAll, AV.pureB]) ?_
  simp -dsimp -implicitDefEqProofs +contextual (disch := omega) only [go_sem]
/-! ### trees that may be, said of the row of their cells -/
mutual
theorem allB_trav : ∀ (t : T) (s : S), allB s t = travT visit s t
  | .node k x y w h i ks, s => by
    rw [allB, travT]
    split
    · rename_i s' e
      rw [e]; simp only [if_true]; exact listB_trav ks s'
    · rename_i s' e
      rw [e]; simp
theorem listB_trav : ∀ (l : List T) (s : S), listB s l = travL visit s l
  | [], s => rfl
  | t :: ts, s => by
    rw [listB, travL, ← allB_trav t s]
    split
    · rename_i s' e
      rw [e]; simp only [if_true]; exact listB_trav ts s'
    · rename_i s' e
      rw [e]; simp
end
def leafIds (l : List T) : List Int := (l.filter isLeaf).map T.id
theorem seq_visit : ∀ (l : List T) (n : Int) (seen : List Int), (seqL visit (n, seen) l).1 = true ↔ ((l = [] ∨ n + l.length ≤ 20000) ∧ (∀ u ∈ l, nodeB u = true ∧ rectMay u.rect = true) ∧ (leafIds l).Nodup ∧ ∀ x ∈ leafIds l, x ∉ seen)
  | [], n, seen => by simp [seqL, leafIds]
  | t :: ts, n, seen => by
    simp only [seqL]
    by_cases hv : n + 1 > 20000 ∨ nodeB t = false ∨ rectMay t.rect = false ∨ (t.kind = 1 ∧ t.id ∈ seen)
    · have e : visit (n, seen) t = (false, (n + 1, seen)) := by simp only [visit]; rw [if_pos hv]
      rw [e]
      simp only [Bool.false_eq_true, if_false, false_iff]
      rintro ⟨h1, h2, h3, h4⟩
      have := h2 t (by simp)
      rcases hv with hv | hv | hv | ⟨hv, hv2⟩
      · simp at h1; omega
      · simp [this.1] at hv
      · simp [this.2] at hv
      · exact h4 t.id (by simp [leafIds, isLeaf, hv]) hv2
    · have e : visit (n, seen) t = (true, (n + 1, if t.kind = 1 then seen ++ [t.id] else seen)) := by simp only [visit]; rw [if_neg hv]
      rw [e]
      simp only [if_true]
      rw [seq_visit ts]
      simp only [not_or, Int.not_lt, Bool.not_eq_false, not_and] at hv
      obtain ⟨v1, v2, v3, v4⟩ := hv
      by_cases hk : t.kind = 1
      · have hl : leafIds (t :: ts) = t.id :: leafIds ts := by simp [leafIds, isLeaf, hk]
        rw [hl, if_pos hk]
        simp only [List.mem_cons, List.nodup_cons, List.mem_append, List.mem_singleton, List.not_mem_nil, or_false]
        constructor
        · rintro ⟨h1, h2, h3, h4⟩
          refine ⟨.inr ?_, ?_, ⟨fun hm => (h4 _ hm) (.inr rfl), h3⟩, ?_⟩
          · rcases h1 with rfl | h1
            · simp; omega
            · simp; omega
          · rintro u (rfl | hu)
            · exact ⟨v2, v3⟩
            · exact h2 u hu
          · rintro x (rfl | hx)
            · exact v4 hk
            · exact fun hm => h4 x hx (.inl hm)
        · rintro ⟨h1, h2, ⟨h3, h3'⟩, h4⟩
          refine ⟨?_, fun u hu => h2 u (.inr hu), h3', ?_⟩
          · rcases h1 with h1 | h1
            · cases h1
            · simp at h1; right; omega
          · rintro x hx (hm | rfl)
            · exact h4 x (.inr hx) hm
            · exact h3 hx
      · have hl : leafIds (t :: ts) = leafIds ts := by simp [leafIds, isLeaf, hk]
        rw [hl, if_neg hk]
        constructor
        · rintro ⟨h1, h2, h3, h4⟩
          refine ⟨.inr ?_, ?_, h3, h4⟩
          · rcases h1 with rfl | h1
            · simp; omega
            · simp; omega
          · rintro u hu
            rcases List.mem_cons.1 hu with rfl | hu
            · exact ⟨v2, v3⟩
            · exact h2 u hu
        · rintro ⟨h1, h2, h3, h4⟩
          refine ⟨?_, fun u hu => h2 u (by simp [hu]), h3, h4⟩
          rcases h1 with h1 | h1
          · cases h1
          · simp at h1; right; omega
theorem mayT_iff (t : T) : mayT t = true ↔ ((allT t).length ≤ 20000 ∧ (∀ u ∈ allT t, nodeB u = true ∧ rectMay u.rect = true) ∧ (leafIds (allT t)).Nodup) := by
  rw [mayT, allB_trav, travT_seq, seq_visit]
  have : allT t ≠ [] := by rw [allT_eq]; simp
  simp [this]
  intro _ _; omega
theorem mayT_kind {t : T} (h : mayT t = true) : ∀ u ∈ allT t, 1 ≤ u.kind ∧ u.kind ≤ 3 := by
  intro u hu
  have := ((mayT_iff t).1 h).2.1 u hu
  have h1 := this.1
  unfold nodeB at h1
  split at h1
  · omega
  · split at h1
    · omega
    · cases h1
end Go.Sim

namespace Go.Sim
open Go.Proofs
/-! ### the reference's trees that may be -/
theorem nodeB_iff (t : T) : nodeB t = true ↔ ((t.kind = 1 ∧ t.kids.length = 0 ∧ 0 ≤ t.id ∧ t.id ≤ 2147483647) ∨ ((t.kind = 2 ∨ t.kind = 3) ∧ 2 ≤ t.kids.length ∧ t.id = 0)) := by
  unfold nodeB
  split
  · rw [decide_eq_true_eq]; omega
  · split
    · rw [decide_eq_true_eq]; omega
    · simp only [Bool.false_eq_true, false_iff]; omega
set_option maxRecDepth 100000 in
theorem refMayFn (t : T) (hs : sizeT t < 2 ^ 30) : PureFn Tryz.prog 31 [encT t] (.ret (.bool (mayT t))) := by
  refine PureFn.start (rs := [.tmp 2]) Tryz.func31 rfl rfl rfl (Nat.le_of_ble_eq_true rfl) (by decide) allLit ?_
  have hlen := length_allT t
  simp -dsimp -implicitDefEqProofs +contextual (disch := omega) only [go_sem]
  refine use_call (allFn _ t (Nat.lt_succ_self _) (by omega)) (by simp [pureAll]) ?_
  have hmi := mayT_iff t
  generalize hA : allT t = A at *
  simp -dsimp -implicitDefEqProofs +contextual (disch := omega) only [go_sem]
  refine ⟨fun h => ?_, fun h => ?_⟩
  · cases hm : mayT t
    · rfl
    · have := (hmi.1 hm).1; omega
  refine loop_intro (ι := Nat) (fun i => ⟨[(1, .ptr 0 0), (3, .slice 7 (A.map encT)), (14, .int .i64 A.length), (15, .int .i64 i)], [some (.box (30 : Nat) (cellsT t))]⟩) (fun i => i ≤ A.length ∧ ∀ u ∈ A.take i, nodeB u = true ∧ rectMay u.rect = true) (fun i => A.length - i) 0 ⟨Nat.zero_le _, by simp⟩ (Sub.env ?_) ?_
  · simp -dsimp -implicitDefEqProofs +contextual (disch := omega) only [go_sem] <;> simp
  · rintro i ⟨hi, hj⟩
    simp -dsimp -implicitDefEqProofs +contextual (disch := omega) only [go_sem]
    refine ⟨fun hlt => ?_, fun hge => ?_⟩
    · have hu : mayT t = true → nodeB A[i] = true ∧ rectMay A[i].rect = true := fun h => (hmi.1 h).2.1 _ (List.getElem_mem hlt)
      have hnb := nodeB_iff A[i]
      refine use_call (refRectMayFn A[i].rect) (by simp [pureAll]) ?_
      cases hr : rectMay A[i].rect with
      | false =>
        simp -dsimp -implicitDefEqProofs +contextual (disch := omega) only [go_sem]
        cases hm : mayT t
        · rfl
        · have := (hu hm).2; rw [hr] at this; cases this
      | true =>
        simp -dsimp -implicitDefEqProofs +contextual (disch := omega) only [go_sem]
        repeat' first
          | exact hlt
          | refine And.intro ?_ ?_
          | intro _
        all_goals try simp only [beq_iff_eq, bne_iff_ne, ne_eq, beq_eq_false_iff_ne, bne_eq_false_iff_eq, Bool.not_eq_true] at *
        all_goals first
          | (cases hm : mayT t
             · rfl
             · exfalso
               have := hnb.1 (hu hm).1
               omega)
          | (refine loop_next (i + 1) ⟨by omega, fun u hq => ?_⟩ (by omega) (Sub.env ?_)
             · rw [List.take_succ_eq_append_getElem hlt] at hq
               rcases List.mem_append.1 hq with h1 | h1
               · exact hj u h1
               · simp only [List.mem_singleton] at h1
                 subst h1
                 exact ⟨hnb.2 (by omega), hr⟩
             · simp -dsimp -implicitDefEqProofs +contextual (disch := omega) only [go_sem] <;> simp)
    · have e : i = A.length := by omega
      subst e
      rw [List.take_length] at hj
      refine use_call (refLeavesFn t (by omega)) (by simp [pureAll]) ?_
      rw [hA]
      generalize hL : A.filter isLeaf = L at *
      have hid : leafIds A = L.map T.id := by rw [leafIds, hL]
      have hLl : L.length ≤ A.length := by rw [← hL]; exact List.length_filter_le _ _
      simp -dsimp -implicitDefEqProofs +contextual (disch := omega) only [go_sem]
      refine loop_intro (ι := Nat) (fun i => ⟨[(5, .slice 7 (L.map encT)), (101, .int .i64 L.length), (102, .int .i64 i)], [some (.box (30 : Nat) (cellsT t))]⟩) (fun i => i ≤ L.length ∧ ((L.take i).map T.id).Nodup) (fun i => L.length - i) 0 ⟨Nat.zero_le _, by simp⟩ (Sub.env ?_) ?_
      · simp -dsimp -implicitDefEqProofs +contextual (disch := omega) only [go_sem] <;> simp
      · rintro i ⟨hi, hn⟩
        simp -dsimp -implicitDefEqProofs +contextual (disch := omega) only [go_sem]
        refine ⟨fun hlt => ?_, fun hge => ?_⟩
        · refine loop_intro (ι := Nat) (fun k => ⟨[(5, .slice 7 (L.map encT)), (101, .int .i64 L.length), (102, .int .i64 i), (6, .int .i64 i), (7, .int .i64 k)], [some (.box (30 : Nat) (cellsT t))]⟩) (fun k => k ≤ i ∧ ∀ u ∈ L.take k, u.id ≠ L[i].id) (fun k => i - k) 0 ⟨Nat.zero_le _, by simp⟩ (Sub.env ?_) ?_
          · simp -dsimp -implicitDefEqProofs +contextual (disch := omega) only [go_sem] <;> simp
          · rintro k ⟨hk, hd⟩
            simp -dsimp -implicitDefEqProofs +contextual (disch := omega) only [go_sem]
            refine ⟨fun hlk => ?_, fun hgk => ?_⟩
            · refine use_draw [(0, none), (1, none), (2, none), (3, none), (4, none), (5, none), (6, none), (7, none), (8, none), (9, none), (10, none)] [[], [], [0, 1], [0, 1, 2], [0, 1, 2, 3], [], [], [5, 6], [5, 6, 7], [5, 6, 7, 8], [0, 1, 2, 3, 4, 5, 6, 7, 8, 9]] mixed (by decide +kernel) ?_
              have hk2 : k < L.length := by omega
              simp -dsimp -implicitDefEqProofs +contextual (disch := omega) only [go_sem, hlt, hk2]
              refine ⟨fun hc => ?_, fun hc => ?_⟩
              · cases hm : mayT t
                · rfl
                · exfalso
                  have hnd := (hmi.1 hm).2.2
                  rw [hid] at hnd
                  have hkl : k < (L.map T.id).length := by simpa using hk2
                  have hil : i < (L.map T.id).length := by simpa using hlt
                  have := (List.pairwise_iff_getElem.1 hnd) k i hkl hil (by omega)
                  simp at this hc
                  exact this hc.symm
              · refine loop_next (k + 1) ⟨by omega, fun u hq => ?_⟩ (by omega) (Sub.env ?_)
                · rw [List.take_succ_eq_append_getElem hk2] at hq
                  rcases List.mem_append.1 hq with h1 | h1
                  · exact hd u h1
                  · simp only [List.mem_singleton] at h1
                    subst h1
                    simp at hc
                    exact fun e => hc e.symm
                · simp -dsimp -implicitDefEqProofs +contextual (disch := omega) only [go_sem] <;> simp
            · have e : k = i := by omega
              subst e
              refine loop_next (k + 1) ⟨by omega, ?_⟩ (by omega) (Sub.env ?_)
              · rw [List.take_succ_eq_append_getElem hlt, List.map_append, List.nodup_append]
                refine ⟨hn, by simp, ?_⟩
                rintro x hx y hy rfl
                simp at hy
                obtain ⟨u, hu, hue⟩ := List.mem_map.1 hx
                exact hd u hu (by rw [hue, hy])
              · simp -dsimp -implicitDefEqProofs +contextual (disch := omega) only [go_sem] <;> simp
        · have e : i = L.length := by omega
          subst e
          rw [List.take_length] at hn
          symm
          exact hmi.2 ⟨by omega, hj, by rw [hid]; exact hn⟩
end Go.Sim

namespace Go.Sim
open Go.Proofs
/-! ### the reference's tiles -/
set_option maxRecDepth 100000 in
theorem refSizesFn (t : T) (hs : sizeT t < 2 ^ 40) : PureFn Tryz.prog 47 [encT t] (.ret (.slice 1 ((sizesT t).map encI))) := by
  refine PureFn.start (rs := [.tmp 2]) Tryz.func47 rfl rfl rfl (Nat.le_of_ble_eq_true rfl) (by decide) allLit ?_
  have hlen := length_sizeL t.kids
  have hsz := sizeT_eq t
  simp -dsimp -implicitDefEqProofs +contextual (disch := omega) only [go_sem]
  refine loop_intro (ι := Nat) (fun i => ⟨[(1, .ptr 0 0), (3, .mslice 1 1 0 i), (8, .int .i64 t.kids.length), (9, .int .i64 i)], [some (.box (30 : Nat) (cellsT t)), some (.row (3 : Nat) 1 (((sizesT t).take i).map encI))]⟩) (fun i => i ≤ t.kids.length) (fun i => t.kids.length - i) 0 (Nat.zero_le _) ((Sub.nilrow 3 1 (3 : Nat) (.inr ?_)).trans (Sub.env' ?_ ?_)) ?_
  · simp -dsimp -implicitDefEqProofs +contextual (disch := omega) only [go_sem]
  · simp
  · simp -dsimp -implicitDefEqProofs +contextual (disch := omega) only [go_sem] <;> simp
  · intro i hi
    have hsl : (sizesT t).length = t.kids.length := by simp [sizesT]
    have hl : ((sizesT t).take i).length = i := by simp [hsl]; omega
    simp -dsimp -implicitDefEqProofs +contextual (disch := omega) only [go_sem, hl]
    refine ⟨fun hlt => ?_, fun hge => ?_⟩
    · have hlt2 : i < (sizesT t).length := by omega
      have hm : (sizesT t).take (i + 1) = (sizesT t).take i ++ [if t.kind = 2 then t.kids[i].rect.w else t.kids[i].rect.h] := by
        rw [List.take_succ_eq_append_getElem hlt2]; simp [sizesT]
      refine ⟨fun h2 => ?_, fun h2 => ?_⟩
      · have h2' : t.kind = 2 := by simpa using h2
        refine ⟨by omega, ?_⟩
        refine loop_next (i + 1) (by omega) (by omega) (Sub.env' ?_ ?_)
        · simp [hm, h2', encI]
        · simp -dsimp -implicitDefEqProofs +contextual (disch := omega) only [go_sem] <;> simp
      · have h2' : ¬ t.kind = 2 := by simpa using h2
        refine ⟨by omega, ?_⟩
        refine loop_next (i + 1) (by omega) (by omega) (Sub.env' ?_ ?_)
        · simp [hm, h2', encI]
        · simp -dsimp -implicitDefEqProofs +contextual (disch := omega) only [go_sem] <;> simp
    · have e : i = t.kids.length := by omega
      subst e
      simp [hl, ← hsl]
def oneV (t : T) : List R × Bool := if (linesV t).2 then ((linesV t).1, true) else ([], false)
set_option maxRecDepth 100000 in
theorem refOneFn (t : T) (hk : 1 ≤ t.kind ∧ t.kind ≤ 3) (hs : sizeT t < 2 ^ 40) : PureFn Tryz.prog 33 [encT t] (.ret (.tuple [.slice 4 ((oneV t).1.map encR), .bool (oneV t).2])) := by
  refine PureFn.start (rs := [.tmp 2, .tmp 3]) Tryz.func33 rfl rfl rfl (Nat.le_of_ble_eq_true rfl) (by decide) allLit ?_
  have hlen := length_sizeL t.kids
  have hsz := sizeT_eq t
  have hsl : (sizesT t).length = t.kids.length := by simp [sizesT]
  simp -dsimp -implicitDefEqProofs +contextual (disch := omega) only [go_sem]
  refine ⟨fun h => ?_, fun h => ?_⟩
  · have h' : t.kind = 1 := by simpa using h
    simp [oneV, linesV, h']
  · have h' : ¬ t.kind = 1 := by simpa using h
    have hv : linesV t = match cutR t.rect (t.kind - 1) (sizesT t) with
      | none => ([], false)
      | some (ps, bs) => (bs, decide (t.kids.map T.rect = ps)) := if_neg h'
    refine use_draw [(0, none), (1, none), (2, none), (3, none), (4, none), (5, none), (6, some [0, 1, 2, 3, 4]), (7, some []), (8, none), (9, none), (10, none), (11, none), (12, none), (13, none), (14, none)] [[], [0], [], [2], [2, 3], [], [5], [0, 1, 2, 3, 4, 5, 6], [0, 1, 2, 3, 4, 5, 6, 7], [0, 1, 2, 3, 4, 5, 6, 7, 8], [0, 1, 2, 3, 4, 5, 6, 7, 8], [0, 1, 2, 3, 4, 5, 6, 7, 8], [0, 1, 2, 3, 4, 5, 6, 7, 8, 9], [0, 1, 2, 3, 4, 5, 6, 7, 8, 9, 10, 12], [0, 1, 2, 3, 4, 5, 6, 7, 8, 9, 10, 11, 12, 13]] mixed (by decide +kernel) ?_
    simp -dsimp -implicitDefEqProofs +contextual (disch := omega) only [go_sem]
    refine use_call (refSizesFn t hs) (by simp [pureAll]) ?_
    simp -dsimp -implicitDefEqProofs +contextual (disch := omega) only [go_sem]
    refine use_call (refCutFn t.rect (t.kind - 1) (by omega) (sizesT t) (by omega)) (by simp [pureAll, AV.pureB]) ?_
    rcases hc : cutR t.rect (t.kind - 1) (sizesT t) with _ | ⟨ps, bs⟩
    · rw [hc] at hv
      simp only [encCut]
      simp -dsimp -implicitDefEqProofs +contextual (disch := omega) only [go_sem]
      simp [oneV, hv]
    · rw [hc] at hv
      have hl := cutR_len hc
      simp only [encCut]
      simp -dsimp -implicitDefEqProofs +contextual (disch := omega) only [go_sem]
      refine loop_intro (ι := Nat) (fun i => ⟨[(1, .ptr 0 0), (4, .slice 4 (ps.map encR)), (5, .slice 4 (bs.map encR)), (28, .int .i64 ps.length), (29, .int .i64 i)], [some (.box (30 : Nat) (cellsT t))]⟩) (fun i => i ≤ ps.length ∧ (t.kids.map T.rect).take i = ps.take i) (fun i => ps.length - i) 0 ⟨Nat.zero_le _, by simp⟩ (Sub.env ?_) ?_
      · simp -dsimp -implicitDefEqProofs +contextual (disch := omega) only [go_sem] <;> simp
      · rintro i ⟨hi, hj⟩
        simp -dsimp -implicitDefEqProofs +contextual (disch := omega) only [go_sem]
        refine ⟨fun hlt => ?_, fun hge => ?_⟩
        · have hlt2 : i < t.kids.length := by omega
          refine use_draw [(0, none), (1, none), (2, none), (3, none), (4, none), (5, none), (6, none), (7, none), (8, none), (9, none), (10, none)] [[], [], [0, 1], [0, 1, 2], [], [4], [], [4, 5, 6], [4, 5, 6, 7], [4, 5, 6, 7, 8], [0, 1, 2, 3, 4, 5, 6, 7, 8, 9]] mixed (by decide +kernel) ?_
          simp -dsimp -implicitDefEqProofs +contextual (disch := omega) only [go_sem, hlt, hlt2]
          refine ⟨fun hc2 => ?_, fun hc2 => ?_⟩
          · have : ¬ t.kids.map T.rect = ps := by
              intro e
              subst e
              simp at hc2
            simp [oneV, hv, this]
          · refine loop_next (i + 1) ⟨by omega, ?_⟩ (by omega) (Sub.env ?_)
            · have hlt3 : i < (t.kids.map T.rect).length := by simpa using hlt2
              rw [List.take_succ_eq_append_getElem hlt, List.take_succ_eq_append_getElem hlt3, hj]
              have : ps[i] = t.kids[i].rect := by simpa using hc2
              rw [this]; simp
            · simp -dsimp -implicitDefEqProofs +contextual (disch := omega) only [go_sem] <;> simp
        · have e : i = ps.length := by omega
          have hps : t.kids.map T.rect = ps := by
            rw [e, List.take_length, List.take_of_length_le (by simp; omega)] at hj
            exact hj
          simp [oneV, hv, hps]
theorem seqW_append_true : ∀ (l : List T) (s : W), (seqL walkV s l).1 = true → (seqL walkV s l).2.1 = s.1 + l.length
  | [], s, _ => by simp [seqL]
  | t :: ts, s, h => by
    simp only [seqL] at h ⊢
    split at h
    · rename_i hw
      rw [if_pos hw, seqW_append_true ts _ h]
      have : (walkV s t).2.1 = s.1 + 1 := by
        unfold walkV at hw ⊢
        split <;> simp_all
      rw [this]; simp; omega
    · cases h
mutual
theorem edgesT : ∀ t : T, ((allT t).map fun u => u.kids.length).sum + 1 = sizeT t
  | .node k x y w h i ks => by
    have := edgesL ks
    have e : (T.node k x y w h i ks).kids = ks := rfl
    simp only [allT, sizeT, List.map_cons, List.sum_cons, e]; omega
theorem edgesL : ∀ l : List T, ((allL l).map fun u => u.kids.length).sum + l.length = sizeL l
  | [] => rfl
  | t :: ts => by
    have h1 := edgesT t
    have h2 := edgesL ts
    simp only [allL, sizeL, List.map_append, List.sum_append, List.length_cons]; omega
end
def encLines (t : T) : AV := match tileE t with
  | some (e, a) => .tuple [.slice 4 [], .int .i64 e, .int .i64 a]
  | none => .tuple [.slice 4 ((travT walkV (0, []) t).2.2.map encR), .int .i64 0, .int .i64 0]
set_option maxRecDepth 100000 in
theorem refCheckFn (t : T) (hs : sizeT t < 2 ^ 30) : PureFn Tryz.prog 20 [encT t] (.ret (encLines t)) := by
  refine PureFn.start (rs := [.tmp 2, .tmp 3, .tmp 4]) Tryz.func20 rfl rfl rfl (Nat.le_of_ble_eq_true rfl) (by decide) allLit ?_
  have hlen := length_allT t
  simp -dsimp -implicitDefEqProofs +contextual (disch := omega) only [go_sem]
  refine use_call (refMayFn t hs) (by simp [pureAll]) ?_
  cases hm : mayT t with
  | false =>
    simp -dsimp -implicitDefEqProofs +contextual (disch := omega) only [go_sem]
    simp [encLines, tileE, hm]
  | true =>
    simp -dsimp -implicitDefEqProofs +contextual (disch := omega) only [go_sem]
    refine use_call (allFn _ t (Nat.lt_succ_self _) (by omega)) (by simp [pureAll]) ?_
    have hkd := mayT_kind hm
    have hts := travT_seq walkV t (0, [])
    have hsz : ∀ u ∈ allT t, sizeT u ≤ sizeT t ∧ u.kids.length ≤ sizeT t := fun u hu => ⟨allT_size hu, by have := length_sizeL u.kids; have := sizeT_eq u; have := allT_size hu; omega⟩
    have hed := edgesT t
    generalize hA : allT t = A at *
    simp -dsimp -implicitDefEqProofs +contextual (disch := omega) only [go_sem]
    refine loop_intro (ι := Nat × List R) (fun p => ⟨[(5, .zcap), (6, .slice 7 (A.map encT)), (7, .mslice 4 1 0 p.2.length), (20, .int .i64 A.length), (21, .int .i64 p.1)], [some (.box (30 : Nat) (cellsT t)), some (.row (28 : Nat) 4 (p.2.map encR))]⟩) (fun p => p.1 ≤ A.length ∧ p.2.length + ((A.drop p.1).map fun u => u.kids.length).sum ≤ sizeT t ∧ seqL walkV (0, []) A = seqL walkV ((p.1 : Int), p.2) (A.drop p.1)) (fun p => A.length - p.1) (0, []) ⟨Nat.zero_le _, by simp; omega, by simp⟩ ((Sub.nilrow 7 4 (28 : Nat) (.inr ?_)).trans (Sub.env' ?_ ?_)) ?_
    · simp -dsimp -implicitDefEqProofs +contextual (disch := omega) only [go_sem]
    · simp
    · simp -dsimp -implicitDefEqProofs +contextual (disch := omega) only [go_sem] <;> simp
    · rintro ⟨i, out⟩ ⟨hi, ho, hj⟩
      simp only at hi ho hj
      simp -dsimp -implicitDefEqProofs +contextual (disch := omega) only [go_sem]
      refine ⟨fun hlt => ?_, fun hge => ?_⟩
      · have hu := hkd A[i] (List.getElem_mem hlt)
        have hq := hsz A[i] (List.getElem_mem hlt)
        have hll := linesV_len A[i]
        rw [List.drop_eq_getElem_cons hlt, seqL] at hj
        rw [List.drop_eq_getElem_cons hlt, List.map_cons, List.sum_cons] at ho
        refine use_call (refOneFn A[i] hu (by omega)) (by simp [pureAll]) ?_
        cases hv : (linesV A[i]).2 with
        | false =>
          have ho1 : oneV A[i] = ([], false) := by simp [oneV, hv]
          have hw1 : walkV ((i : Int), out) A[i] = (false, ((i : Int), out)) := by simp [walkV, hv]
          rw [hw1] at hj
          simp only [ho1]
          simp -dsimp -implicitDefEqProofs +contextual (disch := omega) only [go_sem]
          have : tileE t = some (5, (i : Int)) := by simp [tileE, hm, hts, hj]
          simp [encLines, this]
        | true =>
          have ho1 : oneV A[i] = ((linesV A[i]).1, true) := by simp [oneV, hv]
          have hw1 : walkV ((i : Int), out) A[i] = (true, ((i : Int) + 1, out ++ (linesV A[i]).1)) := by simp [walkV, hv]
          rw [hw1] at hj
          simp only [ho1]
          simp -dsimp -implicitDefEqProofs +contextual (disch := omega) only [go_sem]
          refine ⟨by omega, ?_⟩
          refine loop_next (i + 1, out ++ (linesV A[i]).1) ⟨by simp only; omega, by simp only [List.length_append]; omega, by simpa using hj⟩ (by simp only; omega) (Sub.env' ?_ ?_)
          · simp
          · simp -dsimp -implicitDefEqProofs +contextual (disch := omega) only [go_sem] <;> simp
      · have e : i = A.length := by omega
        subst e
        rw [List.drop_length, seqL] at hj
        have : tileE t = none := by simp [tileE, hm, hts, hj]
        simp [encLines, this, hts, hj]
set_option maxRecDepth 100000 in
theorem refTilesFn (t : T) (hs : sizeT t < 2 ^ 30) : PureFn Tryz.prog 10 [encT t] (.ret (.bool (!(tileE t).isSome))) := by
  refine PureFn.start (rs := [.tmp 2]) Tryz.func10 rfl rfl rfl (Nat.le_of_ble_eq_true rfl) (by decide) allLit ?_
  simp -dsimp -implicitDefEqProofs +contextual (disch := omega) only [go_sem]
  refine use_call (refCheckFn t hs) (by simp [pureAll]) ?_
  cases hc : tileE t with
  | none =>
    simp only [encLines, hc]
    simp -dsimp -implicitDefEqProofs +contextual (disch := omega) only [go_sem]
    rfl
  | some p =>
    obtain ⟨e, a⟩ := p
    have he : e ≠ 0 := by
      unfold tileE at hc
      split at hc
      · cases hc; decide
      · split at hc
        · cases hc; decide
        · cases hc
    simp only [encLines, hc]
    simp -dsimp -implicitDefEqProofs +contextual (disch := omega) only [go_sem]
    simpa using he
end Go.Sim

namespace Go.Sim
open Go.Proofs
/-! ### texts -/
theorem tiles1 (t : T) (hs : sizeT t < 2 ^ 30) : PureFn Tryz.prog 26 [.slice 7 [encT t]] (.ret (.bool (!(tileE t).isSome))) := by
  have := tilesFn [t] (by simp [sizeL]; omega) (fun u hu => by simp at hu; subst hu; exact mayT_kind)
  simpa only [List.map_cons, List.map_nil, List.any_cons, List.any_nil, Bool.or_false] using this
def putS (s : List UInt8) : List UInt8 := hex4 (sumS 0 s) ++ 44 :: s
def textV (t : T) : List UInt8 × Int := if (tileE t).isSome then ([], 1) else if (putS (bodyT t)).length > 65535 ∨ depthT t > 1000 then ([], 3) else (putS (bodyT t), 0)
theorem kinds_of_tiles {t : T} (h : (tileE t).isSome = false) : ∀ u ∈ allT t, 1 ≤ u.kind ∧ u.kind ≤ 3 := by
  apply mayT_kind
  cases hm : mayT t
  · simp [tileE, hm] at h
  · rfl
theorem length_putS (t : T) : (putS (bodyT t)).length = (bodyT t).length + 5 := by simp [putS, hex4]
set_option maxRecDepth 100000 in
theorem refTextFn (t : T) (hs : sizeT t < 2 ^ 30) : PureFn Tryz.prog 6 [encT t] (.ret (.tuple [.str (textV t).1, .int .i64 (textV t).2])) := by
  refine PureFn.start (rs := [.tmp 2, .tmp 3]) Tryz.func6 rfl rfl rfl (Nat.le_of_ble_eq_true rfl) (by decide) allLit ?_
  have hbl := length_bodyT t
  have hpl := length_putS t
  simp -dsimp -implicitDefEqProofs +contextual (disch := omega) only [go_sem]
  refine use_call (refTilesFn t hs) (by simp [pureAll]) ?_
  cases ht : (tileE t).isSome with
  | true =>
    simp -dsimp -implicitDefEqProofs +contextual (disch := omega) only [go_sem]
    simp [textV, ht]
  | false =>
    simp -dsimp -implicitDefEqProofs +contextual (disch := omega) only [go_sem]
    refine use_call (refBodyFn _ t (Nat.lt_succ_self _) hs (kinds_of_tiles ht)) (by simp [pureAll]) ?_
    simp -dsimp -implicitDefEqProofs +contextual (disch := omega) only [go_sem]
    refine use_call (refPutFn (bodyT t) (by omega)) (by simp [pureAll, AV.pureB]) ?_
    rw [show hex4 (sumS 0 (bodyT t)) ++ 44 :: bodyT t = putS (bodyT t) from rfl]
    simp -dsimp -implicitDefEqProofs +contextual (disch := omega) only [go_sem]
    refine ⟨fun hl => ?_, fun hl => ?_⟩
    · refine use_call (depthFn9 _ t (Nat.lt_succ_self _) (by omega)) (by simp [pureAll]) ?_
      simp -dsimp -implicitDefEqProofs +contextual (disch := omega) only [go_sem]
      refine ⟨fun _ => ⟨fun hd => ?_, fun hd => ?_⟩, fun h => absurd h hl⟩
      · rw [textV, if_neg (by simp [ht]), if_pos (.inr hd)]; exact ⟨rfl, rfl⟩
      · rw [textV, if_neg (by simp [ht]), if_neg (by omega)]; exact ⟨rfl, rfl⟩
    · rw [textV, if_neg (by simp [ht]), if_pos (.inl (by omega))]; exact ⟨rfl, rfl⟩
set_option maxRecDepth 100000 in
theorem bodyFn (t : T) (hs : sizeT t < 2 ^ 30) : PureFn Tryz.prog 17 [encT t] (.ret (.tuple [.str (if (tileE t).isSome then [] else bodyT t), .int .i64 (if (tileE t).isSome then 1 else 0)])) := by
  refine PureFn.start (rs := [.tmp 2, .tmp 3]) Tryz.func17 rfl rfl rfl (Nat.le_of_ble_eq_true rfl) (by decide) allLit ?_
  have hbl := length_bodyT t
  have hb0 : 0 < (bodyT t).length := by rw [bodyT_eq]; simp [headS]; omega
  simp -dsimp -implicitDefEqProofs +contextual (disch := omega) only [go_sem]
  refine use_call (tiles1 t hs) (by simp [pureAll, AV.pureB]) ?_
  cases ht : (tileE t).isSome with
  | true =>
    simp -dsimp -implicitDefEqProofs +contextual (disch := omega) only [go_sem]
  | false =>
    simp -dsimp -implicitDefEqProofs +contextual (disch := omega) only [go_sem]
    refine use_nilcell (l := 1) (o := 1) 1 (5 : Nat) rfl (by simp) (.inl rfl) ?_
    refine acalls_frame [1, 2] ( putTFn _ .nilp t [] (Nat.lt_succ_self _) (.inl rfl) (by simp; omega)) (by decide) rfl (by simp) (by simp [bldH]) (by simp [bldH]) (by simp [bldH]) (by simp [bldH] <;> rfl) (by simp [bldH] <;> rfl) ?_
    simp -dsimp -implicitDefEqProofs +contextual (disch := omega) only [go_sem]
    refine use_frame [1, 2] ( stringFn (.ptr 0 0) (bodyT t) (.inr rfl) (by omega)) (by decide) rfl (by simp) (by simp [bldH]) (by simp [bldH]) (by simp [bldH]) (by simp [bldH] <;> rfl) (by simp [bldH] <;> rfl) ?_
    simp -dsimp -implicitDefEqProofs +contextual (disch := omega) only [go_sem]
set_option maxRecDepth 100000 in
theorem textFn (t : T) (hs : sizeT t < 2 ^ 30) : PureFn Tryz.prog 9 [encT t] (.ret (.tuple [.str (textV t).1, .int .i64 (textV t).2])) := by
  refine PureFn.start (rs := [.tmp 2, .tmp 3]) Tryz.func9 rfl rfl rfl (Nat.le_of_ble_eq_true rfl) (by decide) allLit ?_
  have hbl := length_bodyT t
  have hpl := length_putS t
  simp -dsimp -implicitDefEqProofs +contextual (disch := omega) only [go_sem]
  refine use_call (bodyFn t hs) (by simp [pureAll]) ?_
  cases ht : (tileE t).isSome with
  | true =>
    simp -dsimp -implicitDefEqProofs +contextual (disch := omega) only [go_sem]
    simp [textV, ht]
  | false =>
    simp -dsimp -implicitDefEqProofs +contextual (disch := omega) only [go_sem]
    refine use_call (putFn (bodyT t) (by omega)) (by simp [pureAll, AV.pureB]) ?_
    rw [show hex4 (sumS 0 (bodyT t)) ++ 44 :: bodyT t = putS (bodyT t) from rfl]
    simp -dsimp -implicitDefEqProofs +contextual (disch := omega) only [go_sem]
    refine ⟨fun hl => ?_, fun hl => ?_⟩
    · refine use_call (depthFn8 _ t (Nat.lt_succ_self _) (by omega)) (by simp [pureAll]) ?_
      simp -dsimp -implicitDefEqProofs +contextual (disch := omega) only [go_sem]
      refine ⟨fun _ => ⟨fun hd => ?_, fun hd => ?_⟩, fun h => absurd h hl⟩
      · rw [textV, if_neg (by simp [ht]), if_pos (.inr hd)]; exact ⟨rfl, rfl⟩
      · rw [textV, if_neg (by simp [ht]), if_neg (by omega)]; exact ⟨rfl, rfl⟩
    · rw [textV, if_neg (by simp [ht]), if_pos (.inl (by omega))]; exact ⟨rfl, rfl⟩
def awakeT : T := .node 1 0 0 80 24 1 []
theorem awake_text : textV awakeT = ([98, 50, 53, 101, 44, 56, 48, 120, 50, 52, 44, 48, 44, 48, 44, 49], 0) := by
  have h1 : (tileE awakeT).isSome = false := by decide +kernel
  have h2 : bodyT awakeT = [56, 48, 120, 50, 52, 44, 48, 44, 48, 44, 49] := by
    simp [awakeT, bodyT, headS, decS, Lib.decDigits]
  have h3 : depthT awakeT = 1 := by decide +kernel
  rw [textV, if_neg (by simp [h1]), h2, h3]
  decide +kernel
set_option maxRecDepth 100000 in
theorem awake10Fn : PureFn Tryz.prog 5 [] (.ret (.bool true)) := by
  refine PureFn.start (rs := [.tmp 0]) Tryz.func5 rfl rfl rfl (Nat.le_of_ble_eq_true rfl) (by decide) allLit ?_
  simp -dsimp -implicitDefEqProofs +contextual (disch := omega) only [go_sem]
  refine use_flat 3 (textFn awakeT (by decide)) (by simp [awakeT, encT, encTs, All2]) rfl ?_
  rw [awake_text]
  simp -dsimp -implicitDefEqProofs +contextual (disch := omega) only [go_sem]
set_option maxRecDepth 100000 in
theorem fits1Fn (t : T) (hs : sizeT t < 2 ^ 30) : PureFn Tryz.prog 15 [encT t] (.ret (.bool ((textV t).2 != 0))) := by
  refine PureFn.start (rs := [.tmp 2]) Tryz.func15 rfl rfl rfl (Nat.le_of_ble_eq_true rfl) (by decide) allLit ?_
  simp -dsimp -implicitDefEqProofs +contextual (disch := omega) only [go_sem]
  refine use_call (textFn t hs) (by simp [pureAll]) ?_
  simp -dsimp -implicitDefEqProofs +contextual (disch := omega) only [go_sem]
set_option maxRecDepth 100000 in
theorem fitsFn (ts : List T) (hs : sizeL ts < 2 ^ 30) : PureFn Tryz.prog 7 [.slice 7 (ts.map encT)] (.ret (.bool (!ts.any fun t => (textV t).2 != 0))) := by
  refine PureFn.start (rs := [.tmp 2]) Tryz.func7 rfl rfl rfl (Nat.le_of_ble_eq_true rfl) (by decide) allLit ?_
  have hlen := length_sizeL ts
  simp -dsimp -implicitDefEqProofs +contextual (disch := omega) only [go_sem]
  refine use_call (containspCell (fun t => (textV t).2 != 0) 15 [] ts (by omega) fun t ht => fits1Fn t (by have := sizeL_mem ht; omega)) (by simp [pureAll, AV.pureB]) ?_
  simp -dsimp -implicitDefEqProofs +contextual (disch := omega) only [go_sem]
set_option maxRecDepth 100000 in
theorem printFitsFn (ts : List T) (hs : sizeL ts < 2 ^ 30) : PureFn Tryz.prog 3 [.slice 7 (ts.map encT)] (.ret (.bool true)) := by
  refine PureFn.start (rs := [.tmp 2]) Tryz.func3 rfl rfl rfl (Nat.le_of_ble_eq_true rfl) (by decide) allLit ?_
  have hlen := length_sizeL ts
  simp -dsimp -implicitDefEqProofs +contextual (disch := omega) only [go_sem]
  refine use_call (greatAllFn ts (by omega)) (by simp [pureAll, AV.pureB]) ?_
  cases greatAllT ts with
  | true =>
    simp -dsimp -implicitDefEqProofs +contextual (disch := omega) only [go_sem]
    refine use_call awake10Fn rfl ?_
    simp -dsimp -implicitDefEqProofs +contextual (disch := omega) only [go_sem]
  | false =>
    simp -dsimp -implicitDefEqProofs +contextual (disch := omega) only [go_sem]
    refine loop_intro (ι := Nat) (fun i => ⟨[(0, .slice 7 (ts.map encT)), (3, .bool ((ts.take i).all fun t => (textV t).2 == 0)), (4, .int .i64 i)], []⟩) (fun i => i ≤ ts.length) (fun i => ts.length - i) 0 (Nat.zero_le _) (Sub.env ?_) ?_
    · simp -dsimp -implicitDefEqProofs +contextual (disch := omega) only [go_sem] <;> simp
    · intro i hi
      simp -dsimp -implicitDefEqProofs +contextual (disch := omega) only [go_sem]
      refine ⟨fun hlt => ?_, fun hge => ?_⟩
      · have hst := sizeL_mem (List.getElem_mem hlt)
        have hm : (ts.take (i + 1)).all (fun t => (textV t).2 == 0) = ((ts.take i).all (fun t => (textV t).2 == 0) && ((textV ts[i]).2 == 0)) := by
          rw [List.take_succ_eq_append_getElem hlt, List.all_append]; simp
        refine use_call (refTextFn _ (by omega)) (by simp [pureAll]) ?_
        simp -dsimp -implicitDefEqProofs +contextual (disch := omega) only [go_sem]
        refine ⟨fun hw => ?_, fun hw => ?_⟩
        · refine loop_next (i + 1) (by omega) (by omega) (Sub.env ?_)
          rw [hw] at hm
          simp -dsimp -implicitDefEqProofs +contextual (disch := omega) only [go_sem, hm] <;> simp
        · refine loop_next (i + 1) (by omega) (by omega) (Sub.env ?_)
          rw [hw] at hm
          simp -dsimp -implicitDefEqProofs +contextual (disch := omega) only [go_sem, hm] <;> simp
      · have e : i = ts.length := by omega
        subst e
        rw [List.take_length]
        refine use_call (fitsFn ts hs) (by simp [pureAll, AV.pureB]) ?_
        have he : (!ts.any fun t => (textV t).2 != 0) = ts.all fun t => (textV t).2 == 0 := by
          rw [List.not_any_eq_all_not]; congr 1; funext t; simp [bne]
        rw [he]
        simp -dsimp -implicitDefEqProofs +contextual (disch := omega) only [go_sem]
        refine use_call awake10Fn rfl ?_
        simp -dsimp -implicitDefEqProofs +contextual (disch := omega) only [go_sem]
end Go.Sim
