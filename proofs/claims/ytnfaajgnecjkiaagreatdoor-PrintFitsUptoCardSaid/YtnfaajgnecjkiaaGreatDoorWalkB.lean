/- Each function that the law reaches computes what its Lean twin computes: numerals, sums, a text that grows. -/
import Derived.Test.YtnfaajgnecjkiaaGreatDoorWalkA
import Derived.Test.YtnfaajgnecjkiaaGreatDoorShelf
set_option linter.unusedVariables false
set_option linter.unusedSimpArgs false
namespace Go.Sim
open Go.Proofs
/-! ### numerals -/
def hexc (n : Nat) : UInt8 := if n < 10 then UInt8.ofNat (48 + n) else UInt8.ofNat (87 + n)
theorem hexc_piece : ∀ n : Fin 16, (([48, 49, 50, 51, 52, 53, 54, 55, 56, 57, 97, 98, 99, 100, 101, 102] : List UInt8).take (n.val + 1)).drop n.val = [hexc n.val] := by decide +kernel
def decS (n : Int) : List UInt8 := if n < 0 ∨ n > 2147483647 then [] else Lib.decDigits n.toNat
theorem decS_nat {n : Nat} (h : n ≤ 2147483647) : decS n = Lib.decDigits n := by
  unfold decS; rw [if_neg (by omega)]; simp
theorem nDigits_le : ∀ (k u : Nat), u < 10 ^ (k + 1) → Lib.nDigits u ≤ k + 1
  | 0, u, h => by rw [Lib.nDigits_small (by simpa using h)]; exact Nat.le_refl _
  | k + 1, u, h => by
    by_cases h1 : u < 10
    · rw [Lib.nDigits_small h1]; omega
    · rw [Lib.nDigits_big h1]
      have := nDigits_le k (u / 10) (by rw [Nat.pow_succ] at h; omega)
      omega
theorem length_dec {n : Nat} (h : n ≤ 2147483647) : (Lib.decDigits n).length ≤ 10 := by
  rw [Lib.decDigits_length]; exact nDigits_le 9 n (by omega)
theorem length_decS (n : Int) : (decS n).length ≤ 10 := by
  unfold decS
  split
  · simp
  · exact length_dec (by omega)
set_option maxRecDepth 100000 in
theorem digitFn (n : Nat) (h : n < 16) : PureFn Tryz.prog 34 [.int .i64 n] (.ret (.str [hexc n])) := by
  refine PureFn.start (rs := [.tmp 2]) Tryz.func34 rfl rfl rfl (Nat.le_of_ble_eq_true rfl) (by decide) allLit ?_
  simp -dsimp -implicitDefEqProofs +contextual (disch := omega) only [go_sem]
  have e := hexc_piece ⟨n, h⟩
  have e1 : ((n : Int) + 1).toNat = n + 1 := by omega
  simp only [e1] at *
  refine ⟨by omega, by omega, ?_⟩
  exact e
theorem hexc_dec {n : Nat} (h : n < 10) : hexc n = UInt8.ofNat (48 + n) := by unfold hexc; rw [if_pos h]
theorem tmod_nat (m k : Nat) : (m : Int).tmod (OfNat.ofNat k) = ((m % k : Nat) : Int) := by
  rw [Int.tmod_eq_emod_of_nonneg (by omega)]; rfl
theorem tdiv_nat (m k : Nat) : (m : Int).tdiv (OfNat.ofNat k) = ((m / k : Nat) : Int) := by
  rw [Int.tdiv_eq_ediv_of_nonneg (by omega)]; rfl
theorem tmod10 (m : Nat) : (m : Int).tmod 10 = ((m % 10 : Nat) : Int) := tmod_nat m 10
theorem tdiv10 (m : Nat) : (m : Int).tdiv 10 = ((m / 10 : Nat) : Int) := tdiv_nat m 10
theorem dec_step {m : Nat} (h : ¬ m < 10) : Lib.decDigits m = Lib.decDigits (m / 10) ++ [hexc (m % 10)] := by
  rw [Lib.decDigits, dif_neg h, hexc_dec (by omega)]
theorem dec_one {m : Nat} (h : m < 10) : Lib.decDigits m = [hexc m] := by
  rw [Lib.decDigits, dif_pos h, hexc_dec h]
set_option maxRecDepth 100000 in
theorem refDigitsFn (n : Int) : PureFn Tryz.prog 24 [.int .i64 n] (.ret (.str (decS n))) := by
  refine PureFn.start (rs := [.tmp 2]) Tryz.func24 rfl rfl rfl (Nat.le_of_ble_eq_true rfl) (by decide) allLit ?_
  by_cases h0 : n < 0
  · simp -dsimp -implicitDefEqProofs +contextual (disch := omega) only [go_sem, h0]
    simp [decS, h0]
  by_cases h1 : 2147483647 < n
  · simp -dsimp -implicitDefEqProofs +contextual (disch := omega) only [go_sem, h0, h1, decS]
  obtain ⟨m, rfl⟩ := Int.eq_ofNat_of_zero_le (Int.not_lt.1 h0)
  simp -dsimp -implicitDefEqProofs +contextual (disch := omega) only [go_sem, h0, h1, tmod10]
  refine use_call (digitFn (m % 10) (by omega)) (by simp [pureAll, AV.pureB]) ?_
  simp -dsimp -implicitDefEqProofs +contextual (disch := omega) only [go_sem]
  refine loop_intro (ι := Nat × List UInt8) (fun p => ⟨[(0, .int .i64 p.1), (3, .str p.2)], []⟩) (fun p => p.1 ≤ m ∧ Lib.decDigits m = (if p.1 < 10 then [] else Lib.decDigits (p.1 / 10)) ++ p.2 ∧ p.2.length + p.1 < 4000000000) (fun p => p.1) (m, [hexc (m % 10)]) ⟨Nat.le_refl _, ?_, by simp; omega⟩ (Sub.env ?_) ?_
  · by_cases h : m < 10
    · simp [h, dec_one h, Nat.mod_eq_of_lt h]
    · simp [h, dec_step h]
  · simp -dsimp -implicitDefEqProofs +contextual (disch := omega) only [go_sem]
  · rintro ⟨k, s⟩ ⟨hk, hd, hl⟩
    simp only at hk hd hl
    have hw : (k : Int).tdiv 10 = ((k / 10 : Nat) : Int) := tdiv10 k
    have hx : IntKind.i64.wrap ((k / 10 : Nat) : Int) = ((k / 10 : Nat) : Int) := by rw [IntKind.wrap_i64]; omega
    simp -dsimp -implicitDefEqProofs +contextual (disch := omega) only [go_sem, hw, hx, tmod10]
    refine ⟨fun h => ?_, fun h => ?_⟩
    · have hk10 : ¬ k < 10 := by omega
      rw [if_neg hk10] at hd
      refine use_call (digitFn (k / 10 % 10) (by omega)) (by simp [pureAll, AV.pureB]) ?_
      simp -dsimp -implicitDefEqProofs +contextual (disch := omega) only [go_sem]
      refine ⟨by omega, ?_⟩
      refine loop_next (k / 10, hexc (k / 10 % 10) :: s) ⟨by simp only; omega, ?_, by simp only [List.length_cons]; omega⟩ (by simp only; omega) (Sub.env ?_)
      · simp only
        rw [hd]
        by_cases h2 : k / 10 < 10
        · rw [if_pos h2, dec_one h2, Nat.mod_eq_of_lt h2]; rfl
        · rw [if_neg h2, dec_step h2]; simp
      · simp -dsimp -implicitDefEqProofs +contextual (disch := omega) only [go_sem]
    · rw [if_pos (by omega)] at hd
      rw [decS_nat (by omega), hd]; rfl
set_option maxRecDepth 100000 in
theorem itoaFn (n : Nat) (h : n ≤ 2147483647) : PureFn Tryz.prog 68 [.int .i64 n] (.ret (.str (Lib.decDigits n))) := by
  refine PureFn.ofBelow (by kernel_rfl) rfl fun C vs hL hr => ?_
  obtain ⟨_, _, rfl, rfl, rfl⟩ := hr
  refine (Tryz.strconv_Itoa n (by omega) (by omega) C.w (tab_pow10 hL (g := 0) (by kernel_rfl))).mono ?_
  rintro e w' ⟨rfl, k, os, rfl⟩
  refine ⟨⟨_, rfl, ?_⟩, below_grow ..⟩
  simp only [Rel, Lib.itoa, if_neg (show ¬ (n : Int) < 0 by omega), Int.toNat_natCast]
set_option maxRecDepth 100000 in
theorem digitsFn (n : Int) : PureFn Tryz.prog 53 [.int .i64 n] (.ret (.str (decS n))) := by
  refine PureFn.start (rs := [.tmp 2]) Tryz.func53 rfl rfl rfl (Nat.le_of_ble_eq_true rfl) (by decide) allLit ?_
  by_cases h0 : n < 0
  · simp -dsimp -implicitDefEqProofs +contextual (disch := omega) only [go_sem, h0]
    simp [decS, h0]
  by_cases h1 : 2147483647 < n
  · simp -dsimp -implicitDefEqProofs +contextual (disch := omega) only [go_sem, h0, h1, decS]
  obtain ⟨m, rfl⟩ := Int.eq_ofNat_of_zero_le (Int.not_lt.1 h0)
  simp -dsimp -implicitDefEqProofs +contextual (disch := omega) only [go_sem, h0, h1]
  refine use_call (itoaFn m (by omega)) (by simp [pureAll, AV.pureB]) ?_
  simp -dsimp -implicitDefEqProofs +contextual (disch := omega) only [go_sem, decS_nat]
/-! ### Join -/
theorem rowAt_strs {C : Ctx} : ∀ {xs : List (List UInt8)} {vs : List Value}, RelAll C (xs.map encB) vs → vs = xs.map fun s => .string ⟨s.toArray⟩
  | [], _, h => h
  | s :: xs, _, h => by
    obtain ⟨x, r, rfl, h1, h2⟩ := h
    simp only [Rel, encB] at h1
    rw [h1, rowAt_strs h2]; rfl
set_option maxRecDepth 100000 in
theorem joinFn (xs : List (List UInt8)) (sep : List UInt8) (hx : xs.length ≤ 140737488355328) (hl : (Lib.join xs sep).length ≤ 140737488355328) (hst : ∀ C : Ctx, ∀ b, C.still b → b < C.w.heap.size := fun _ _ h => h.2.2) :
    PureFn Tryz.prog 54 [.slice 1 (xs.map encB), .str sep] (.ret (.str (Lib.join xs sep))) := by
  refine PureFn.ofBelow (by kernel_rfl) rfl fun C vs hL hr => ?_
  obtain ⟨v, _, rfl, hv, _, _, rfl, hs, rfl⟩ := hr
  simp only [Rel] at hs
  subst hs
  obtain ⟨a, cap, rfl, hc, hr⟩ := hv
  rw [List.length_map] at hc
  rcases hr with hn | ⟨b, o, vs, rfl, hb, hra, hrow⟩
  · have : xs = [] := by simpa using hn
    subst this
    refine (Tryz.strings_Join_none a cap ⟨sep.toArray⟩ C.w).mono ?_
    rintro e w' ⟨rfl, rfl⟩
    exact ⟨⟨_, rfl, rfl⟩, RowKit.Below.refl _ _⟩
  · have hvs := rowAt_strs hra
    subst hvs
    have hmm : (xs.map fun s => (⟨s.toArray⟩ : ByteArray)).map (·.data.toList) = xs := by
      rw [List.map_map]; conv => rhs; rw [← List.map_id xs]
      exact List.map_congr_left fun s _ => by simp
    have key := Tryz.strings_Join b o cap (xs.map fun s => (⟨s.toArray⟩ : ByteArray)) ⟨sep.toArray⟩ C.w (fun j x hj => by
      rw [List.getElem?_map, Option.map_eq_some_iff] at hj
      obtain ⟨s, hs, rfl⟩ := hj
      obtain ⟨_, _, hcell⟩ := hrow j (.string ⟨s.toArray⟩) (by simp [hs])
      have := hcell 0 _ rfl
      simpa using this) (hst C b hb) (by simpa using hx) (by simpa using hc) (by rw [hmm]; simpa using hl)
    rw [hmm] at key
    simp only [List.length_map] at key ⊢
    refine key.mono ?_
    rintro e w' ⟨rfl, hb⟩
    exact ⟨⟨_, rfl, rfl⟩, hb⟩
end Go.Sim

namespace Go.Sim
open Go.Proofs
/-! ### numerals of several numbers, heads -/
theorem length_joinS : ∀ (l : List Int), (Lib.join (l.map decS) [44]).length ≤ 11 * l.length
  | [] => by simp [Lib.join_nil]
  | x :: l => by
    rw [List.map_cons, Lib.join_cons]
    have h : ∀ l : List Int, (Lib.joinTail [44] (l.map decS)).length ≤ 11 * l.length := by
      intro l
      induction l with
      | nil => simp [Lib.joinTail]
      | cons y l ih =>
        have := length_decS y
        simp only [Lib.joinTail, List.map_cons, List.flatten_cons, List.length_append, List.length_cons, List.length_nil] at ih ⊢
        omega
    have h1 := h l
    have h2 := length_decS x
    simp only [List.length_append, List.length_cons]
    omega
set_option maxRecDepth 100000 in
theorem numDigitsFn (xs : List Int) (hs : xs.length < 2 ^ 40) : PureFn Tryz.prog 39 [.slice 1 (xs.map encI)] (.ret (.str (Lib.join (xs.map decS) [44]))) := by
  refine PureFn.start (rs := [.tmp 2]) Tryz.func39 rfl rfl rfl (Nat.le_of_ble_eq_true rfl) (by decide) allLit ?_
  simp -dsimp -implicitDefEqProofs +contextual (disch := omega) only [go_sem]
  refine loop_intro (ι := Nat) (fun i => ⟨[(3, .mslice 1 0 0 i), (6, .slice 1 (xs.map encI)), (7, .int .i64 xs.length), (8, .int .i64 i)], [some (.row (9 : Nat) 1 (((xs.take i).map decS).map encB))]⟩) (fun i => i ≤ xs.length) (fun i => xs.length - i) 0 (Nat.zero_le _) ((Sub.nilrow 3 1 (9 : Nat) (.inl ?_)).trans (Sub.env' ?_ ?_)) ?_
  · simp -dsimp -implicitDefEqProofs +contextual (disch := omega) only [go_sem]
  · simp
  · simp -dsimp -implicitDefEqProofs +contextual (disch := omega) only [go_sem] <;> simp
  · intro i hi
    have hl : (xs.take i).length = i := by simp; omega
    simp -dsimp -implicitDefEqProofs +contextual (disch := omega) only [go_sem, hl]
    refine ⟨fun hlt => ?_, fun hge => ?_⟩
    · refine use_call (digitsFn xs[i]) (by simp [pureAll, AV.pureB, encI]) ?_
      simp -dsimp -implicitDefEqProofs +contextual (disch := omega) only [go_sem, hl]
      refine ⟨by omega, ?_⟩
      refine loop_next (i + 1) (by omega) (by omega) (Sub.env' ?_ ?_)
      · rw [List.take_succ_eq_append_getElem hlt]; simp only [List.map_append, List.map_cons, List.map_nil]; rfl
      · simp -dsimp -implicitDefEqProofs +contextual (disch := omega) only [go_sem] <;> simp
    · have e : i = xs.length := by omega
      subst e
      rw [List.take_length]
      have := length_joinS xs
      refine use_flat 2 (joinFn (xs.map decS) [44] (by simp; omega) (by omega)) (by simp -dsimp -implicitDefEqProofs +contextual (disch := omega) only [go_sem] <;> simp) rfl ?_
      simp -dsimp -implicitDefEqProofs +contextual (disch := omega) only [go_sem]
theorem numDigits1 (n : Int) : PureFn Tryz.prog 39 [.slice 1 [.int .i64 n]] (.ret (.str (decS n))) := by
  have := numDigitsFn [n] (by simp)
  simpa [Lib.join_one, encI] using this
theorem numDigits3 (a b c : Int) : PureFn Tryz.prog 39 [.slice 1 [.int .i64 a, .int .i64 b, .int .i64 c]] (.ret (.str (decS a ++ 44 :: (decS b ++ 44 :: decS c)))) := by
  have := numDigitsFn [a, b, c] (by simp)
  simpa [Lib.join_cons, Lib.joinTail, encI] using this
def headS (r : R) : List UInt8 := decS r.w ++ 120 :: (decS r.h ++ 44 :: (decS r.x ++ 44 :: decS r.y))
theorem length_headS (r : R) : (headS r).length ≤ 43 := by
  have h1 := length_decS r.w
  have h2 := length_decS r.h
  have h3 := length_decS r.x
  have h4 := length_decS r.y
  simp [headS]; omega
set_option maxRecDepth 100000 in
theorem headFn (r : R) : PureFn Tryz.prog 38 [encR r] (.ret (.str (headS r))) := by
  refine PureFn.start (rs := [.tmp 2]) Tryz.func38 rfl rfl rfl (Nat.le_of_ble_eq_true rfl) (by decide) allLit ?_
  have h1 := length_decS r.w
  have h2 := length_decS r.h
  have h3 := length_decS r.x
  have h4 := length_decS r.y
  simp -dsimp -implicitDefEqProofs +contextual (disch := omega) only [go_sem]
  refine use_draw [(0, none), (1, none), (2, none), (5, none), (6, none), (7, none), (8, none), (9, none), (10, none), (11, none), (3, some [5, 6, 7, 8, 9, 10, 11]), (4, none), (12, some [4]), (13, none), (14, none)] [[], [0], [0, 1], [0, 1, 2], [0, 1, 2, 3], [], [5], [], [7], [], [9], [5, 6, 7, 8, 9, 10], [0, 1, 2, 3, 5, 6, 7, 8, 9, 10, 11], [0, 1, 2, 3, 4, 5, 6, 7, 8, 9, 10, 11, 12], [0, 1, 2, 3, 4, 5, 6, 7, 8, 9, 10, 11, 12, 13]] mixed (by decide +kernel) ?_
  simp -dsimp -implicitDefEqProofs +contextual (disch := omega) only [go_sem]
  refine use_call (numDigits1 r.w) (by simp [pureAll, AV.pureB]) ?_
  simp -dsimp -implicitDefEqProofs +contextual (disch := omega) only [go_sem]
  refine ⟨by omega, ?_⟩
  refine use_call (numDigits3 r.h r.x r.y) (by simp [pureAll, AV.pureB]) ?_
  simp -dsimp -implicitDefEqProofs +contextual (disch := omega) only [go_sem]
  refine ⟨by simp; omega, ?_⟩
  simp [headS]
end Go.Sim

namespace Go.Sim
open Go.Proofs
set_option maxRecDepth 100000 in
theorem refHeadFn (r : R) : PureFn Tryz.prog 23 [encR r] (.ret (.str (headS r))) := by
  refine PureFn.start (rs := [.tmp 2]) Tryz.func23 rfl rfl rfl (Nat.le_of_ble_eq_true rfl) (by decide) allLit ?_
  have h1 := length_decS r.w
  have h2 := length_decS r.h
  have h3 := length_decS r.x
  have h4 := length_decS r.y
  simp -dsimp -implicitDefEqProofs +contextual (disch := omega) only [go_sem]
  refine use_draw [(0, none), (1, none), (4, none), (5, none), (9, none), (10, none), (14, none), (15, none), (2, some [4, 5, 9, 10, 14, 15]), (3, none), (6, some [9, 10, 14, 15, 3]), (7, none), (8, none), (11, some [14, 15, 3, 7, 8]), (12, none), (13, none), (16, some [3, 7, 8, 12, 13]), (17, none), (18, none)] [[], [0], [0, 1], [0, 1, 2], [], [4], [0, 1, 2, 4, 5], [0, 1, 2, 3, 4, 5, 6], [0, 1, 2, 3, 4, 5, 6, 7], [], [9], [0, 1, 2, 4, 5, 6, 9, 10], [0, 1, 2, 3, 4, 5, 6, 7, 8, 9, 10, 11], [0, 1, 2, 3, 4, 5, 6, 7, 8, 9, 10, 11, 12], [], [14], [0, 1, 2, 4, 5, 6, 9, 10, 11, 14, 15], [0, 1, 2, 3, 4, 5, 6, 7, 8, 9, 10, 11, 12, 13, 14, 15, 16], [0, 1, 2, 3, 4, 5, 6, 7, 8, 9, 10, 11, 12, 13, 14, 15, 16, 17]] mixed (by decide +kernel) ?_
  simp -dsimp -implicitDefEqProofs +contextual (disch := omega) only [go_sem]
  refine use_call (refDigitsFn r.w) (by simp [pureAll, AV.pureB]) ?_
  simp -dsimp -implicitDefEqProofs +contextual (disch := omega) only [go_sem]
  refine ⟨by omega, ?_⟩
  refine use_call (refDigitsFn r.h) (by simp [pureAll, AV.pureB]) ?_
  simp -dsimp -implicitDefEqProofs +contextual (disch := omega) only [go_sem]
  refine ⟨by simp; omega, by simp; omega, ?_⟩
  refine use_call (refDigitsFn r.x) (by simp [pureAll, AV.pureB]) ?_
  simp -dsimp -implicitDefEqProofs +contextual (disch := omega) only [go_sem]
  refine ⟨by simp; omega, by simp; omega, ?_⟩
  refine use_call (refDigitsFn r.y) (by simp [pureAll, AV.pureB]) ?_
  simp -dsimp -implicitDefEqProofs +contextual (disch := omega) only [go_sem]
  refine ⟨by simp; omega, ?_⟩
  simp [headS]
/-! ### sums -/
def rot (c : Nat) : Nat := c / 2 + c % 2 * 32768
def sumS (c : Nat) (s : List UInt8) : Nat := s.foldl (fun c b => (rot c + b.toNat) % 65536) c
theorem sumS_lt : ∀ (s : List UInt8) {c : Nat}, c < 65536 → sumS c s < 65536
  | [], c, h => h
  | b :: s, c, h => by
    show sumS ((rot c + b.toNat) % 65536) s < 65536
    exact sumS_lt s (Nat.mod_lt _ (by decide))
theorem sumS_append (a b : List UInt8) (c : Nat) : sumS c (a ++ b) = sumS (sumS c a) b := by simp [sumS]
theorem sumS_succ (s : List UInt8) {i : Nat} (h : i < s.length) (c : Nat) : sumS c (s.take (i + 1)) = (rot (sumS c (s.take i)) + (s.getD i 0).toNat) % 65536 := by
  rw [List.take_succ_eq_append_getElem h, sumS_append]
  simp [sumS, List.getD_eq_getElem?_getD, List.getElem?_eq_getElem h]
theorem rot_15 : IntKind.u64.wrap ((BitVec.ofInt IntKind.u64.bits (IntKind.u64.wrap (-1)) &&& BitVec.ofInt IntKind.u64.bits 15).toNat : Int) = 15 := by decide +kernel
theorem rot_1 : IntKind.u64.wrap (16 - 15) = 1 := by decide +kernel
theorem or_parts (b y : Nat) (hy : y < 32768) : b * 32768 ||| y = b * 32768 + y := by
  have h := Nat.shiftLeft_add_eq_or_of_lt (i := 15) (b := y) (by omega) b
  rw [Nat.shiftLeft_eq] at h
  exact h.symm
theorem rot_bits (c : Nat) (h : c < 65536) : IntKind.u16.wrap ((BitVec.ofInt IntKind.u16.bits (IntKind.u16.wrap ((c : Int) * 2 ^ min (15 : Int).toNat 16)) ||| BitVec.ofInt IntKind.u16.bits ((c : Int).fdiv (2 ^ min (1 : Int).toNat 16))).toNat : Int) = (rot c : Int) := by
  have e1 : (2 : Int) ^ min (15 : Int).toNat 16 = 32768 := by decide
  have e2 : (2 : Int) ^ min (1 : Int).toNat 16 = 2 := by decide
  have hb : IntKind.u16.bits = 16 := rfl
  have e3 : IntKind.u16.wrap ((c : Int) * 32768) = ((c % 2 * 32768 : Nat) : Int) := by
    rw [IntKind.wrap_u16]; omega
  have e4 : (c : Int).fdiv 2 = ((c / 2 : Nat) : Int) := by
    rw [Int.fdiv_eq_ediv_of_nonneg _ (by omega)]; rfl
  rw [e1, e2, e3, e4, hb, BitVec.ofInt_natCast, BitVec.ofInt_natCast, BitVec.toNat_or, BitVec.toNat_ofNat, BitVec.toNat_ofNat, Nat.mod_eq_of_lt (a := c % 2 * 32768) (b := 2 ^ 16) (by omega), Nat.mod_eq_of_lt (a := c / 2) (b := 2 ^ 16) (by omega), or_parts (c % 2) (c / 2) (by omega), IntKind.wrap_u16]
  unfold rot
  omega
set_option maxRecDepth 100000 in
theorem rotFn (c : Nat) (h : c < 65536) : PureFn Tryz.prog 60 [.int .u16 c, .int .i64 (-1)] (.ret (.int .u16 (rot c))) := by
  refine PureFn.start (rs := [.tmp 4]) Tryz.func60 rfl rfl rfl (Nat.le_of_ble_eq_true rfl) (by decide) allLit ?_
  simp -dsimp -implicitDefEqProofs +contextual (disch := omega) only [go_sem, rot_15, rot_1, rot_bits]
set_option maxRecDepth 100000 in
theorem refFromFn (c : Nat) (hc : c < 65536) (s : List UInt8) (hs : s.length < 2 ^ 40) : PureFn Tryz.prog 22 [.int .u16 c, .str s] (.ret (.int .u16 (sumS c s))) := by
  refine PureFn.start (rs := [.tmp 4]) Tryz.func22 rfl rfl rfl (Nat.le_of_ble_eq_true rfl) (by decide) allLit ?_
  simp -dsimp -implicitDefEqProofs +contextual (disch := omega) only [go_sem]
  refine loop_intro (ι := Nat) (fun i => ⟨[(1, .str s), (5, .int .i64 (sumS c (s.take i))), (6, .int .i64 i)], []⟩) (fun i => i ≤ s.length) (fun i => s.length - i) 0 (Nat.zero_le _) (Sub.env ?_) ?_
  · simp -dsimp -implicitDefEqProofs +contextual (disch := omega) only [go_sem] <;> simp [sumS]
  · intro i hi
    have hlt := sumS_lt (s.take i) hc
    have q1 : ((sumS c (s.take i) : Nat) : Int).tdiv 2 = ((sumS c (s.take i) / 2 : Nat) : Int) := tdiv_nat _ 2
    have q2 : ((sumS c (s.take i) : Nat) : Int).tmod 2 = ((sumS c (s.take i) % 2 : Nat) : Int) := tmod_nat _ 2
    have hb := UInt8.toNat_lt (s.getD i 0)
    have q3 : (((sumS c (s.take i) / 2 : Nat) : Int) + ((sumS c (s.take i) % 2 : Nat) : Int) * 32768 + ((s.getD i 0).toNat : Int)).tmod 65536 = (((rot (sumS c (s.take i)) + (s.getD i 0).toNat) % 65536 : Nat) : Int) := by
      rw [Int.tmod_eq_emod_of_nonneg (by omega)]; unfold rot; omega
    simp -dsimp -implicitDefEqProofs +contextual (disch := omega) only [go_sem, q1, q2, q3]
    refine ⟨fun h => ?_, fun h => ?_⟩
    · refine loop_next (i + 1) (by omega) (by omega) (Sub.env ?_)
      have hm := sumS_succ s h c
      simp -dsimp -implicitDefEqProofs +contextual (disch := omega) only [go_sem, hm] <;> simp
    · have e : i = s.length := by omega
      subst e
      rw [List.take_length] at hlt ⊢
set_option maxRecDepth 100000 in
theorem fromFn (c : Nat) (hc : c < 65536) (ls : List (List UInt8)) (hl : ls.length < 2 ^ 40) (hs : ∀ s ∈ ls, s.length < 2 ^ 40) : PureFn Tryz.prog 43 [.int .u16 c, .slice 1 (ls.map encB)] (.ret (.int .u16 (sumS c ls.flatten))) := by
  refine PureFn.start (rs := [.tmp 4]) Tryz.func43 rfl rfl rfl (Nat.le_of_ble_eq_true rfl) (by decide) allLit ?_
  simp -dsimp -implicitDefEqProofs +contextual (disch := omega) only [go_sem]
  refine loop_intro (ι := Nat) (fun i => ⟨[(0, .int .u16 (sumS c (ls.take i).flatten)), (8, .slice 1 (ls.map encB)), (9, .int .i64 ls.length), (10, .int .i64 i)], []⟩) (fun i => i ≤ ls.length) (fun i => ls.length - i) 0 (Nat.zero_le _) (Sub.env ?_) ?_
  · simp -dsimp -implicitDefEqProofs +contextual (disch := omega) only [go_sem] <;> simp [sumS]
  · intro i hi
    have hlt := sumS_lt (ls.take i).flatten hc
    simp -dsimp -implicitDefEqProofs +contextual (disch := omega) only [go_sem]
    refine ⟨fun h => ?_, fun h => ?_⟩
    · have hsi := hs ls[i] (List.getElem_mem _)
      generalize hd : sumS c (ls.take i).flatten = d at hlt ⊢
      generalize hx : ls[i] = x at hsi ⊢
      refine loop_intro (ι := Nat) (fun j => ⟨[(0, .int .u16 (sumS d (x.take j))), (6, .str x), (8, .slice 1 (ls.map encB)), (9, .int .i64 ls.length), (10, .int .i64 i), (15, .int .i64 x.length), (16, .int .i64 j)], []⟩) (fun j => j ≤ x.length) (fun j => x.length - j) 0 (Nat.zero_le _) (Sub.env ?_) ?_
      · simp -dsimp -implicitDefEqProofs +contextual (disch := omega) only [go_sem] <;> simp [sumS]
      · intro j hj
        have hlt2 := sumS_lt (x.take j) hlt
        have hb := UInt8.toNat_lt (x.getD j 0)
        have q4 : IntKind.u16.wrap ((rot (sumS d (x.take j)) : Int) + ((x.getD j 0).toNat : Int)) = (((rot (sumS d (x.take j)) + (x.getD j 0).toNat) % 65536 : Nat) : Int) := by
          rw [IntKind.wrap_u16]; omega
        simp -dsimp -implicitDefEqProofs +contextual (disch := omega) only [go_sem]
        refine ⟨fun h2 => ?_, fun h2 => ?_⟩
        · refine use_draw [(0, none), (2, none), (3, none), (4, none), (5, none), (1, some [2, 3, 4, 5]), (6, none), (7, some [])] [[], [0], [], [], [2, 3], [2, 3, 4], [0, 1, 2, 3, 4, 5], [0, 1, 2, 3, 4, 5, 6]] mixed (by decide +kernel) ?_
          have hm := sumS_succ x h2 d
          simp -dsimp -implicitDefEqProofs +contextual (disch := omega) only [go_sem]
          refine ⟨h2, ?_⟩
          refine use_call (rotFn _ hlt2) (by simp [pureAll, AV.pureB]) ?_
          simp -dsimp -implicitDefEqProofs +contextual (disch := omega) only [go_sem, q4]
          refine loop_next (j + 1) (by omega) (by omega) (Sub.env ?_)
          simp -dsimp -implicitDefEqProofs +contextual (disch := omega) only [go_sem, hm] <;> simp
        · have e : j = x.length := by omega
          subst e
          rw [List.take_length] at hlt2 ⊢
          have hmm : sumS c (ls.take (i + 1)).flatten = sumS d x := by
            rw [List.take_succ_eq_append_getElem h, List.flatten_append, sumS_append, hd, hx]; simp
          refine loop_next (i + 1) (by omega) (by omega) (Sub.env ?_)
          simp -dsimp -implicitDefEqProofs +contextual (disch := omega) only [go_sem, hmm] <;> simp
    · have e : i = ls.length := by omega
      subst e
      rw [List.take_length]
theorem from1 (s : List UInt8) (hs : s.length < 2 ^ 40) : PureFn Tryz.prog 43 [.int .u16 0, .slice 1 [.str s]] (.ret (.int .u16 (sumS 0 s))) := by
  have := fromFn 0 (by omega) [s] (by simp) (by simpa using hs)
  simpa [encB] using this
set_option maxRecDepth 100000 in
theorem of1 (s : List UInt8) (hs : s.length < 2 ^ 40) : PureFn Tryz.prog 30 [.slice 1 [.str s]] (.ret (.int .u16 (sumS 0 s))) := by
  refine PureFn.start (rs := [.tmp 2]) Tryz.func30 rfl rfl rfl (Nat.le_of_ble_eq_true rfl) (by decide) allLit ?_
  simp -dsimp -implicitDefEqProofs +contextual (disch := omega) only [go_sem]
  refine use_call (from1 s hs) (by simp [pureAll, AV.pureB]) ?_
  simp -dsimp -implicitDefEqProofs +contextual (disch := omega) only [go_sem]
/-! ### four digits -/
def hex4 (n : Nat) : List UInt8 := [hexc (n / 4096), hexc (n / 256 % 16), hexc (n / 16 % 16), hexc (n % 16)]
set_option maxRecDepth 100000 in
theorem refHexFn (n : Nat) (h : n < 65536) : PureFn Tryz.prog 21 [.int .u16 n] (.ret (.str (hex4 n))) := by
  refine PureFn.start (rs := [.tmp 2]) Tryz.func21 rfl rfl rfl (Nat.le_of_ble_eq_true rfl) (by decide) allLit ?_
  have q1 : (n : Int).tdiv 4096 = ((n / 4096 : Nat) : Int) := tdiv_nat n 4096
  have q2 : (n : Int).tdiv 256 = ((n / 256 : Nat) : Int) := tdiv_nat n 256
  have q3 : (n : Int).tdiv 16 = ((n / 16 : Nat) : Int) := tdiv_nat n 16
  have q4 : ((n / 256 : Nat) : Int).tmod 16 = ((n / 256 % 16 : Nat) : Int) := tmod_nat _ 16
  have q5 : ((n / 16 : Nat) : Int).tmod 16 = ((n / 16 % 16 : Nat) : Int) := tmod_nat _ 16
  have q6 : (n : Int).tmod 16 = ((n % 16 : Nat) : Int) := tmod_nat _ 16
  simp -dsimp -implicitDefEqProofs +contextual (disch := omega) only [go_sem, q1, q2, q3, q4, q5, q6]
  refine use_call (digitFn (n / 4096) (by omega)) (by simp [pureAll, AV.pureB]) ?_
  simp -dsimp -implicitDefEqProofs +contextual (disch := omega) only [go_sem, q1, q2, q3, q4, q5, q6]
  refine use_call (digitFn (n / 256 % 16) (by omega)) (by simp [pureAll, AV.pureB]) ?_
  simp -dsimp -implicitDefEqProofs +contextual (disch := omega) only [go_sem, q1, q2, q3, q4, q5, q6]
  refine ⟨by omega, ?_⟩
  refine use_call (digitFn (n / 16 % 16) (by omega)) (by simp [pureAll, AV.pureB]) ?_
  simp -dsimp -implicitDefEqProofs +contextual (disch := omega) only [go_sem, q1, q2, q3, q4, q5, q6]
  refine ⟨by omega, ?_⟩
  refine use_call (digitFn (n % 16) (by omega)) (by simp [pureAll, AV.pureB]) ?_
  simp -dsimp -implicitDefEqProofs +contextual (disch := omega) only [go_sem]
  refine ⟨by omega, ?_⟩
  rfl
set_option maxRecDepth 100000 in
theorem refPutFn (s : List UInt8) (hs : s.length < 2 ^ 40) : PureFn Tryz.prog 11 [.str s] (.ret (.str (hex4 (sumS 0 s) ++ 44 :: s))) := by
  refine PureFn.start (rs := [.tmp 2]) Tryz.func11 rfl rfl rfl (Nat.le_of_ble_eq_true rfl) (by decide) allLit ?_
  simp -dsimp -implicitDefEqProofs +contextual (disch := omega) only [go_sem]
  refine use_call (refFromFn 0 (by omega) s hs) (by simp [pureAll, AV.pureB]) ?_
  simp -dsimp -implicitDefEqProofs +contextual (disch := omega) only [go_sem]
  refine use_call (refHexFn _ (sumS_lt s (by omega))) (by simp [pureAll, AV.pureB]) ?_
  simp -dsimp -implicitDefEqProofs +contextual (disch := omega) only [go_sem]
  refine ⟨by simp [hex4], by simp [hex4]; omega, ?_⟩
  simp
end Go.Sim

namespace Go.Sim
open Go.Proofs
/-! ### a number in base 16 -/
def hexS (n : Nat) : List UInt8 := if h : n < 16 then [hexc n] else hexS (n / 16) ++ [hexc (n % 16)]
termination_by n
decreasing_by omega
theorem hexS_one {n : Nat} (h : n < 16) : hexS n = [hexc n] := by rw [hexS, dif_pos h]
theorem hexS_step {n : Nat} (h : ¬ n < 16) : hexS n = hexS (n / 16) ++ [hexc (n % 16)] := by rw [hexS, dif_neg h]
theorem tab_64 {P : Program} {C : Ctx} {g : Nat} (h : LibOk P C) (hg : P.globalNamed "math/bits.deBruijn64tab" = some g) : C.w.cell? ⟨g, 15, none⟩ = some (.int .u8 4) := by
  have h1 := (h "math/bits.deBruijn64tab" _ (by unfold libVars; exact List.mem_cons_of_mem _ (List.mem_cons_of_mem _ (List.mem_cons_self ..))) g hg).2
  have := World.var?_cell hg h1 15
  rw [this]; rfl
theorem tzFn : PureFn Tryz.prog 98 [.int .u64 16] (.ret (.int .i64 4)) := by
  refine PureFn.ofBelow (by kernel_rfl) rfl fun C vs hL hr => ?_
  obtain ⟨_, _, rfl, rfl, rfl⟩ := hr
  refine (tz16 C.w (tab_64 hL (by kernel_rfl))).mono ?_
  rintro e w' ⟨rfl, rfl⟩
  exact ⟨⟨_, rfl, rfl⟩, RowKit.Below.refl _ _⟩
set_option maxRecDepth 100000 in
theorem tzsFn : PureFn Tryz.prog 89 [.int .u64 16] (.ret (.int .i64 4)) := by
  refine PureFn.start (rs := [.tmp 2]) Tryz.func89 rfl rfl rfl (Nat.le_of_ble_eq_true rfl) (by decide) allLit ?_
  simp -dsimp -implicitDefEqProofs +contextual (disch := omega) only [go_sem]
  refine use_call tzFn (by simp [pureAll, AV.pureB]) ?_
  simp -dsimp -implicitDefEqProofs +contextual (disch := omega) only [go_sem]
theorem and_16 : IntKind.i64.wrap ((BitVec.ofInt IntKind.i64.bits 16 &&& BitVec.ofInt IntKind.i64.bits 15).toNat : Int) = 0 := by decide +kernel
set_option maxRecDepth 100000 in
theorem pow2Fn : PureFn Tryz.prog 88 [.int .i64 16] (.ret (.bool true)) := by
  refine PureFn.start (rs := [.tmp 2]) Tryz.func88 rfl rfl rfl (Nat.le_of_ble_eq_true rfl) (by decide) allLit ?_
  simp -dsimp -implicitDefEqProofs +contextual (disch := omega) only [go_sem, and_16] <;> rfl
theorem and15 (m : Nat) (h : m < 65536) : IntKind.u64.wrap ((BitVec.ofInt IntKind.u64.bits (m : Int) &&& BitVec.ofInt IntKind.u64.bits 15).toNat : Int) = ((m % 16 : Nat) : Int) := by
  have hb : IntKind.u64.bits = 64 := rfl
  rw [hb, BitVec.ofInt_natCast, show (15 : Int) = ((15 : Nat) : Int) from rfl, BitVec.ofInt_natCast, BitVec.toNat_and, BitVec.toNat_ofNat, BitVec.toNat_ofNat, Nat.mod_eq_of_lt (a := m) (b := 2 ^ 64) (by omega), Nat.mod_eq_of_lt (a := 15) (b := 2 ^ 64) (by omega)]
  rw [show (15 : Nat) = 2 ^ 4 - 1 from rfl, Nat.and_two_pow_sub_one_eq_mod, IntKind.wrap_u64]
  omega
theorem shr4 (m : Nat) : (m : Int).fdiv (2 ^ min (Int.toNat 4) 64) = ((m / 16 : Nat) : Int) := by
  rw [Int.fdiv_eq_ediv_of_nonneg _ (by decide)]; rfl
theorem hexc_at : ∀ n : Fin 16, ((48 :: 49 :: 50 :: 51 :: 52 :: 53 :: 54 :: 55 :: 56 :: 57 :: 97 :: 98 :: 99 :: 100 :: 101 :: 102 :: 103 :: 104 :: 105 :: 106 :: 107 :: 108 :: 109 :: 110 :: 111 :: 112 :: 113 :: 114 :: 115 :: 116 :: 117 :: 118 :: 119 :: 120 :: 121 :: 122 :: []) : List UInt8).getD n.val 0 = hexc n.val := by decide +kernel
theorem set_rep {j : Nat} {ds : List UInt8} (c : UInt8) (h : 0 < j) : (List.replicate j 0 ++ ds).set (j - 1) c = List.replicate (j - 1) 0 ++ c :: ds := by
  obtain ⟨k, rfl⟩ : ∃ k, j = k + 1 := ⟨j - 1, by omega⟩
  rw [List.replicate_succ']
  simp
set_option maxRecDepth 100000 in
theorem bitsFn (n : Nat) (h : n < 65536) : PureFn Tryz.prog 72 [.nilslice, .int .u64 n, .int .i64 16, .bool false, .bool false] (.ret (.tuple [.nilslice, .str (hexS n)])) := by
  refine PureFn.start (rs := [.tmp 10, .tmp 11]) Tryz.func72 rfl rfl rfl (Nat.le_of_ble_eq_true rfl) (by decide) allLit ?_
  simp -dsimp -implicitDefEqProofs +contextual (disch := omega) only [go_sem]
  refine use_call pow2Fn (by simp [pureAll, AV.pureB]) ?_
  simp -dsimp -implicitDefEqProofs +contextual (disch := omega) only [go_sem]
  refine use_call tzsFn (by simp [pureAll, AV.pureB]) ?_
  simp -dsimp -implicitDefEqProofs +contextual (disch := omega) only [go_sem]
  refine loop_intro (ι := Nat × List UInt8) (fun p => ⟨[(0, .nilslice), (1, .int .u64 p.1), (3, .bool false), (4, .bool false), (10, .nilslice), (12, .meptr 1 0 65 0 0), (13, .int .i64 (65 - p.2.length : Nat)), (14, .int .u64 4), (15, .int .u64 16), (16, .int .u64 15)], [some (.row (122 : Nat) 1 ((List.replicate (65 - p.2.length) 0 ++ p.2).map enc8))]⟩)
    (fun p => p.1 ≤ n ∧ hexS n = hexS p.1 ++ p.2 ∧ (p.2.length = 0 ∨ (p.2.length = 1 ∧ p.1 < 4096) ∨ (p.2.length = 2 ∧ p.1 < 256) ∨ (p.2.length = 3 ∧ p.1 < 16))) (fun p => p.1) (n, []) ⟨Nat.le_refl _, by simp, by simp⟩ (Sub.env' ?_ ?_) ?_
  · simp
  · simp -dsimp -implicitDefEqProofs +contextual (disch := omega) only [go_sem] <;> simp
  · rintro ⟨m, ds⟩ ⟨hm, hh, hj⟩
    simp only at hm hh hj
    obtain ⟨k, hk⟩ : ∃ k, 65 - ds.length = k + 1 := ⟨64 - ds.length, by omega⟩
    have hk1 : ((k + 1 : Nat) : Int) - 1 = (k : Int) := by omega
    have hget : ((List.replicate (k + 1) 0 ++ ds).map enc8).getD k .any = enc8 0 := by
      have hl : k < (List.replicate (k + 1) (0 : UInt8) ++ ds).length := by simp; omega
      rw [getD_map_lt hl, List.getElem_append_left (by simp), List.getElem_replicate]
    have hset : ∀ c : UInt8, ((List.replicate (k + 1) 0 ++ ds).map enc8).set k (.int .u8 (c.toNat : Int)) = ((List.replicate k 0 ++ c :: ds).map enc8) := by
      intro c
      have := set_rep (j := k + 1) (ds := ds) c (by omega)
      rw [Nat.add_sub_cancel] at this
      rw [← this, List.map_set]; rfl
    by_cases hc : 16 ≤ m
    · have hn : ((48 :: 49 :: 50 :: 51 :: 52 :: 53 :: 54 :: 55 :: 56 :: 57 :: 97 :: 98 :: 99 :: 100 :: 101 :: 102 :: 103 :: 104 :: 105 :: 106 :: 107 :: 108 :: 109 :: 110 :: 111 :: 112 :: 113 :: 114 :: 115 :: 116 :: 117 :: 118 :: 119 :: 120 :: 121 :: 122 :: []) : List UInt8).getD (m % 16) 0 = hexc (m % 16) := hexc_at ⟨m % 16, by omega⟩
      have q1 := and15 m (by omega)
      have q2 := shr4 m
      have hc' : (16 : Int) ≤ (m : Int) := by omega
      rw [hk]
      simp -dsimp -implicitDefEqProofs +contextual (disch := omega) only [go_sem, q1, q2, hk1, hget, hset, hn, hc']
      refine ⟨by omega, by omega, by omega, ?_⟩
      refine loop_next (m / 16, hexc (m % 16) :: ds) ⟨by simp only; omega, ?_, by simp only [List.length_cons]; omega⟩ (by simp only; omega) (Sub.env' ?_ ?_)
      · simp only
        rw [hh, hexS_step (by omega)]; simp
      · have e : 65 - (ds.length + 1) = k := by omega
        simp [e]
      · have e : 65 - (ds.length + 1) = k := by omega
        simp -dsimp -implicitDefEqProofs +contextual (disch := omega) only [go_sem, e] <;> simp
    · have hn : ((48 :: 49 :: 50 :: 51 :: 52 :: 53 :: 54 :: 55 :: 56 :: 57 :: 97 :: 98 :: 99 :: 100 :: 101 :: 102 :: 103 :: 104 :: 105 :: 106 :: 107 :: 108 :: 109 :: 110 :: 111 :: 112 :: 113 :: 114 :: 115 :: 116 :: 117 :: 118 :: 119 :: 120 :: 121 :: 122 :: []) : List UInt8).getD m 0 = hexc m := hexc_at ⟨m, by omega⟩
      have hc' : ¬ (16 : Int) ≤ (m : Int) := by omega
      rw [hk]
      have he : (k + (65 - k) = k + (ds.length + 1)) = True := eq_true (by omega)
      have hd : ((List.replicate k 0 ++ hexc m :: ds).map enc8).drop k = (hexc m :: ds).map enc8 := by
        rw [List.map_append, List.drop_left' (by simp)]
      have hf : hexS n = hexc m :: ds := by rw [hh, hexS_one (by omega)]; rfl
      simp -dsimp -implicitDefEqProofs +contextual (disch := omega) only [go_sem, hk1, hget, hset, hn, hc', he, hd, hf]
      rw [dec8_enc8]
      exact ⟨by omega, by omega, by omega, by omega, by omega, by omega, rfl, rfl⟩
set_option maxRecDepth 100000 in
theorem fmtFn (n : Nat) (h : n < 65536) : PureFn Tryz.prog 55 [.int .u64 n, .int .i64 16] (.ret (.str (hexS n))) := by
  refine PureFn.start (rs := [.tmp 4]) Tryz.func55 rfl rfl rfl (Nat.le_of_ble_eq_true rfl) (by decide) allLit ?_
  simp -dsimp -implicitDefEqProofs +contextual (disch := omega) only [go_sem]
  refine use_call (bitsFn n h) (by simp [pureAll, AV.pureB]) ?_
  simp -dsimp -implicitDefEqProofs +contextual (disch := omega) only [go_sem]
set_option maxRecDepth 100000 in
theorem formatUintFn (n : Nat) (h : n < 65536) : PureFn Tryz.prog 41 [.int .u64 n, .int .i64 16] (.ret (.str (hexS n))) := by
  refine PureFn.start (rs := [.tmp 4]) Tryz.func41 rfl rfl rfl (Nat.le_of_ble_eq_true rfl) (by decide) allLit ?_
  simp -dsimp -implicitDefEqProofs +contextual (disch := omega) only [go_sem]
  refine use_call (fmtFn n h) (by simp [pureAll, AV.pureB]) ?_
  simp -dsimp -implicitDefEqProofs +contextual (disch := omega) only [go_sem]
set_option maxRecDepth 100000 in
theorem repeatFn (c : Nat) (hc : c ≤ 4) : PureFn Tryz.prog 42 [.str [48], .int .i64 c] (.ret (.str (Lib.repeatL [48] c))) := by
  refine PureFn.ofBelow (by kernel_rfl) rfl fun C vs hL hr => ?_
  obtain ⟨_, _, rfl, rfl, _, _, rfl, rfl, rfl⟩ := hr
  refine (Tryz.strings_Repeat ⟨#[48]⟩ c C.w (by omega) (by rw [show (⟨#[48]⟩ : ByteArray).size = 1 from rfl]; omega)).mono ?_
  rintro e w' ⟨rfl, hb⟩
  exact ⟨⟨_, rfl, rfl⟩, hb⟩
theorem hex_full (n : Nat) (h : n < 65536) : Lib.repeatL [48] (4 - (hexS n).length) ++ hexS n = hex4 n ∧ (hexS n).length ≤ 4 := by
  have z : hexc 0 = 48 := rfl
  by_cases h1 : n < 16
  · have e1 : n / 4096 = 0 := by omega
    have e2 : n / 256 % 16 = 0 := by omega
    have e3 : n / 16 % 16 = 0 := by omega
    have e4 : n % 16 = n := by omega
    simp [hexS_one h1, hex4, e1, e2, e3, e4, z, Lib.repeatL]
  · by_cases h2 : n < 256
    · have e1 : n / 4096 = 0 := by omega
      have e2 : n / 256 % 16 = 0 := by omega
      have e3 : n / 16 % 16 = n / 16 := by omega
      simp [hexS_step h1, hexS_one (show n / 16 < 16 by omega), hex4, e1, e2, e3, z, Lib.repeatL]
    · by_cases h3 : n < 4096
      · have e1 : n / 4096 = 0 := by omega
        have e2 : n / 256 % 16 = n / 256 := by omega
        have e3 : n / 16 / 16 = n / 256 := by omega
        simp [hexS_step h1, hexS_step (show ¬ n / 16 < 16 by omega), e3, hexS_one (show n / 256 < 16 by omega), hex4, e1, e2, z, Lib.repeatL]
      · have e2 : n / 16 / 16 % 16 = n / 256 % 16 := by omega
        have e3 : n / 16 / 16 / 16 = n / 4096 := by omega
        simp [hexS_step h1, hexS_step (show ¬ n / 16 < 16 by omega), hexS_step (show ¬ n / 16 / 16 < 16 by omega), e3, hexS_one (show n / 4096 < 16 by omega), hex4, e2, Lib.repeatL]
set_option maxRecDepth 100000 in
theorem hexFn (n : Nat) (h : n < 65536) : PureFn Tryz.prog 29 [.int .u16 n] (.ret (.str (hex4 n))) := by
  refine PureFn.start (rs := [.tmp 2]) Tryz.func29 rfl rfl rfl (Nat.le_of_ble_eq_true rfl) (by decide) allLit ?_
  obtain ⟨h1, h2⟩ := hex_full n h
  simp -dsimp -implicitDefEqProofs +contextual (disch := omega) only [go_sem]
  refine use_call (formatUintFn n h) (by simp [pureAll, AV.pureB]) ?_
  have e : (4 : Int) - ((hexS n).length : Int) = ((4 - (hexS n).length : Nat) : Int) := by omega
  simp -dsimp -implicitDefEqProofs +contextual (disch := omega) only [go_sem, e]
  refine use_call (repeatFn _ (by omega)) (by simp [pureAll, AV.pureB]) ?_
  simp -dsimp -implicitDefEqProofs +contextual (disch := omega) only [go_sem, h1]
  have := congrArg List.length h1
  simp only [List.length_append, hex4, List.length_cons, List.length_nil] at this
  omega
set_option maxRecDepth 100000 in
theorem putFn (s : List UInt8) (hs : s.length < 2 ^ 40) : PureFn Tryz.prog 18 [.str s] (.ret (.str (hex4 (sumS 0 s) ++ 44 :: s))) := by
  refine PureFn.start (rs := [.tmp 2]) Tryz.func18 rfl rfl rfl (Nat.le_of_ble_eq_true rfl) (by decide) allLit ?_
  simp -dsimp -implicitDefEqProofs +contextual (disch := omega) only [go_sem]
  refine use_call (of1 s hs) (by simp [pureAll, AV.pureB]) ?_
  simp -dsimp -implicitDefEqProofs +contextual (disch := omega) only [go_sem]
  refine use_call (hexFn _ (sumS_lt s (by omega))) (by simp [pureAll, AV.pureB]) ?_
  simp -dsimp -implicitDefEqProofs +contextual (disch := omega) only [go_sem]
  refine ⟨by simp [hex4], by simp [hex4]; omega, ?_⟩
  simp
end Go.Sim

namespace Go.Sim
open Go.Proofs
/-! ### a Builder inside a text -/
def bldH (a : AV) (s : List UInt8) : Heap := [some (.box (56 : Nat) [a, .mslice 1 1 0 s.length]), some (.row (5 : Nat) 1 (s.map enc8))]
theorem bld_elem : liesB Tryz.prog (54 : Nat) (56 : Nat) 2 0 = true := by kernel_rfl
theorem noEsc : NoEsc Tryz.prog 67 := ⟨_, Tryz.func67, by kernel_rfl, by kernel_rfl, by kernel_rfl, by kernel_rfl⟩
set_option maxRecDepth 100000 in
theorem copyCheckFn (a : AV) (s : List UInt8) (ha : a = .nilp ∨ a = .ptr 0 0) : ACalls Tryz.prog 52 [.ptr 0 0] (bldH a s) fun r H' => r = .ret (.tuple []) ∧ H' = bldH (.ptr 0 0) s := by
  refine ACalls.start (rs := []) Tryz.func52 rfl rfl rfl (Nat.le_of_ble_eq_true rfl) (by decide) allLit ?_
  simp only [bldH]
  rcases ha with rfl | rfl
  · simp -dsimp -implicitDefEqProofs +contextual (disch := omega) only [go_sem, bld_elem]
    refine use_ext noEsc ?_
    simp -dsimp -implicitDefEqProofs +contextual (disch := omega) only [go_sem, bld_elem]
    exact end_same ⟨rfl, rfl⟩
  · simp -dsimp -implicitDefEqProofs +contextual (disch := omega) only [go_sem]
    exact end_same ⟨rfl, rfl⟩
set_option maxRecDepth 100000 in
theorem writeStringFn (a : AV) (s t : List UInt8) (ha : a = .nilp ∨ a = .ptr 0 0) (hl : s.length + t.length < 2 ^ 40) : ACalls Tryz.prog 37 [.ptr 0 0, .str t] (bldH a s) fun r H' => r = .ret (.tuple [.int .i64 t.length, .niliface]) ∧ H' = bldH (.ptr 0 0) (s ++ t) := by
  refine ACalls.start (rs := [.tmp 4, .tmp 5]) Tryz.func37 rfl rfl rfl (Nat.le_of_ble_eq_true rfl) (by decide) allLit ?_
  simp -dsimp -implicitDefEqProofs +contextual (disch := omega) only [go_sem]
  refine use_acalls (copyCheckFn a s ha) ?_
  rintro r H' ⟨rfl, rfl⟩
  simp only [bldH]
  simp -dsimp -implicitDefEqProofs +contextual (disch := omega) only [go_sem]
  exact ⟨by omega, end_same ⟨rfl, by simp⟩⟩
set_option maxRecDepth 100000 in
theorem writeByteFn (a : AV) (s : List UInt8) (b : UInt8) (ha : a = .nilp ∨ a = .ptr 0 0) (hl : s.length < 2 ^ 40) : ACalls Tryz.prog 40 [.ptr 0 0, .int .u8 b.toNat] (bldH a s) fun r H' => r = .ret .niliface ∧ H' = bldH (.ptr 0 0) (s ++ [b]) := by
  refine ACalls.start (rs := [.tmp 4]) Tryz.func40 rfl rfl rfl (Nat.le_of_ble_eq_true rfl) (by decide) allLit ?_
  simp -dsimp -implicitDefEqProofs +contextual (disch := omega) only [go_sem]
  refine use_acalls (copyCheckFn a s ha) ?_
  rintro r H' ⟨rfl, rfl⟩
  simp only [bldH]
  simp -dsimp -implicitDefEqProofs +contextual (disch := omega) only [go_sem]
  exact ⟨by omega, end_same ⟨rfl, by simp [enc8]⟩⟩
set_option maxRecDepth 100000 in
theorem stringFn (a : AV) (s : List UInt8) (ha : a = .nilp ∨ a = .ptr 0 0) (hl : 0 < s.length ∧ s.length < 2 ^ 40) : ACalls Tryz.prog 28 [.ptr 0 0] (bldH a s) fun r H' => r = .ret (.str s) ∧ H' = (bldH a s).set 1 none := by
  refine ACalls.start (rs := [.tmp 2]) Tryz.func28 rfl rfl rfl (Nat.le_of_ble_eq_true rfl) (by decide) allLit ?_
  simp -dsimp -implicitDefEqProofs +contextual (disch := omega) only [go_sem]
  refine use_draw [(0, none), (1, none), (2, none), (3, none), (5, none), (6, none), (7, none), (8, none), (9, none), (4, some [5, 6, 7, 8, 9]), (10, some []), (11, none)] [[], [0], [0, 1], [0, 1, 2], [0, 1, 2, 3], [], [5], [5, 6], [5, 6, 7], [5, 6, 7, 8], [0, 1, 2, 3, 4, 5, 6, 7, 8, 9], [0, 1, 2, 3, 4, 5, 6, 7, 8, 9, 10]] mixed (by decide +kernel) ?_
  simp only [bldH]
  simp -dsimp -implicitDefEqProofs +contextual (disch := omega) only [go_sem]
  exact ⟨hl.1, by omega, hl.1, end_same ⟨rfl, rfl⟩⟩
/-! ### a tree's body -/
theorem mem_allL {u v : T} : ∀ {l : List T}, u ∈ l → v ∈ allT u → v ∈ allL l
  | a :: l, hu, hv => by
    rcases List.mem_cons.1 hu with rfl | hu
    · simp [allL, hv]
    · simp [allL, mem_allL hu hv]

mutual
theorem allT_size : ∀ {t u : T}, u ∈ allT t → sizeT u ≤ sizeT t
  | .node k x y w h i ks, u, hu => by
    simp only [allT, List.mem_cons] at hu
    rcases hu with rfl | hu
    · exact Nat.le_refl _
    · have := allL_size hu; simp only [sizeT]; omega
theorem allL_size : ∀ {l : List T} {u : T}, u ∈ allL l → sizeT u ≤ sizeL l
  | t :: ts, u, hu => by
    simp only [allL, List.mem_append] at hu
    simp only [sizeL]
    rcases hu with hu | hu
    · have := allT_size hu; omega
    · have := allL_size hu; omega
end
def openS (k : Int) : List UInt8 := if k = 3 then [91] else if k = 2 then [123] else []
def brS (k : Int) : List UInt8 := if k = 3 then [91, 93] else [123, 125]
def closeS (k : Int) : List UInt8 := if k = 3 then [93] else [125]
mutual
def bodyT : T → List UInt8
  | .node k x y w h i ks => headS ⟨x, y, w, h⟩ ++ (if k = 1 then 44 :: decS i else openS k ++ (bodyL false ks ++ closeS k))
def bodyL : Bool → List T → List UInt8
  | _, [] => []
  | c, t :: ts => (if c then [44] else []) ++ (bodyT t ++ bodyL true ts)
end
theorem bodyT_eq (t : T) : bodyT t = headS t.rect ++ (if t.kind = 1 then 44 :: decS t.id else openS t.kind ++ (bodyL false t.kids ++ closeS t.kind)) := by cases t; simp only [bodyT]; rfl
theorem bodyL_snoc : ∀ (l : List T) (c : Bool) (t : T), bodyL c (l ++ [t]) = bodyL c l ++ ((if c || !l.isEmpty then [44] else []) ++ bodyT t)
  | [], c, t => by simp [bodyL]
  | a :: l, c, t => by simp [bodyL, bodyL_snoc l true t]
theorem bodyL_succ (l : List T) {i : Nat} (h : i < l.length) : bodyL false (l.take (i + 1)) = bodyL false (l.take i) ++ ((if i = 0 then [] else [44]) ++ bodyT l[i]) := by
  rw [List.take_succ_eq_append_getElem h, bodyL_snoc]
  congr 2
  by_cases h0 : i = 0
  · subst h0; simp
  · have : (l.take i).isEmpty = false := by rw [List.isEmpty_eq_false_iff]; intro e; have := congrArg List.length e; rw [List.length_take, List.length_nil] at this; omega
    simp [this, h0]
mutual
theorem length_bodyT : ∀ t : T, (bodyT t).length + 1 ≤ 61 * sizeT t
  | .node k x y w h i ks => by
    have h1 := length_headS ⟨x, y, w, h⟩
    have h2 := length_decS i
    have h3 := length_bodyL false ks
    simp only [bodyT, sizeT, List.length_append]
    split
    · simp only [List.length_cons]; omega
    · simp only [openS, closeS, List.length_append]; repeat' split
      all_goals simp <;> omega
theorem length_bodyL : ∀ (c : Bool) (l : List T), (bodyL c l).length ≤ 61 * sizeL l
  | _, [] => by simp [bodyL, sizeL]
  | c, t :: ts => by
    have h1 := length_bodyT t
    have h2 := length_bodyL true ts
    simp only [bodyL, sizeL, List.length_append]
    split <;> simp <;> omega
end
set_option maxRecDepth 100000 in
theorem putStep (a : AV) (t : T) (s : List UInt8) (ha : a = .nilp ∨ a = .ptr 0 0) (hs : s.length + 61 * sizeT t < 2 ^ 40)
    (ih : ∀ u ∈ t.kids, ∀ s' : List UInt8, s'.length + 61 * sizeT u < 2 ^ 40 → ACalls Tryz.prog 27 [.ptr 0 0, encT u] (bldH (.ptr 0 0) s') fun r H' => r = .ret (.tuple []) ∧ H' = bldH (.ptr 0 0) (s' ++ bodyT u)) :
    ACalls Tryz.prog 27 [.ptr 0 0, encT t] (bldH a s) fun r H' => r = .ret (.tuple []) ∧ H' = bldH (.ptr 0 0) (s ++ bodyT t) := by
  refine ACalls.start (rs := []) Tryz.func27 rfl rfl rfl (Nat.le_of_ble_eq_true rfl) (by decide) allLit ?_
  have hsz := sizeT_eq t
  have h1 := length_headS t.rect
  simp only [bldH]
  simp -dsimp -implicitDefEqProofs +contextual (disch := omega) only [go_sem]
  refine use_draw [(0, none), (1, none), (2, none), (3, none), (4, none), (5, some [0, 1, 2]), (6, some [])] [[], [0], [0, 1], [], [3], [3, 4], [0, 1, 2, 3, 4, 5]] mixed (by decide +kernel) ?_
  simp -dsimp -implicitDefEqProofs +contextual (disch := omega) only [go_sem]
  refine use_call (headFn t.rect) (by simp [pureAll, pure_R]) ?_
  simp -dsimp -implicitDefEqProofs +contextual (disch := omega) only [go_sem]
  have hlt2 : a.lt 2 = true := by rcases ha with rfl | rfl <;> rfl
  have hren : a.ren (mapL [0, 1] 3) = a := by rcases ha with rfl | rfl <;> rfl
  refine use_frame [0, 1] (writeStringFn a s (headS t.rect) ha (by omega)) (by decide) rfl (by simp) (by simp [bldH]) (by simp) (by simp [bldH, hlt2, hren]) (r2 := .ret (.tuple [.int .i64 (headS t.rect).length, .niliface])) rfl (H2 := bldH (.ptr 0 0) (s ++ headS t.rect) ++ [some (.box (30 : Nat) (cellsT t))]) (by simp [bldH]) ?_
  simp only [bldH]
  simp -dsimp -implicitDefEqProofs +contextual (disch := omega) only [go_sem]
  have hl2 := length_decS t.id
  have hl3 := length_bodyL false t.kids
  have hlen := length_sizeL t.kids
  have hbt := length_bodyT t
  refine ⟨fun k1 => ?_, fun k1 => ?_⟩
  · have k1' : t.kind = 1 := by simpa using k1
    refine use_draw [(0, none), (1, none), (2, none), (3, none), (4, none), (5, none), (6, some [0, 1, 2]), (7, none), (8, some [])] [[], [0], [0, 1], [], [3], [3, 4], [3, 4, 5], [3, 4, 5, 6], [0, 1, 2, 3, 4, 5, 6, 7]] mixed (by decide +kernel) ?_
    simp -dsimp -implicitDefEqProofs +contextual (disch := omega) only [go_sem]
    refine use_call (numDigits1 t.id) (by simp [pureAll, AV.pureB]) ?_
    simp -dsimp -implicitDefEqProofs +contextual (disch := omega) only [go_sem]
    refine ⟨by omega, ?_⟩
    refine use_frame [0, 1] (writeStringFn (.ptr 0 0) (s ++ headS t.rect) (44 :: decS t.id) (.inr rfl) (by simp; omega)) (by decide) rfl (by simp) (by simp [bldH]) (by simp) (by simp [bldH]) (r2 := .ret (.tuple [.int .i64 (44 :: decS t.id).length, .niliface])) rfl (H2 := bldH (.ptr 0 0) (s ++ headS t.rect ++ 44 :: decS t.id) ++ [some (.box (30 : Nat) (cellsT t))]) (by simp [bldH]) ?_
    simp only [bldH]
    simp -dsimp -implicitDefEqProofs +contextual (disch := omega) only [go_sem]
    refine end_trunc (by simp) rfl (by simp) ⟨rfl, ?_⟩
    rw [bodyT_eq, if_pos k1']
    simp
  have k1' : ¬ t.kind = 1 := by simpa using k1
  have hb : bodyT t = headS t.rect ++ (openS t.kind ++ (bodyL false t.kids ++ closeS t.kind)) := by rw [bodyT_eq, if_neg k1']
  have key : ∃ c1 c2, brS t.kind = [c1, c2] ∧ closeS t.kind = [c2] := by unfold brS closeS; split <;> exact ⟨_, _, rfl, rfl⟩
  obtain ⟨c1, c2, hbr, hcl⟩ := key
  refine ⟨fun k3 => ?c3, fun k3 => ⟨fun k2 => ?c2, fun k2 => ?c0⟩⟩
  case' c3 =>
    have k3' : t.kind = 3 := by simpa using k3
    have hop : openS t.kind = [91] := by simp [openS, k3']
    have hbe : [91, 93] = brS t.kind := by simp [brS, k3']
    refine use_draw [(0, none), (1, none), (2, none), (3, none), (4, none), (5, some [])] [[], [0], [0, 1], [], [3], [0, 1, 2, 3, 4]] mixed (by decide +kernel) ?_
    simp -dsimp -implicitDefEqProofs +contextual (disch := omega) only [go_sem]
    refine ⟨by omega, ?_⟩
    refine use_frame [0, 1] ( writeByteFn (.ptr 0 0) (s ++ headS t.rect) 91 (.inr rfl) (by simp; omega)) (by decide) rfl (by simp) (by simp [bldH]) (by simp [bldH]) (by simp [bldH]) (by simp [bldH] <;> rfl) (by simp [bldH] <;> rfl) ?_
    simp -dsimp -implicitDefEqProofs +contextual (disch := omega) only [go_sem]
  case' c2 =>
    have k2' : t.kind = 2 := by simpa using k2
    have hop : openS t.kind = [123] := by simp [openS, k2']
    have hbe : [123, 125] = brS t.kind := by simp [brS, k2']
    refine use_draw [(0, none), (1, none), (2, none), (3, none), (4, none), (5, some [])] [[], [0], [0, 1], [], [3], [0, 1, 2, 3, 4]] mixed (by decide +kernel) ?_
    simp -dsimp -implicitDefEqProofs +contextual (disch := omega) only [go_sem]
    refine ⟨by omega, ?_⟩
    refine use_frame [0, 1] ( writeByteFn (.ptr 0 0) (s ++ headS t.rect) 123 (.inr rfl) (by simp; omega)) (by decide) rfl (by simp) (by simp [bldH]) (by simp [bldH]) (by simp [bldH]) (by simp [bldH] <;> rfl) (by simp [bldH] <;> rfl) ?_
    simp -dsimp -implicitDefEqProofs +contextual (disch := omega) only [go_sem]
  case' c0 =>
    have k3' : ¬ t.kind = 3 := by simpa using k3
    have k2' : ¬ t.kind = 2 := by simpa using k2
    have hop : openS t.kind = [] := by simp [openS, k2', k3']
    have hbe : [123, 125] = brS t.kind := by simp [brS, k3']
  all_goals
    refine loop_intro (ι := Nat) (fun i => ⟨[(0, .ptr 0 0), (3, .ptr 2 0), (4, .str (brS t.kind)), (38, .slice 7 (t.kids.map encT)), (39, .int .i64 t.kids.length), (40, .int .i64 i)], bldH (.ptr 0 0) (s ++ (headS t.rect ++ (openS t.kind ++ bodyL false (t.kids.take i)))) ++ [some (.box (30 : Nat) (cellsT t))]⟩) (fun i => i ≤ t.kids.length) (fun i => t.kids.length - i) 0 (Nat.zero_le _) (Sub.env' ?_ ?_) ?_
    · simp [bldH, bodyL, hop]
    · simp -dsimp -implicitDefEqProofs +contextual (disch := omega) only [go_sem, hbe] <;> simp
    · intro i hi
      have hlb := length_bodyL false (t.kids.take i)
      have htk := sizeL_take t.kids i
      generalize hs0 : s ++ (headS t.rect ++ (openS t.kind ++ bodyL false (t.kids.take i))) = s0
      have hl0 : s0.length + 61 * sizeL (t.kids.drop i) + 5 < 2 ^ 40 := by
        have := sizeL_append (t.kids.take i) (t.kids.drop i)
        rw [List.take_append_drop] at this
        have : (openS t.kind).length ≤ 1 := by unfold openS; repeat' split
                                               all_goals simp
        rw [← hs0]; simp only [List.length_append]; omega
      simp only [bldH]
      simp -dsimp -implicitDefEqProofs +contextual (disch := omega) only [go_sem]
      refine ⟨fun hlt => ?_, fun hge => ?_⟩
      · have hsu := bodyL_succ t.kids hlt
        have hsd : sizeL (t.kids.drop i) = sizeT t.kids[i] + sizeL (t.kids.drop (i + 1)) := by rw [List.drop_eq_getElem_cons hlt]; rfl
        refine ⟨fun h0 => ?_, fun h0 => ?_⟩
        · refine use_frame [0, 1] ( writeByteFn (.ptr 0 0) s0 44 (.inr rfl) (by omega)) (by decide) rfl (by simp) (by simp [bldH]) (by simp [bldH]) (by simp [bldH]) (by simp [bldH] <;> rfl) (by simp [bldH] <;> rfl) ?_
          simp -dsimp -implicitDefEqProofs +contextual (disch := omega) only [go_sem]
          refine use_frame [0, 1] ( ih t.kids[i] (List.getElem_mem _) (s0 ++ [44]) (by simp; omega)) (by decide) rfl (by simp) (by simp [bldH]) (by simp [bldH]) (by simp [bldH]) (by simp [bldH] <;> rfl) (by simp [bldH] <;> rfl) ?_
          simp -dsimp -implicitDefEqProofs +contextual (disch := omega) only [go_sem]
          refine loop_next (i + 1) (by omega) (by omega) (Sub.trunc' 3 (by simp) (by simp) ?_ (by simp [objLt, AV.ltAll, AV.lt, lt_cells, bldH]) ?_)
          · simp [bldH, hsu, ← hs0, if_neg (show ¬ i = 0 by omega)]; omega
          · simp -dsimp -implicitDefEqProofs +contextual (disch := omega) only [go_sem] <;> simp
        · have e : i = 0 := by omega
          subst e
          refine use_frame [0, 1] ( ih t.kids[0] (List.getElem_mem _) s0 (by omega)) (by decide) rfl (by simp) (by simp [bldH]) (by simp [bldH]) (by simp [bldH]) (by simp [bldH] <;> rfl) (by simp [bldH] <;> rfl) ?_
          simp -dsimp -implicitDefEqProofs +contextual (disch := omega) only [go_sem]
          refine loop_next 1 (by omega) (by omega) (Sub.trunc' 3 (by simp) (by simp) ?_ (by simp [objLt, AV.ltAll, AV.lt, lt_cells, bldH]) ?_)
          · simp [bldH, hsu, ← hs0, bodyL]; omega
          · simp -dsimp -implicitDefEqProofs +contextual (disch := omega) only [go_sem] <;> simp
      · have e : i = t.kids.length := by omega
        subst e
        refine use_draw [(0, none), (1, none), (2, none), (3, none), (4, none), (5, some [])] [[], [0], [0, 1], [], [3], [0, 1, 2, 3, 4]] mixed (by decide +kernel) ?_
        rw [hbr]
        simp -dsimp -implicitDefEqProofs +contextual (disch := omega) only [go_sem]
        refine ⟨by omega, ?_⟩
        refine use_frame [0, 1] ( writeByteFn (.ptr 0 0) s0 c2 (.inr rfl) (by omega)) (by decide) rfl (by simp) (by simp [bldH]) (by simp [bldH]) (by simp [bldH]) (by simp [bldH] <;> rfl) (by simp [bldH] <;> rfl) ?_
        simp -dsimp -implicitDefEqProofs +contextual (disch := omega) only [go_sem]
        refine end_trunc (by simp) rfl (by simp) ⟨rfl, ?_⟩
        rw [hb, ← hs0, List.take_length, hcl]
        simp; omega
theorem putTFn : ∀ (m : Nat) (a : AV) (t : T) (s : List UInt8), sizeT t < m → (a = .nilp ∨ a = .ptr 0 0) → s.length + 61 * sizeT t < 2 ^ 40 →
    ACalls Tryz.prog 27 [.ptr 0 0, encT t] (bldH a s) fun r H' => r = .ret (.tuple []) ∧ H' = bldH (.ptr 0 0) (s ++ bodyT t)
  | 0, _, t, _, h, _, _ => by omega
  | m + 1, a, t, s, h, ha, hs => putStep a t s ha hs fun u hu s' hs' => by
    have h1 := sizeL_mem hu
    have h2 := sizeT_eq t
    exact putTFn m (.ptr 0 0) u s' (by omega) (.inr rfl) hs'
/-- the first index at which a step says yes, and the state behind -/
def idxCell {σ : Type} (f : σ → T → Bool × σ) : σ → Int → List T → Int × σ
  | s, _, [] => (-1, s)
  | s, i, t :: ts => if (f s t).1 then (i, (f s t).2) else idxCell f (f s t).2 (i + 1) ts
set_option maxRecDepth 100000 in
theorem indexCell {σ : Type} (es : σ → Heap) (f : σ → T → Bool × σ) (fid : FuncId) (cap : List AV) (ks : List T) (I : Nat → σ → Prop) (s : σ) (hs : ks.length < 2 ^ 40) (h0 : I 0 s)
    (hp : ∀ (i : Nat) (h : i < ks.length) (s' : σ), I i s' → I (i + 1) (f s' ks[i]).2 ∧ ACalls Tryz.prog fid (encT ks[i] :: cap) (es s') fun r H' => r = .ret (.bool (f s' ks[i]).1) ∧ H' = es (f s' ks[i]).2) :
    ACalls Tryz.prog 25 [.slice 7 (ks.map encT), .func (.func fid) [] cap] (es s) fun r H' => r = .ret (.int .i64 (idxCell f s 0 ks).1) ∧ H' = es (idxCell f s 0 ks).2 := by
  refine ACalls.start (rs := [.tmp 4]) Tryz.func25 rfl rfl rfl (Nat.le_of_ble_eq_true rfl) (by decide) allLit ?_
  simp -dsimp -implicitDefEqProofs +contextual (disch := omega) only [go_sem]
  refine loop_intro (ι := Nat × σ) (fun p => ⟨[(0, .slice 7 (ks.map encT)), (1, .func (.func fid) [] cap), (7, .int .i64 ks.length), (8, .int .i64 p.1)], es p.2⟩) (fun p => p.1 ≤ ks.length ∧ I p.1 p.2 ∧ idxCell f s 0 ks = idxCell f p.2 p.1 (ks.drop p.1)) (fun p => ks.length - p.1) (0, s) ⟨Nat.zero_le _, h0, by simp⟩ (Sub.env ?_) ?_
  · simp -dsimp -implicitDefEqProofs +contextual (disch := omega) only [go_sem]
    simp
  · rintro ⟨i, s'⟩ ⟨hi, hI, hj⟩
    simp only at hi hI hj
    simp -dsimp -implicitDefEqProofs +contextual (disch := omega) only [go_sem]
    refine ⟨fun hlt => ?_, fun hge => ?_⟩
    · rw [List.drop_eq_getElem_cons hlt, idxCell] at hj
      obtain ⟨hI2, hc2⟩ := hp i hlt s' hI
      refine use_acalls (by simpa using hc2) ?_
      rintro r H' ⟨rfl, rfl⟩
      simp -dsimp -implicitDefEqProofs +contextual (disch := omega) only [go_sem]
      refine ⟨fun hc => ?_, fun hc => ?_⟩
      · rw [if_pos hc] at hj
        exact end_same ⟨by rw [hj], by rw [hj]⟩
      · rw [if_neg (by simp [hc])] at hj
        refine loop_next (i + 1, (f s' ks[i]).2) ⟨by simp only; omega, hI2, ?_⟩ (by simp only; omega) (Sub.env' rfl ?_)
        · simp only; rw [hj]; simp
        · simp -dsimp -implicitDefEqProofs +contextual (disch := omega) only [go_sem]
          simp
    · have e : i = ks.length := by omega
      subst e
      rw [List.drop_length] at hj
      exact end_same ⟨by rw [hj]; rfl, by rw [hj]; rfl⟩
theorem idxCell_any {σ : Type} (f : σ → T → Bool × σ) (p : T → Bool) (s : σ) (h : ∀ t, f s t = (p t, s)) : ∀ (l : List T) (i : Int), 0 ≤ i → (idxCell f s i l).2 = s ∧ decide (0 ≤ (idxCell f s i l).1) = l.any p
  | [], i, _ => by simp [idxCell]
  | t :: l, i, hi => by
    simp only [idxCell, h, List.any_cons]
    cases p t
    · simpa using idxCell_any f p s h l (i + 1) (by omega)
    · simp [hi]
theorem indexpCell (p : T → Bool) (fid : FuncId) (cap : List AV) (ks : List T) (hs : ks.length < 2 ^ 40) (hp : ∀ t ∈ ks, PureFn Tryz.prog fid (encT t :: cap) (.ret (.bool (p t)))) :
    PureFn Tryz.prog 25 [.slice 7 (ks.map encT), .func (.func fid) [] cap] (.ret (.int .i64 (idxCell (fun (_ : Unit) t => (p t, ())) () 0 ks).1)) :=
  indexCell (fun _ => []) (fun (_ : Unit) t => (p t, ())) fid cap ks (fun _ _ => True) () hs trivial fun i h s' _ => ⟨trivial, hp _ (List.getElem_mem h)⟩
set_option maxRecDepth 100000 in
theorem containsCell {σ : Type} (es : σ → Heap) (f : σ → T → Bool × σ) (fid : FuncId) (cap : List AV) (ks : List T) (I : Nat → σ → Prop) (s : σ) (hs : ks.length < 2 ^ 40) (h0 : I 0 s)
    (hp : ∀ (i : Nat) (h : i < ks.length) (s' : σ), I i s' → I (i + 1) (f s' ks[i]).2 ∧ ACalls Tryz.prog fid (encT ks[i] :: cap) (es s') fun r H' => r = .ret (.bool (f s' ks[i]).1) ∧ H' = es (f s' ks[i]).2) :
    ACalls Tryz.prog 14 [.slice 7 (ks.map encT), .func (.func fid) [] cap] (es s) fun r H' => r = .ret (.bool (decide (0 ≤ (idxCell f s 0 ks).1))) ∧ H' = es (idxCell f s 0 ks).2 := by
  refine ACalls.start (rs := [.tmp 4]) Tryz.func14 rfl rfl rfl (Nat.le_of_ble_eq_true rfl) (by decide) allLit ?_
  simp -dsimp -implicitDefEqProofs +contextual (disch := omega) only [go_sem]
  refine use_acalls (indexCell es f fid cap ks I s hs h0 hp) ?_
  rintro r H' ⟨rfl, rfl⟩
  simp -dsimp -implicitDefEqProofs +contextual (disch := omega) only [go_sem]
  exact end_same ⟨rfl, rfl⟩
theorem containspCell (p : T → Bool) (fid : FuncId) (cap : List AV) (ks : List T) (hs : ks.length < 2 ^ 40) (hp : ∀ t ∈ ks, PureFn Tryz.prog fid (encT t :: cap) (.ret (.bool (p t)))) :
    PureFn Tryz.prog 14 [.slice 7 (ks.map encT), .func (.func fid) [] cap] (.ret (.bool (ks.any p))) := by
  have := containsCell (fun _ => []) (fun (_ : Unit) t => (p t, ())) fid cap ks (fun _ _ => True) () hs trivial fun i h s' _ => ⟨trivial, hp _ (List.getElem_mem h)⟩
  rw [(idxCell_any (fun (_ : Unit) t => (p t, ())) p () (fun _ => rfl) ks 0 (by omega)).2] at this
  exact this
set_option maxRecDepth 100000 in
theorem refBodyStep (t : T) (hs : sizeT t < 2 ^ 30) (hk : ∀ u ∈ allT t, 1 ≤ u.kind ∧ u.kind ≤ 3) (ih : ∀ u ∈ t.kids, PureFn Tryz.prog 12 [encT u] (.ret (.str (bodyT u)))) : PureFn Tryz.prog 12 [encT t] (.ret (.str (bodyT t))) := by
  refine PureFn.start (rs := [.tmp 2]) Tryz.func12 rfl rfl rfl (Nat.le_of_ble_eq_true rfl) (by decide) allLit ?_
  have hk0 := hk t (by rw [allT_eq]; simp)
  have h1 := length_headS t.rect
  have hl2 := length_decS t.id
  have hlen := length_sizeL t.kids
  have hsz := sizeT_eq t
  simp -dsimp -implicitDefEqProofs +contextual (disch := omega) only [go_sem]
  refine use_call (refHeadFn t.rect) (by simp [pureAll, pure_R]) ?_
  simp -dsimp -implicitDefEqProofs +contextual (disch := omega) only [go_sem]
  refine ⟨fun k1 => ?_, fun k1 => ?_⟩
  · have k1' : t.kind = 1 := by simpa using k1
    refine ⟨by omega, ?_⟩
    refine use_call (refDigitsFn t.id) (by simp [pureAll, AV.pureB]) ?_
    simp -dsimp -implicitDefEqProofs +contextual (disch := omega) only [go_sem]
    refine ⟨by simp; omega, ?_⟩
    rw [bodyT_eq, if_pos k1']; simp
  · have k1' : ¬ t.kind = 1 := by simpa using k1
    refine loop_intro (ι := Nat) (fun i => ⟨[(1, .ptr 0 0), (3, .str (headS t.rect)), (4, .str (bodyL false (t.kids.take i))), (20, .int .i64 t.kids.length), (21, .int .i64 i)], [some (.box (30 : Nat) (cellsT t))]⟩) (fun i => i ≤ t.kids.length) (fun i => t.kids.length - i) 0 (Nat.zero_le _) (Sub.env ?_) ?_
    · simp -dsimp -implicitDefEqProofs +contextual (disch := omega) only [go_sem]
      simp [bodyL]
    · intro i hi
      have hlb := length_bodyL false (t.kids.take i)
      have htk := sizeL_take t.kids i
      have hlb2 := length_bodyL false (t.kids.take (i + 1))
      have htk2 := sizeL_take t.kids (i + 1)
      simp -dsimp -implicitDefEqProofs +contextual (disch := omega) only [go_sem]
      refine ⟨fun hlt => ?_, fun hge => ?_⟩
      · have hsu := bodyL_succ t.kids hlt
        rw [hsu] at hlb2
        simp only [List.length_append] at hlb2
        refine ⟨fun h0 => ?_, fun h0 => ?_⟩
        · rw [if_neg (show ¬ i = 0 by omega)] at hsu hlb2
          simp only [List.length_cons, List.length_nil] at hlb2
          refine ⟨by omega, ?_⟩
          refine use_call (ih _ (List.getElem_mem _)) (by simp [pureAll, pure_T]) ?_
          simp -dsimp -implicitDefEqProofs +contextual (disch := omega) only [go_sem]
          refine ⟨by omega, ?_⟩
          refine loop_next (i + 1) (by omega) (by omega) (Sub.env ?_)
          simp -dsimp -implicitDefEqProofs +contextual (disch := omega) only [go_sem, hsu] <;> simp
        · have e : i = 0 := by omega
          subst e
          simp only [if_pos, Nat.zero_add] at hsu hlb2 htk2
          refine use_call (ih _ (List.getElem_mem _)) (by simp [pureAll, pure_T]) ?_
          simp -dsimp -implicitDefEqProofs +contextual (disch := omega) only [go_sem]
          refine ⟨by simp [bodyL] at hlb2 ⊢; omega, ?_⟩
          refine loop_next 1 (by omega) (by omega) (Sub.env ?_)
          simp -dsimp -implicitDefEqProofs +contextual (disch := omega) only [go_sem, hsu] <;> simp
      · have e : i = t.kids.length := by omega
        subst e
        rw [List.take_length] at hlb
        refine ⟨fun k2 => ?_, fun k2 => ?_⟩
        · have k2' : t.kind = 2 := by simpa using k2
          refine ⟨by omega, by simp; omega, by simp; omega, ?_⟩
          rw [bodyT_eq, if_neg k1']; simp [openS, closeS, k2']
        · have k2' : ¬ t.kind = 2 := by simpa using k2
          have k3' : t.kind = 3 := by omega
          refine ⟨by omega, by simp; omega, by simp; omega, ?_⟩
          rw [bodyT_eq, if_neg k1']; simp [openS, closeS, k3']
theorem refBodyFn : ∀ (m : Nat) (t : T), sizeT t < m → sizeT t < 2 ^ 30 → (∀ u ∈ allT t, 1 ≤ u.kind ∧ u.kind ≤ 3) → PureFn Tryz.prog 12 [encT t] (.ret (.str (bodyT t)))
  | 0, t, h, _, _ => by omega
  | m + 1, t, h, hs, hk => refBodyStep t hs hk fun u hu => by
    have h1 := sizeL_mem hu
    have h2 := sizeT_eq t
    exact refBodyFn m u (by omega) (by omega) fun v hv => hk v (by rw [allT_eq]; exact List.mem_cons_of_mem _ (mem_allL hu hv))
end Go.Sim
