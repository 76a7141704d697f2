/- Code and functions over abstract values: what is evaluated abstractly holds of every run. -/
import Derived.Test.YtnfaajgnecjkiaaGreatDoorSimC
import Derived.Deep.LoopGhost
set_option linter.unusedVariables false
set_option linter.unusedSimpArgs false
namespace Go.Sim
/-! ### code -/
/-- a state seen as another one: less known, objects forgotten -/
def Sub (n0 : Nat) (e : Env) (H : Heap) (e' : Env) (H' : Heap) : Prop :=
  ∀ C0 C a, (∀ l, C0.dom l → l < n0) → C0.hi ≤ n0 → Ext C0 C → SRel C e H a C.w → ∃ C', C'.w = C.w ∧ Ext C0 C' ∧ SRel C' e' H' a C.w
theorem Sub.refl (n0 : Nat) (e : Env) (H : Heap) : Sub n0 e H e H := fun C0 C a _ _ hE hS => ⟨C, rfl, hE, hS⟩
def thenQ (K : Env → Heap → Prop) (Q : AX → Env → Heap → Prop) : AX → Env → Heap → Prop
  | .normal, e, H => K e H
  | x, e, H => Q x e H
def blockQ (id : Nat) (Q : AX → Env → Heap → Prop) : AX → Env → Heap → Prop
  | .exit id', e, H => if id' = id then Q .normal e H else Q (.exit id') e H
  | x, e, H => Q x e H
structure St where
  e : Env
  H : Heap
def loopQ {ι : Type} (n0 : Nat) (S : ι → St) (Φ : ι → Prop) (μ : ι → Nat) (i : ι) (Q : AX → Env → Heap → Prop) : AX → Env → Heap → Prop
  | .normal, e, H => ∃ j, Φ j ∧ μ j < μ i ∧ Sub n0 e H (S j).e (S j).H
  | x, e, H => Q x e H
def awpDraw (P : Program) (O : LitO) (ops : Array Oper) (K : Env → Heap → Prop) (Kp : AV → Env → Heap → Prop) (e : Env) (H : Heap) : Prop :=
  ∃ pl b, P.follows .mixedOrders = true ∧ drawOk ops b pl = true ∧ awpD P O ops pl K Kp e H
def awp (P : Program) (O : LitO) (n0 : Nat) : Code → (AX → Env → Heap → Prop) → Env → Heap → Prop
  | .skip, Q, e, H => Q .normal e H
  | .label _, Q, e, H => Q .normal e H
  | .region _ ops draw, Q, e, H => if draw then awpDraw P O ops (Q .normal) (fun v => Q (.panic v)) e H else awpOps P O ops ops.toList (Q .normal) (fun v => Q (.panic v)) e H
  | .seq a b, Q, e, H => awp P O n0 a (thenQ (awp P O n0 b Q) Q) e H
  | .cond c a b, Q, e, H => match ope e c with
    | .bool t => (t = true → awp P O n0 a Q e H) ∧ (t = false → awp P O n0 b Q e H)
    | _ => False
  | .block id b, Q, e, H => awp P O n0 b (blockQ id Q) e H
  | .loop b, Q, e, H => ∃ (ι : Type) (S : ι → St) (Φ : ι → Prop) (μ : ι → Nat), (∃ i, Φ i ∧ Sub n0 e H (S i).e (S i).H) ∧ ∀ i, Φ i → awp P O n0 b (loopQ n0 S Φ μ i Q) (S i).e (S i).H
  | .exit id, Q, e, H => Q (.exit id) e H
  | .ret, Q, e, H => Q .ret e H
  | _, _, _, _ => False
/-- every slot that is written lies in the frame -/
def codeOk (n : Nat) : Code → Bool
  | .region _ ops _ => ops.toList.all (dstOk n)
  | .seq a b | .cond _ a b => codeOk n a && codeOk n b
  | .block _ b | .loop b | .scope b => codeOk n b
  | _ => true
section
variable {P : Program} {O : LitO}
theorem awpDraw_sound {id : Nat} {ops : Array Oper} {n : Nat} {C0 : Ctx} {Q : AX → Env → Heap → Prop} {C : Ctx} {e : Env} {H : Heap} {a : Act} (hL0 : LibOk P C0) (hE : Ext C0 C) (hS : SRel C e H a C.w) (hn : a.tmps.size = n) (hl : ops.toList.all (dstOk n) = true)
    (h : awpDraw P O ops (Q .normal) (fun v => Q (.panic v)) e H) : (Code.region id ops true).wp P (Post C0 n Q) a C.w := by
  obtain ⟨pl, b, hm, hd, h⟩ := h
  exact region_draw hL0 hm hd hE hS hn hl h
theorem wp_region_list {id : Nat} {ops : Array Oper} {Q : Exit → Act → World → Prop} {a : Act} {w : World} (h : wpList P ops Q ops.toList a w) : (Code.region id ops false).wp P Q a w := by
  refine wp_region ?_
  rw [List.range_eq_range']
  have := wpOps_eq_wpList (P := P) (ops := ops) (Q := Q) ops.toList 0 (fun j => by simp)
  rw [Array.length_toList] at this
  rw [this]; exact h
theorem awp_sound {n0 n : Nat} {C0 : Ctx} (hL0 : LibOk P C0) (h0 : ∀ l, C0.dom l → l < n0) (hi0 : C0.hi ≤ n0) : ∀ (c : Code) {Q : AX → Env → Heap → Prop} {C : Ctx} {e : Env} {H : Heap} {a : Act}, Ext C0 C → SRel C e H a C.w → a.tmps.size = n → codeOk n c = true →
    awp P O n0 c Q e H → c.wp P (Post C0 n Q) a C.w := by
  intro c
  induction c with
  | skip => intro Q C e H a hE hS hn _ h; exact wp_skip ⟨.normal, C, e, H, h, rfl, hE, rfl, hS, hn⟩
  | label l => intro Q C e H a hE hS hn _ h; exact wp_label ⟨.normal, C, e, H, h, rfl, hE, rfl, hS, hn⟩
  | region id ops draw =>
    intro Q C e H a hE hS hn hl h
    cases draw with
    | true => exact awpDraw_sound hL0 hE hS hn hl h
    | false => exact wp_region_list (awpOps_sound hL0 _ hE hS hn hl h)
  | seq x y ihx ihy =>
    intro Q C e H a hE hS hn hl h
    simp only [codeOk, Bool.and_eq_true] at hl
    refine wp_seq (wp_mono (ihx hE hS hn hl.1 h) ?_)
    rintro ex a' w' ⟨ax, C', e', H', hq, hx, hE', hw, hS', hn'⟩
    subst hw
    cases ax with
    | normal =>
      simp only [XRel] at hx
      subst hx
      exact ihy hE' hS' hn' hl.2 hq
    | exit id => simp only [XRel] at hx; subst hx; exact ⟨.exit id, C', e', H', hq, rfl, hE', rfl, hS', hn'⟩
    | goto l => simp only [XRel] at hx; subst hx; exact ⟨.goto l, C', e', H', hq, rfl, hE', rfl, hS', hn'⟩
    | ret => simp only [XRel] at hx; subst hx; exact ⟨.ret, C', e', H', hq, rfl, hE', rfl, hS', hn'⟩
    | panic v => obtain ⟨y, rfl, hv⟩ := hx; exact ⟨.panic v, C', e', H', hq, ⟨y, rfl, hv⟩, hE', rfl, hS', hn'⟩
  | cond c x y ihx ihy =>
    intro Q C e H a hE hS hn hl h
    simp only [codeOk, Bool.and_eq_true] at hl
    simp only [awp] at h
    split at h <;> first | exact h.elim | skip
    rename_i t ht
    have hc := rel_ope hS c
    rw [ht] at hc
    simp only [Rel] at hc
    refine wp_cond_split hc (fun e1 => ihx hE hS hn hl.1 (h.1 e1)) (fun e1 => ihy hE hS hn hl.2 (h.2 e1))
  | block id b ih =>
    intro Q C e H a hE hS hn hl h
    refine wp_block (wp_mono (ih hE hS hn hl h) ?_)
    rintro ex a' w' ⟨ax, C', e', H', hq, hx, hE', hw, hS', hn'⟩
    subst hw
    cases ax with
    | normal => simp only [XRel] at hx; subst hx; exact ⟨.normal, C', e', H', hq, rfl, hE', rfl, hS', hn'⟩
    | exit id' =>
      simp only [XRel] at hx
      subst hx
      simp only [Exit.inBlock]
      simp only [blockQ] at hq
      split
      · rename_i hi
        rw [if_pos hi] at hq
        exact ⟨.normal, C', e', H', hq, rfl, hE', rfl, hS', hn'⟩
      · rename_i hi
        rw [if_neg hi] at hq
        exact ⟨.exit id', C', e', H', hq, rfl, hE', rfl, hS', hn'⟩
    | goto l => simp only [XRel] at hx; subst hx; exact ⟨.goto l, C', e', H', hq, rfl, hE', rfl, hS', hn'⟩
    | ret => simp only [XRel] at hx; subst hx; exact ⟨.ret, C', e', H', hq, rfl, hE', rfl, hS', hn'⟩
    | panic v => obtain ⟨y, rfl, hv⟩ := hx; exact ⟨.panic v, C', e', H', hq, ⟨y, rfl, hv⟩, hE', rfl, hS', hn'⟩
  | loop b ih =>
    intro Q C e H a hE hS hn hl h
    obtain ⟨ι, S, Φ, μ, ⟨i, hi, hsub⟩, hround⟩ := h
    obtain ⟨C1, hw1, hE1, hS1⟩ := hsub C0 C a h0 hi0 hE hS
    rw [← hw1] at hS1 ⊢
    refine wp_loop_ghost (fun m a w => ∃ i C, μ i = m ∧ Φ i ∧ C.w = w ∧ Ext C0 C ∧ SRel C (S i).e (S i).H a w ∧ a.tmps.size = n) (μ i) ⟨i, C1, rfl, hi, rfl, hE1, hS1, hn⟩ ?_
    rintro m a2 w2 ⟨j, C2, rfl, hj, rfl, hE2, hS2, hn2⟩
    refine wp_mono (ih hE2 hS2 hn2 hl (hround j hj)) ?_
    rintro ex a' w' ⟨ax, C', e', H', hq, hx, hE', hw, hS', hn'⟩
    subst hw
    cases ax with
    | normal =>
      simp only [XRel] at hx
      subst hx
      obtain ⟨j', hj', hlt, hsub'⟩ := hq
      obtain ⟨C3, hw3, hE3, hS3⟩ := hsub' C0 C' a' h0 hi0 hE' hS'
      exact ⟨μ j', hlt, j', C3, rfl, hj', hw3, hE3, hS3, hn'⟩
    | exit id => simp only [XRel] at hx; subst hx; exact ⟨.exit id, C', e', H', hq, rfl, hE', rfl, hS', hn'⟩
    | goto l => simp only [XRel] at hx; subst hx; exact ⟨.goto l, C', e', H', hq, rfl, hE', rfl, hS', hn'⟩
    | ret => simp only [XRel] at hx; subst hx; exact ⟨.ret, C', e', H', hq, rfl, hE', rfl, hS', hn'⟩
    | panic v => obtain ⟨y, rfl, hv⟩ := hx; exact ⟨.panic v, C', e', H', hq, ⟨y, rfl, hv⟩, hE', rfl, hS', hn'⟩
  | exit id => intro Q C e H a hE hS hn _ h; exact wp_exit ⟨.exit id, C, e, H, h, rfl, hE, rfl, hS, hn⟩
  | ret => intro Q C e H a hE hS hn _ h; exact wp_ret ⟨.ret, C, e, H, h, rfl, hE, rfl, hS, hn⟩
  | goto l => intro Q C e H a hE hS hn _ h; exact h.elim
  | scope b _ => intro Q C e H a hE hS hn _ h; exact h.elim
  | refuse s => intro Q C e H a hE hS hn _ h; exact h.elim
  | rangeFunc f ps x y _ _ => intro Q C e H a hE hS hn _ h; exact h.elim

/-! ### functions -/
/-- what a function hands back, and the heap behind, seen by the caller -/
def View (n0 : Nat) (v : AV) (H : Heap) (v' : AV) (H' : Heap) : Prop :=
  ∀ C0 C x, (∀ l, C0.dom l → l < n0) → C0.hi ≤ n0 → Ext C0 C → HRel C H → Rel C v x → ∃ C', C'.w = C.w ∧ Ext C0 C' ∧ HRel C' H' ∧ Rel C' v' x
theorem View.refl (n0 : Nat) (v : AV) (H : Heap) : View n0 v H v H := fun C0 C x _ _ hE hH hv => ⟨C, rfl, hE, hH, hv⟩
/-- one result variable -/
def resVal (P : Program) (e : Env) (H : Heap) : ResultVar → (AV → Prop) → Prop
  | .tmp t, k => k (e.get t)
  | .cell a t, k => evLoad P H t (e.get a) k
def resAll (P : Program) (e : Env) (H : Heap) : List ResultVar → (List AV → Prop) → Prop
  | [], k => k []
  | r :: rs, k => resVal P e H r fun v => resAll P e H rs fun vs => k (v :: vs)
def oneOr : List AV → AV
  | [v] => v
  | vs => .tuple vs
def bodyQ (P : Program) (n0 : Nat) (rs : List ResultVar) (Q : AEnd → Heap → Prop) : AX → Env → Heap → Prop
  | .normal, e, H | .ret, e, H => resAll P e H rs fun vs => ∃ v' H', View n0 (oneOr vs) H v' H' ∧ Q (.ret v') H'
  | .panic v, e, H => ∃ v' H', View n0 v H v' H' ∧ Q (.panic v') H'
  | _, _, _ => False
def resSem (tmps : Array Value) : ResultVar → Sem Value
  | .tmp t => pure (tmps.getD t undef)
  | .cell b t => do loadVar t (← asAddr (tmps.getD b undef))
theorem results_eq (fn : Func) (tmps : Array Value) : results fn tmps = (fn.results.mapM (resSem tmps) >>= fun vs => pure (if h : vs.size = 1 then vs[0] else .tuple vs)) := by
  have : (fun (r : ResultVar) => (match r with
      | .tmp t => pure (tmps.getD t undef)
      | .cell a t => do loadVar t (← asAddr (tmps.getD a undef)) : Sem Value)) = resSem tmps := by
    funext r; cases r <;> rfl
  rw [← this]; rfl
theorem resVal_sound {C : Ctx} {e : Env} {H : Heap} {a : Act} (hS : SRel C e H a C.w) (r : ResultVar) {k : AV → Prop} (h : resVal P e H r k) : ∃ v x, k v ∧ Rel C v x ∧ (resSem a.tmps r).run P C.w = .ok x C.w := by
  cases r with
  | tmp t => exact ⟨_, _, h, hS.env t, rfl⟩
  | cell b t =>
    obtain ⟨v, x, hk, hv, hrun⟩ := evLoad_sound (P := P) hS.heap (hS.env b) h
    refine ⟨v, x, hk, hv, ?_⟩
    have hp : ∃ ad, a.tmps.getD b undef = .pointer (some ad) := by
      have hb := hS.env b
      simp only [resVal] at h
      unfold evLoad at h
      split at h <;> first | exact h.elim | skip
      all_goals rename_i heq; rw [heq] at hb
      · obtain ⟨_, _, _, hb, _⟩ := hb; exact ⟨_, hb⟩
      · obtain ⟨_, hb⟩ := hb; exact ⟨_, hb⟩
      · obtain ⟨_, _, _, _, hb, _⟩ := hb; exact ⟨_, hb⟩
    obtain ⟨ad, had⟩ := hp
    simp only [resSem, had]
    rw [had] at hrun
    simpa [Instr.loadAt, Instr.sureAddr, asAddr] using hrun
theorem resAll_sound {C : Ctx} {e : Env} {H : Heap} {a : Act} (hS : SRel C e H a C.w) : ∀ (rs : List ResultVar) {k : List AV → Prop}, resAll P e H rs k →
    ∃ vs xs, k vs ∧ RelAll C vs xs ∧ ((rs.mapM (resSem a.tmps)) : Sem (List Value)).run P C.w = .ok xs C.w
  | [], k, h => ⟨[], [], h, rfl, rfl⟩
  | r :: rs, k, h => by
    obtain ⟨v, x, hk, hv, hrun⟩ := resVal_sound hS r h
    obtain ⟨vs, xs, hk', hvs, hrun'⟩ := resAll_sound hS rs hk
    refine ⟨v :: vs, x :: xs, hk', ⟨x, xs, rfl, hv, hvs⟩, ?_⟩
    simp only [List.mapM_cons, Sem.run_bind, hrun, Result.andThen_ok, hrun', Sem.run_pure]
theorem results_sound {C : Ctx} {e : Env} {H : Heap} {a : Act} {fn : Func} {rs : List ResultVar} {k : List AV → Prop} (hr : fn.results.toList = rs) (hS : SRel C e H a C.w) (h : resAll P e H rs k) :
    ∃ vs x, k vs ∧ Rel C (oneOr vs) x ∧ (results fn a.tmps).run P C.w = .ok x C.w := by
  obtain ⟨vs, xs, hk, hvs, hrun⟩ := resAll_sound hS rs h
  refine ⟨vs, if h : xs.toArray.size = 1 then xs.toArray[0] else .tuple xs.toArray, hk, ?_, ?_⟩
  · cases vs with
    | nil => cases hvs; exact ⟨#[], rfl, rfl⟩
    | cons v vs =>
      obtain ⟨x, r, rfl, h1, h2⟩ := hvs
      cases vs with
      | nil => cases h2; exact h1
      | cons v' vs =>
        obtain ⟨x', r', rfl, h3, h4⟩ := h2
        exact ⟨_, rfl, x, _, rfl, h1, x', r', rfl, h3, h4⟩
  · rw [results_eq, Array.mapM_eq_mapM_toList, hr]
    simp only [Sem.run_bind, Sem.run_map, hrun, Result.andThen_ok, Sem.run_pure]
def entryEnv : Nat → List AV → Env
  | _, [] => []
  | i, v :: vs => (i, v) :: entryEnv (i + 1) vs
/-- A function's contract from its body. -/
theorem ACalls.intro {f : FuncId} {fn : Func} {c : Code} {rs : List ResultVar} {args : List AV} {H : Heap} {Q : AEnd → Heap → Prop} (hf : P.funcs[f]? = some fn) (hb : fn.body = some c) (hr : fn.results.toList = rs)
    (hname : (fn.name != "runtime.NumGoroutine") = true) (hsz : args.length ≤ fn.ntmps) (hok : codeOk fn.ntmps c = true)
    {Qc : AX → Env → Heap → Prop} (hQc : ∀ x e H', Qc x e H' → bodyQ P H.length rs Q x e H') (h : awp P O H.length c Qc (entryEnv 0 args) H) : ACalls P f args H Q := by
  refine ⟨by simp [callable, hf, hb, hname], fun C vs hL hH hvs => ?_⟩
  refine calls_of_wp hf hb ?_
  have hlen := relAll_length hvs
  have hsize : (vs.toArray ++ Array.replicate (fn.ntmps - vs.toArray.size) undef).size = fn.ntmps := by
    simp; omega
  have henv : ∀ (l : List AV) (ys : List Value) (i t : Nat), RelAll C l ys → Rel C ((entryEnv i l).get t) (if i ≤ t then (ys[t - i]?).getD undef else undef) ∨ (entryEnv i l).get t = .any := by
    intro l
    induction l with
    | nil => intro ys i t _; exact .inr rfl
    | cons v l ih =>
      intro ys i t hr
      obtain ⟨y, r, rfl, h1, h2⟩ := hr
      simp only [entryEnv, Env.get]
      split
      · rename_i hit
        subst hit
        left
        simpa using h1
      · rename_i hit
        rcases ih r (i + 1) t h2 with h3 | h3
        · by_cases ht : i + 1 ≤ t
          · left
            rw [if_pos (by omega)]
            rw [if_pos ht] at h3
            have : t - i = (t - (i + 1)) + 1 := by omega
            rw [this]; simpa using h3
          · rw [if_neg ht] at h3
            left
            rw [if_neg (by omega)]; exact h3
        · exact .inr h3
  have hS : SRel C (entryEnv 0 args) H { tmps := vs.toArray ++ Array.replicate (fn.ntmps - vs.toArray.size) undef, defers := [] } C.w := by
    refine ⟨rfl, hH, fun t => ?_, rfl⟩
    rcases henv args vs 0 t hvs with h1 | h1
    · simp only [Nat.zero_le, if_true, Nat.sub_zero] at h1
      have : (vs.toArray ++ Array.replicate (fn.ntmps - vs.toArray.size) undef).getD t undef = (vs[t]?).getD undef := by
        rw [Array.getD_eq_getD_getElem?]
        rcases Nat.lt_or_ge t vs.length with h2 | h2
        · rw [Array.getElem?_append_left (by simpa using h2)]; simp
        · rw [Array.getElem?_append_right (by simpa using h2), List.getElem?_eq_none h2]
          simp only [Option.getD_none]
          cases h3 : (Array.replicate (fn.ntmps - vs.toArray.size) undef)[t - vs.toArray.size]? with
          | none => rfl
          | some x =>
            rw [Array.getElem?_replicate] at h3
            split at h3
            · cases h3; rfl
            · cases h3
      rw [this]; exact h1
    · rw [h1]; trivial
  refine wp_mono (awp_sound (C0 := C) hL (fun l hl => hH.dom l hl) hH.hi c (Ext.refl C) hS hsize hok h) ?_
  rintro ex a' w' ⟨ax, C', e', H', hqc, hx, hE', hw, hS', hn'⟩
  subst hw
  have hq := hQc _ _ _ hqc
  have hret : resAll P e' H' rs (fun vs => ∃ v' H'', View H.length (oneOr vs) H' v' H'' ∧ Q (.ret v') H'') → a'.defers = [] ∧ ∃ v, (results fn a'.tmps).run P C'.w = .ok v C'.w ∧
      ∃ r C2 H2, Q r H2 ∧ C2.w = C'.w ∧ Ext C C2 ∧ HRel C2 H2 ∧ RelEnd C2 r (.returned v) := by
    intro h
    obtain ⟨vs', x, ⟨v', H'', hview, hQ⟩, hrel, hrun⟩ := results_sound hr hS' h
    obtain ⟨C2, hw2, hE2, hH2, hv2⟩ := hview C C' x (fun l hl => hH.dom l hl) hH.hi hE' hS'.heap hrel
    exact ⟨hS'.defers, x, hrun, _, C2, H'', hQ, hw2, hE2, hH2, x, rfl, hv2⟩
  cases ax with
  | normal => simp only [XRel] at hx; subst hx; exact hret hq
  | ret => simp only [XRel] at hx; subst hx; exact hret hq
  | exit id => exact hq.elim
  | goto l => exact hq.elim
  | panic v =>
    obtain ⟨y, rfl, hv⟩ := hx
    obtain ⟨v', H'', hview, hQ⟩ := hq
    obtain ⟨C2, hw2, hE2, hH2, hv2⟩ := hview C C' y (fun l hl => hH.dom l hl) hH.hi hE' hS'.heap hv
    exact ⟨hS'.defers, _, C2, H'', hQ, hw2, hE2, hH2, y, rfl, hv2⟩
end
end Go.Sim

namespace Go.Sim
/-! ### what is handed back: frozen -/
def All2 (R : AV → AV → Prop) : List AV → List AV → Prop
  | [], [] => True
  | x :: xs, y :: ys => R x y ∧ All2 R xs ys
  | _, _ => False
/-- v, its mutable objects taken as they stand, is v' -/
def Frz : Nat → Heap → AV → AV → Prop
  | 0, _, v, v' => v = v' ∧ v.pureB = true
  | k + 1, H, v, v' =>
    match v, v' with
    | .ptr l off, .cptr cs off' => off = off' ∧ match H.get l with
      | some (.box _ ds) => All2 (Frz k H) ds cs
      | _ => False
    | .mslice sz l i n, .slice sz' ys => sz = sz' ∧ match H.get l with
      | some (.row _ sz2 xs) => sz2 = sz ∧ i + n = xs.length ∧ ys = xs.drop i
      | _ => False
    | .nilslice, .slice _ ys => ys = []
    | .zcap, .slice _ ys => ys = []
    | .map l, .cmap ks vs => match H.get l with
      | some (.map ks' vs') => All2 (Frz k H) ks' ks ∧ All2 (Frz k H) vs' vs
      | _ => False
    | .agg cs, .agg cs' => All2 (Frz k H) cs cs'
    | .tuple cs, .tuple cs' => All2 (Frz k H) cs cs'
    | .iface t v, .iface t' v' => t = t' ∧ Frz k H v v'
    | .func fn f c, .func fn' f' c' => fn = fn' ∧ All2 (Frz k H) f f' ∧ All2 (Frz k H) c c'
    | v, v' => v = v' ∧ v.pureB = true
/-- all that is owned is taken as it stands -/
def Ctx.frozen (C : Ctx) : Ctx where
  dom _ := False
  σ := C.σ
  β := C.β
  len := C.len
  own _ := False
  im b := C.im b ∨ C.own b
  hi := 0
  w := C.w
theorem Ctx.pure_frozen (C : Ctx) : Ext C.pure C.frozen where
  dom _ h := h.elim
  β _ h := h.elim
  len _ h := h.elim
  σ _ h := h.elim
  im _ h := .inl h
  old _ _ _ := rfl
  imOld _ _ h := h
  ownOld _ _ h := h.elim
  size := Nat.le_refl _
  shape _ _ h := h
  same := SameIO.refl _
  hi := Nat.le_refl _
  fresh _ h := h.elim
theorem relAll_all2 {C C' : Ctx} {R : AV → AV → Prop} (hR : ∀ v v' x, R v v' → Rel C v x → Rel C' v' x) : ∀ {vs vs' : List AV} {xs : List Value}, All2 R vs vs' → RelAll C vs xs → RelAll C' vs' xs
  | [], [], _, _, h => h
  | v :: vs, v' :: vs', _, h, hr => by
    obtain ⟨x, r, rfl, h1, h2⟩ := hr
    exact ⟨x, r, rfl, hR _ _ _ h.1 h1, relAll_all2 hR h.2 h2⟩
  | [], _ :: _, _, h, _ => h.elim
  | _ :: _, [], _, h, _ => h.elim
theorem Frz.rel {C : Ctx} {H : Heap} (hH : HRel C H) : ∀ (k : Nat) (v v' : AV) (x : Value), Frz k H v v' → Rel C v x → Rel C.frozen v' x := by
  have plain : ∀ (v v' : AV) (x : Value), (v = v' ∧ v.pureB = true) → Rel C v x → Rel C.frozen v' x := by
    rintro v _ x ⟨rfl, hp⟩ hr
    exact Rel.mono C.pure_frozen v x (Rel.to_pure v x hp hr)
  have still : ∀ l o b, H.get l = some o → C.dom l → blockOf C l o = some b → C.frozen.still b := by
    intro l o b hg hd hb
    have := hH.own l o b hg hd hb
    exact ⟨.inr this, fun h => h, hH.lt b this⟩
  intro k
  induction k with
  | zero => intro v v' x h hr; exact plain v v' x h hr
  | succ k ih =>
    intro v v' x h hr
    have ihA : ∀ {vs vs' : List AV} {xs : List Value}, All2 (Frz k H) vs vs' → RelAll C vs xs → RelAll C.frozen vs' xs := fun h hr => relAll_all2 ih h hr
    unfold Frz at h
    split at h
    · rename_i l off cs off'
      obtain ⟨rfl, h⟩ := h
      split at h <;> first | exact h.elim | skip
      rename_i ds hg
      obtain ⟨hd, rfl⟩ := hr
      obtain ⟨vs, hh, hra⟩ := hH.obj l _ hg hd
      refine ⟨C.β l, 0, vs.toList, by rw [Nat.zero_add], still l _ _ hg hd rfl, ihA h hra, fun j u hj => ?_⟩
      show C.w.cell? _ = _
      simp only [World.cell?, hh, Nat.zero_add]
      simpa using hj
    · rename_i sz l i n sz' ys
      obtain ⟨rfl, h⟩ := h
      split at h <;> first | exact h.elim | skip
      rename_i sz2 xs hg
      obtain ⟨rfl, hin, rfl⟩ := h
      have hd := hr.1
      obtain ⟨a, cap, rfl, hc, hx⟩ := elemsOf_rel (sz := sz2) (xs := xs.drop i) hH hr (by simp [elemsOf, hg, hin])
      refine ⟨a, cap, rfl, hc, ?_⟩
      rcases hx with hx | ⟨b, o, vs, rfl, h1, h2⟩
      · exact .inl hx
      · by_cases hemp : xs.drop i = []
        · exact .inl hemp
        · right
          obtain ⟨_, _, a', cap', he, hn, hc'⟩ := hr
          cases he
          obtain ⟨hlen, ho⟩ := hH.obj l _ hg hd
          have hnn : 0 < (xs.drop i).length := List.length_pos_iff.2 hemp
          rcases hc' (by omega) with ⟨_, h3, _⟩ | ⟨b', e', m, hσ, hb', _, _⟩
          · omega
          · cases hb'
            exact ⟨b, _, vs, rfl, still l _ b hg hd hσ, RelAll.mono C.pure_frozen _ _ h1, h2⟩
    · subst h; simp only [Rel] at hr; subst hr; exact ⟨none, 0, rfl, Nat.le_refl _, .inl rfl⟩
    · subst h; obtain ⟨a, rfl⟩ := hr; exact ⟨a, 0, rfl, Nat.le_refl _, .inl rfl⟩
    · rename_i l ks vs
      split at h <;> first | exact h.elim | skip
      rename_i ks' vs' hg
      obtain ⟨hd, rfl⟩ := hr
      obtain ⟨es, c, hh, h1, h2⟩ := hH.obj l _ hg hd
      exact ⟨C.β l, es, c, rfl, still l _ _ hg hd rfl, hh, ihA h.1 h1, ihA h.2 h2⟩
    · obtain ⟨vs, rfl, h1⟩ := hr; exact ⟨vs, rfl, ihA h h1⟩
    · obtain ⟨vs, rfl, h1⟩ := hr; exact ⟨vs, rfl, ihA h h1⟩
    · obtain ⟨rfl, h⟩ := h
      obtain ⟨y, rfl, h1⟩ := hr
      exact ⟨y, rfl, ih _ _ _ h h1⟩
    · obtain ⟨rfl, h1, h2⟩ := h
      obtain ⟨f, c, rfl, h3, h4⟩ := hr
      exact ⟨f, c, rfl, ihA h1 h3, ihA h2 h4⟩
    · exact plain _ _ _ h hr
theorem HRel.nil {C : Ctx} (h1 : ∀ l, ¬ C.dom l) (h2 : ∀ b, ¬ C.own b) (h3 : C.hi = 0) : HRel C [] where
  obj l o h := by simp [Heap.get] at h
  own l o b h := by simp [Heap.get] at h
  inj l l' o o' b h := by simp [Heap.get] at h
  lt b h := (h2 b h).elim
  dom l h := (h1 l h).elim
  hi := Nat.le_of_eq h3
theorem View.frz {k : Nat} {v v' : AV} {H : Heap} (h : Frz k H v v') : View 0 v H v' [] := by
  intro C0 C x h0 hi0 hE hH hv
  refine ⟨C.frozen, rfl, ?_, HRel.nil (fun _ h => h) (fun _ h => h) rfl, h.rel hH k _ _ _ hv⟩
  exact {
    dom := fun l hl => absurd (h0 l hl) (Nat.not_lt_zero _)
    β := fun l hl => absurd (h0 l hl) (Nat.not_lt_zero _)
    len := fun l hl => absurd (h0 l hl) (Nat.not_lt_zero _)
    σ := fun l hl => absurd (h0 l hl) (Nat.not_lt_zero _)
    im := fun b hb => .inl (hE.im b hb)
    old := hE.old
    imOld := fun b hb hi => hi.elim (hE.imOld b hb) fun k => .inr (hE.ownOld b hb k)
    ownOld := fun b hb h => h.elim
    size := hE.size
    shape := hE.shape
    same := hE.same
    hi := hi0
    fresh := fun _ h => h.elim }

/-! ### functions that only compute -/
/-- With these arguments (no references) the function hands this back, or panics so; of memory nothing has turned. -/
def PureFn (P : Program) (f : FuncId) (args : List AV) (r : AEnd) : Prop := ACalls P f args [] fun r' H' => r' = r ∧ H' = []
def AEnd.val : AEnd → AV
  | .ret v | .panic v => v
mutual
/-- no address at all -/
def AV.flatB : AV → Bool
  | .bool _ | .int _ _ | .str _ | .nilp | .nilslice | .nilmap | .nilfunc | .niliface => true
  | .agg cs => flatAll cs
  | .tuple cs => flatAll cs
  | .iface _ v => v.flatB
  | _ => false
def flatAll : List AV → Bool
  | [] => true
  | v :: vs => v.flatB && flatAll vs
end
mutual
theorem Rel.flat {C C' : Ctx} : ∀ (v : AV) (x : Value), v.flatB = true → Rel C v x → Rel C' v x
  | .bool _, _, _, h => h
  | .int _ _, _, _, h => h
  | .str _, _, _, h => h
  | .nilp, _, _, h => h
  | .nilslice, _, _, h => h
  | .nilmap, _, _, h => h
  | .nilfunc, _, _, h => h
  | .niliface, _, _, h => h
  | .agg cs, _, hf, h => by obtain ⟨vs, rfl, h1⟩ := h; exact ⟨vs, rfl, RelAll.flat cs _ hf h1⟩
  | .tuple cs, _, hf, h => by obtain ⟨vs, rfl, h1⟩ := h; exact ⟨vs, rfl, RelAll.flat cs _ hf h1⟩
  | .iface t v, _, hf, h => by obtain ⟨y, rfl, h1⟩ := h; exact ⟨y, rfl, Rel.flat v y hf h1⟩
  | .any, _, hf, _ => by cases hf
  | .ptr _ _, _, hf, _ => by cases hf
  | .cptr _ _, _, hf, _ => by cases hf
  | .zcap, _, hf, _ => by cases hf
  | .slice _ _, _, hf, _ => by cases hf
  | .mslice _ _ _ _, _, hf, _ => by cases hf
  | .meptr _ _ _ _ _, _, hf, _ => by cases hf
  | .map _, _, hf, _ => by cases hf
  | .cmap _ _, _, hf, _ => by cases hf
  | .func _ _ _, _, hf, _ => by cases hf
theorem RelAll.flat {C C' : Ctx} : ∀ (vs : List AV) (xs : List Value), flatAll vs = true → RelAll C vs xs → RelAll C' vs xs
  | [], _, _, h => h
  | v :: vs, _, hf, h => by
    simp only [flatAll, Bool.and_eq_true] at hf
    obtain ⟨y, r, rfl, h1, h2⟩ := h
    exact ⟨y, r, rfl, Rel.flat v y hf.1 h1, RelAll.flat vs r hf.2 h2⟩
end
section
variable {P : Program} {O : LitO}
theorem RelAll.to_frozen {C : Ctx} {k : Nat} {H : Heap} {vs vs' : List AV} {xs : List Value} (hH : HRel C H) (h : All2 (Frz k H) vs vs') (hr : RelAll C vs xs) : RelAll C.frozen vs' xs :=
  relAll_all2 (fun v v' x h1 h2 => h1.rel hH k v v' x h2) h hr
/-- The context behind a call that only computes: the caller's own, in the new world; C1 is the callee's. -/
def Ctx.back (C C1 : Ctx) : Ctx := { C with w := C1.w, im := fun b => C.im b ∨ (C1.im b ∧ C.w.heap.size ≤ b) }
theorem Ctx.back_ext {C C1 : Ctx} (h : Ext C.frozen C1) : Ext C (C.back C1) where
  dom _ h := h
  β _ _ := rfl
  len _ _ := Nat.le_refl _
  σ _ _ _ := rfl
  im _ h := .inl h
  old b hb _ := h.old b hb fun k => k
  imOld b hb k := k.elim .inl fun k => absurd hb (Nat.not_lt.2 k.2)
  ownOld _ _ k := k
  size := h.size
  shape := h.shape
  same := h.same
  hi := Nat.le_refl _
  fresh _ h := .inl h
theorem Ctx.back_heap {C C1 : Ctx} {H : Heap} (hH : HRel C H) (h : Ext C.frozen C1) : HRel (C.back C1) H where
  obj l o hg hd := (hH.obj l o hg hd).mono (Ctx.back_ext h) rfl rfl rfl fun b hb => h.old b (hH.lt b (hH.own l o b hg hd hb)) fun k => k
  own l o b hg hd hb := hH.own l o b hg hd (by cases o <;> exact hb)
  inj l l' o o' b hg hg' hd hd' hb hb' := hH.inj l l' o o' b hg hg' hd hd' (by cases o <;> exact hb) (by cases o' <;> exact hb')
  lt b hb := Nat.lt_of_lt_of_le (hH.lt b hb) h.size
  dom := hH.dom
  hi := hH.hi
/-- A call with references, that are read alone; the answer holds no address. -/
theorem PureFn.callFlat {f : FuncId} {args args' : List AV} {r : AEnd} {H : Heap} {k : Nat} (h : PureFn P f args' r) (ha : All2 (Frz k H) args args') (hf : r.val.flatB = true) : ACalls P f args H fun r' H' => r' = r ∧ H' = H := by
  refine ⟨h.1, fun C vs hL hH hr => ?_⟩
  refine (h.2 C.frozen vs (hL.mono fun b hb => ⟨⟨.inl hb.1, fun h => h, hb.2.2⟩, rfl⟩) (HRel.nil (fun _ h => h) (fun _ h => h) rfl) (hr.to_frozen hH ha)).mono ?_
  rintro e w' ⟨r', C1, H', ⟨rfl, rfl⟩, hw, hE, hH1, hre⟩
  subst hw
  refine ⟨r', C.back C1, H, ⟨rfl, rfl⟩, rfl, Ctx.back_ext hE, Ctx.back_heap hH hE, ?_⟩
  cases r' with
  | ret v => obtain ⟨x, rfl, hv⟩ := hre; exact ⟨x, rfl, Rel.flat v x hf hv⟩
  | panic v => obtain ⟨x, rfl, hv⟩ := hre; exact ⟨x, rfl, Rel.flat v x hf hv⟩
/-- A call whose arguments hold no reference. -/
theorem PureFn.call {f : FuncId} {args : List AV} {r : AEnd} {H : Heap} (h : PureFn P f args r) (hp : pureAll args = true) : ACalls P f args H fun r' H' => r' = r ∧ H' = H := by
  refine ⟨h.1, fun C vs hL hH hr => ?_⟩
  let D : Ctx := { C with dom := fun _ => False, own := fun _ => False, im := fun b => C.im b ∧ ¬ C.own b, hi := 0 }
  have hD : Mono C.pure D := ⟨fun _ h => h.elim, fun _ h => h.elim, fun _ h => h.elim, fun _ h => h.elim, fun b hb => ⟨⟨⟨hb.1, hb.2.1⟩, fun h => h, hb.2.2⟩, rfl⟩, fun _ _ h => h⟩
  refine (h.2 D vs (hL.mono fun b hb => ⟨⟨⟨hb.1, hb.2.1⟩, fun h => h, hb.2.2⟩, rfl⟩) (HRel.nil (fun _ h => h) (fun _ h => h) rfl) (RelAll.mono' hD _ _ (RelAll.to_pure _ _ hp hr))).mono ?_
  rintro e w' ⟨r', D1, H', ⟨rfl, rfl⟩, hw, hE, hH1, hre⟩
  subst hw
  have hD1 : ∀ l, ¬ D1.dom l := fun l hl => absurd (hH1.dom l hl) (Nat.not_lt_zero _)
  let C2 : Ctx := { C with w := D1.w, im := fun b => C.im b ∨ D1.still b }
  have hM : Mono D1 C2 := by
    refine ⟨fun l h => (hD1 l h).elim, fun l h => (hD1 l h).elim, fun l h => (hD1 l h).elim, fun l h => (hD1 l h).elim, fun b hb => ⟨⟨.inr hb, fun ho => ?_, hb.2.2⟩, rfl⟩, fun _ _ h => h⟩
    have hlt := hH.lt b ho
    rcases hE.imOld b hlt hb.1 with h1 | h1
    · exact h1.2 ho
    · exact h1
  have hE2 : Ext C C2 := {
    dom := fun _ h => h
    β := fun _ _ => rfl
    len := fun _ _ => Nat.le_refl _
    σ := fun _ _ _ => rfl
    im := fun _ h => .inl h
    old := fun b hb _ => hE.old b hb fun k => k
    imOld := fun b hb h => .inl (h.elim id fun k => (hE.imOld b hb k.1).elim (fun k => k.1) fun k => k.elim)
    ownOld := fun _ _ h => h
    size := hE.size
    shape := hE.shape
    same := hE.same
    hi := Nat.le_refl _
    fresh := fun _ h => .inl h }
  have hH2 : HRel C2 H := {
    obj := fun l o hg hd => (hH.obj l o hg hd).mono hE2 rfl rfl rfl fun b hb => hE.old b (hH.lt b (hH.own l o b hg hd hb)) fun k => k
    own := fun l o b hg hd hb => hH.own l o b hg hd (by cases o <;> exact hb)
    inj := fun l l' o o' b hg hg' hd hd' hb hb' => hH.inj l l' o o' b hg hg' hd hd' (by cases o <;> exact hb) (by cases o' <;> exact hb')
    lt := fun b hb => Nat.lt_of_lt_of_le (hH.lt b hb) hE.size
    dom := hH.dom
    hi := hH.hi }
  refine ⟨r', C2, H, ⟨rfl, rfl⟩, rfl, hE2, hH2, ?_⟩
  cases r' with
  | ret v => obtain ⟨x, rfl, hv⟩ := hre; exact ⟨x, rfl, Rel.mono' hM _ _ hv⟩
  | panic v => obtain ⟨x, rfl, hv⟩ := hre; exact ⟨x, rfl, Rel.mono' hM _ _ hv⟩
theorem PureFn.use {f : FuncId} {args : List AV} {r : AEnd} {H : Heap} {K Kp : AV → Heap → Prop} (h : PureFn P f args r) (hp : pureAll args = true) (hK : onEnd K Kp r H) : ACalls P f args H (onEnd K Kp) :=
  (h.call hp).mono fun r' H' ⟨h1, h2⟩ => by subst h1 h2; exact hK
theorem PureFn.useFlat {f : FuncId} {args args' : List AV} {r : AEnd} {H : Heap} {K Kp : AV → Heap → Prop} {k : Nat} (h : PureFn P f args' r) (ha : All2 (Frz k H) args args') (hf : r.val.flatB = true) (hK : onEnd K Kp r H) : ACalls P f args H (onEnd K Kp) :=
  (h.callFlat ha hf).mono fun r' H' ⟨h1, h2⟩ => by subst h1 h2; exact hK
/-! ### states that are seen as others -/
def EnvSub (e : Env) : Env → Prop
  | [] => True
  | (t, v) :: r => e.get t = v ∧ EnvSub e r
theorem EnvSub.get {e : Env} : ∀ {e' : Env}, EnvSub e e' → ∀ t, e'.get t = .any ∨ e'.get t = e.get t
  | [], _, t => .inl rfl
  | (i, v) :: r, h, t => by
    simp only [Env.get]
    split
    · rename_i hi; subst hi; exact .inr h.1.symm
    · exact EnvSub.get h.2 t
theorem Sub.env {n0 : Nat} {e e' : Env} {H : Heap} (h : EnvSub e e') : Sub n0 e H e' H := by
  intro C0 C a h0 hi0 hE hS
  refine ⟨C, rfl, hE, rfl, hS.heap, fun t => ?_, hS.defers⟩
  rcases h.get t with h1 | h1
  · rw [h1]; trivial
  · rw [h1]; exact hS.env t
mutual
/-- all references lie below k -/
def AV.lt (k : Nat) : AV → Bool
  | .ptr l _ | .mslice _ l _ _ | .meptr _ l _ _ _ | .map l => decide (l < k)
  | .func _ first cap => AV.ltAll k first && AV.ltAll k cap
  | .iface _ v => v.lt k
  | .agg cs => AV.ltAll k cs
  | .tuple cs => AV.ltAll k cs
  | _ => true
def AV.ltAll (k : Nat) : List AV → Bool
  | [] => true
  | v :: vs => v.lt k && AV.ltAll k vs
end
def Ctx.below (C : Ctx) (k h : Nat) : Ctx := { C with dom := fun l => C.dom l ∧ l < k, hi := h }
mutual
theorem Rel.below {C : Ctx} {k hh : Nat} : ∀ (v : AV) (x : Value), v.lt k = true → Rel C v x → Rel (C.below k hh) v x
  | .any, _, _, _ => trivial
  | .bool _, _, _, h => h
  | .int _ _, _, _, h => h
  | .str _, _, _, h => h
  | .nilp, _, _, h => h
  | .cptr _ _, _, _, h => h
  | .nilslice, _, _, h => h
  | .zcap, _, _, h => h
  | .slice _ _, _, _, h => h
  | .nilmap, _, _, h => h
  | .cmap _ _, _, _, h => h
  | .nilfunc, _, _, h => h
  | .niliface, _, _, h => h
  | .ptr l _, _, hp, h => ⟨⟨h.1, of_decide_eq_true hp⟩, h.2⟩
  | .mslice _ l _ _, _, hp, h => ⟨⟨h.1, of_decide_eq_true hp⟩, h.2⟩
  | .meptr _ l _ _ _, _, hp, h => ⟨⟨h.1, of_decide_eq_true hp⟩, h.2⟩
  | .map l, _, hp, h => ⟨⟨h.1, of_decide_eq_true hp⟩, h.2⟩
  | .func fn first cap, x, hp, h => by
    simp only [AV.lt, Bool.and_eq_true] at hp
    obtain ⟨f, c, rfl, h1, h2⟩ := h
    exact ⟨f, c, rfl, RelAll.below first _ hp.1 h1, RelAll.below cap _ hp.2 h2⟩
  | .iface t v, x, hp, h => by
    obtain ⟨y, rfl, h1⟩ := h
    exact ⟨y, rfl, Rel.below v y hp h1⟩
  | .agg cs, x, hp, h => by
    obtain ⟨vs, rfl, h1⟩ := h
    exact ⟨vs, rfl, RelAll.below cs _ hp h1⟩
  | .tuple cs, x, hp, h => by
    obtain ⟨vs, rfl, h1⟩ := h
    exact ⟨vs, rfl, RelAll.below cs _ hp h1⟩
theorem RelAll.below {C : Ctx} {k hh : Nat} : ∀ (vs : List AV) (xs : List Value), AV.ltAll k vs = true → RelAll C vs xs → RelAll (C.below k hh) vs xs
  | [], _, _, h => h
  | v :: vs, _, hp, h => by
    simp only [AV.ltAll, Bool.and_eq_true] at hp
    obtain ⟨y, r, rfl, h1, h2⟩ := h
    exact ⟨y, r, rfl, Rel.below v y hp.1 h1, RelAll.below vs r hp.2 h2⟩
end
def objLt (k : Nat) : Option AObj → Bool
  | some (.box _ cs) => AV.ltAll k cs
  | some (.map ks vs) => AV.ltAll k ks && AV.ltAll k vs
  | _ => true
def EnvSubLt (k : Nat) (e : Env) : Env → Prop
  | [] => True
  | (t, v) :: r => e.get t = v ∧ v.lt k = true ∧ EnvSubLt k e r
theorem EnvSubLt.get {k : Nat} {e : Env} : ∀ {e' : Env}, EnvSubLt k e e' → ∀ t, e'.get t = .any ∨ (e'.get t = e.get t ∧ (e'.get t).lt k = true)
  | [], _, t => .inl rfl
  | (i, v) :: r, h, t => by
    simp only [Env.get]
    split
    · rename_i hi; subst hi; exact .inr ⟨h.1.symm, h.2.1⟩
    · exact EnvSubLt.get h.2.2 t
/-- The objects from k on are forgotten. -/
theorem Sub.trunc {n0 k : Nat} {e e' : Env} {H H' : Heap} (hk : n0 ≤ k) (hl : k ≤ H.length) (hH' : H' = H.take k) (ho : H'.all (objLt k) = true) (h : EnvSubLt k e e') : Sub n0 e H e' H' := by
  intro C0 C a h0 hi0 hE hS
  subst hH'
  have hg : ∀ l o, Heap.get (H.take k) l = some o → Heap.get H l = some o ∧ l < k := by
    intro l o hl
    simp only [Heap.get, List.getElem?_take] at hl ⊢
    split at hl
    · exact ⟨hl, by assumption⟩
    · cases hl
  have hobj : ∀ l o, Heap.get (H.take k) l = some o → objLt k (some o) = true := by
    intro l o hl
    have h1 : (some o) ∈ H.take k := by
      simp only [Heap.get] at hl
      cases h2 : (H.take k)[l]? with
      | none => rw [h2] at hl; cases hl
      | some u => rw [h2] at hl; simp at hl; subst hl; exact List.mem_of_getElem? h2
    exact List.all_eq_true.1 ho _ h1
  refine ⟨C.below k C0.hi, rfl, ?_, rfl, ?_, fun t => ?_, hS.defers⟩
  · exact {
      dom := fun l hl => ⟨hE.dom l hl, Nat.lt_of_lt_of_le (h0 l hl) hk⟩
      β := hE.β
      len := hE.len
      σ := hE.σ
      im := hE.im
      old := hE.old
      imOld := hE.imOld
      ownOld := hE.ownOld
      size := hE.size
      shape := hE.shape
      same := hE.same
      hi := Nat.le_refl _
      fresh := fun l hl => hE.fresh l hl.1 }
  · have hHr := hS.heap
    refine ⟨?_, ?_, ?_, hHr.lt, ?_, by rw [List.length_take]; show C0.hi ≤ _; omega⟩
    · intro l o hgl hd
      have h1 := hHr.obj l o (hg l o hgl).1 hd.1
      have h2 := hobj l o hgl
      cases o with
      | box t cs => obtain ⟨vs, h3, h4⟩ := h1; exact ⟨vs, h3, RelAll.below cs _ h2 h4⟩
      | row t sz xs => exact h1
      | map ks vs =>
        simp only [objLt, Bool.and_eq_true] at h2
        obtain ⟨es, c, h3, h4, h5⟩ := h1
        exact ⟨es, c, h3, RelAll.below ks _ h2.1 h4, RelAll.below vs _ h2.2 h5⟩
      | siter s p => exact h1
    · intro l o b hgl hd hb; exact hHr.own l o b (hg l o hgl).1 hd.1 (by cases o <;> exact hb)
    · intro l l' o o' b hgl hgl' hd hd' hb hb'
      exact hHr.inj l l' o o' b (hg l o hgl).1 (hg l' o' hgl').1 hd.1 hd'.1 (by cases o <;> exact hb) (by cases o' <;> exact hb')
    · intro l hd
      rw [List.length_take]
      have := hHr.dom l hd.1
      have := hd.2
      omega
  · rcases h.get t with h1 | ⟨h1, h2⟩
    · rw [h1]; trivial
    · exact Rel.below _ _ h2 (by rw [h1]; exact hS.env t)
end
end Go.Sim

namespace Go.Sim
/-! ### the evaluation, as rules for simp -/
def onBool (v : AV) (k : Bool → Prop) : Prop := match v with
  | .bool t => k t
  | _ => False
def onBox (o : Option AObj) (k : TypeId → List AV → Prop) : Prop := match o with
  | some (.box t cs) => k t cs
  | _ => False
def onRow (o : Option AObj) (k : TypeId → Nat → List AV → Prop) : Prop := match o with
  | some (.row t sz xs) => k t sz xs
  | _ => False
def guardK (v : AV) (want : Bool) (A B : Prop) : Prop := match v with
  | .bool b => (b = want → A) ∧ (b ≠ want → B)
  | .tuple [] => B
  | _ => False
def optK {α : Type} (o : Option α) (k : α → Prop) : Prop := match o with
  | some x => k x
  | none => False
section
variable {P : Program} {O : LitO} {n0 : Nat} {e : Env} {H : Heap} {Q : AX → Env → Heap → Prop} {K : Env → Heap → Prop} {Kp : AV → Env → Heap → Prop} {ops : Array Oper} {r : List Oper} {d : Option Nat} {ty : TypeId} {pos : String} {aft : Array Edge} {g : Option (Nat × Bool)}

theorem onBool_congr {v v' : AV} {k : Bool → Prop} (h : v = v') : onBool v k = onBool v' k := by rw [h]
theorem onBox_congr {v v' : Option AObj} {k : TypeId → List AV → Prop} (h : v = v') : onBox v k = onBox v' k := by rw [h]
theorem onRow_congr {v v' : Option AObj} {k : TypeId → Nat → List AV → Prop} (h : v = v') : onRow v k = onRow v' k := by rw [h]
def guardAt (e : Env) : Option (Option Nat) → AV
  | some (some t) => e.get t
  | _ => .any
theorem guardVal_eq {l : List Oper} {e : Env} {j : Nat} : guardVal l.toArray e j = guardAt e (l[j]?.map (·.dst)) := by
  unfold guardVal guardAt
  rw [List.getElem?_toArray]
  cases l[j]? with
  | none => rfl
  | some o => cases h : o.dst <;> simp [h]
theorem guardK_congr {v v' : AV} {t : Bool} {A B : Prop} (h : v = v') : guardK v t A B = guardK v' t A B := by rw [h]
theorem optK_congr {α : Type} {v v' : Option α} {k : α → Prop} (h : v = v') : optK v k = optK v' k := by rw [h]
theorem onBool_bool {t : Bool} {k : Bool → Prop} : onBool (.bool t) k = k t := rfl
theorem onBox_some {t : TypeId} {cs : List AV} {k : TypeId → List AV → Prop} : onBox (some (.box t cs)) k = k t cs := rfl
theorem onRow_some {t : TypeId} {sz : Nat} {xs : List AV} {k : TypeId → Nat → List AV → Prop} : onRow (some (.row t sz xs)) k = k t sz xs := rfl
theorem optK_some {α : Type} {x : α} {k : α → Prop} : optK (some x) k = k x := rfl
theorem guardK_tt {A B : Prop} : guardK (.bool true) true A B = A := by simp [guardK]
theorem guardK_ff {A B : Prop} : guardK (.bool false) false A B = A := by simp [guardK]
theorem guardK_tf {A B : Prop} : guardK (.bool true) false A B = B := by simp [guardK]
theorem guardK_ft {A B : Prop} : guardK (.bool false) true A B = B := by simp [guardK]

theorem awp_skip : awp P O n0 .skip Q e H = Q .normal e H := rfl
theorem awp_region {id : Nat} : awp P O n0 (.region id ops false) Q e H = awpOps P O ops ops.toList (Q .normal) (fun v => Q (.panic v)) e H := rfl
theorem awp_seq {a b : Code} : awp P O n0 (.seq a b) Q e H = awp P O n0 a (thenQ (awp P O n0 b Q) Q) e H := rfl
theorem awp_cond {c : Operand} {a b : Code} : awp P O n0 (.cond c a b) Q e H = onBool (ope e c) fun t => (t = true → awp P O n0 a Q e H) ∧ (t = false → awp P O n0 b Q e H) := rfl
theorem awp_block {id : Nat} {b : Code} : awp P O n0 (.block id b) Q e H = awp P O n0 b (blockQ id Q) e H := rfl
theorem awp_exit {id : Nat} : awp P O n0 (.exit id) Q e H = Q (.exit id) e H := rfl
theorem awp_ret : awp P O n0 .ret Q e H = Q .ret e H := rfl
theorem awp_congr {c : Code} : awp P O n0 c Q e H = awp P O n0 c Q e H := rfl
theorem thenQ_normal : thenQ K Q .normal e H = K e H := rfl
theorem thenQ_exit {id : Nat} : thenQ K Q (.exit id) e H = Q (.exit id) e H := rfl
theorem thenQ_ret : thenQ K Q .ret e H = Q .ret e H := rfl
theorem thenQ_panic {v : AV} : thenQ K Q (.panic v) e H = Q (.panic v) e H := rfl
theorem blockQ_normal {id : Nat} : blockQ id Q .normal e H = Q .normal e H := rfl
theorem blockQ_same {id : Nat} : blockQ id Q (.exit id) e H = Q .normal e H := if_pos rfl
theorem blockQ_exit {id id' : Nat} : blockQ id Q (.exit id') e H = if id' = id then Q .normal e H else Q (.exit id') e H := rfl
theorem blockQ_ret {id : Nat} : blockQ id Q .ret e H = Q .ret e H := rfl
theorem blockQ_panic {id : Nat} {v : AV} : blockQ id Q (.panic v) e H = Q (.panic v) e H := rfl

theorem ops_nil : awpOps P O ops [] K Kp e H = K e H := rfl
theorem ops_guard {o : Op} {j : Nat} {want : Bool} : awpOps P O ops (⟨d, o, ty, pos, aft, some (j, want)⟩ :: r) K Kp e H =
    guardK (guardVal ops e j) want (awpOps P O ops (⟨d, o, ty, pos, aft, none⟩ :: r) K Kp e H) (awpOps P O ops r K Kp (putE d (.tuple []) e) H) := by
  simp only [awpOps, guardK]
  cases guardVal ops e j <;> rfl
theorem ops_move {x : Operand} : awpOps P O ops (⟨d, .move x, ty, pos, aft, none⟩ :: r) K Kp e H = awpOps P O ops r K Kp (putE d (ope e x) e) H := rfl
theorem ops_assign {x : Operand} : awpOps P O ops (⟨d, .assign x, ty, pos, aft, none⟩ :: r) K Kp e H = awpOps P O ops r K Kp (putE d (ope e x) e) H := rfl
theorem ops_pick {c x y : Operand} : awpOps P O ops (⟨d, .pick c x y, ty, pos, aft, none⟩ :: r) K Kp e H = onBool (ope e c) fun t => awpOps P O ops r K Kp (putE d (if t then ope e x else ope e y) e) H := rfl
theorem ops_load {t : TypeId} {p : Operand} : awpOps P O ops (⟨d, .load t p, ty, pos, aft, none⟩ :: r) K Kp e H = evLoad P H t (ope e p) fun v => awpOps P O ops r K Kp (putE d v e) H := rfl
theorem ops_nilCheck {x : Operand} : awpOps P O ops (⟨d, .nilCheck x, ty, pos, aft, none⟩ :: r) K Kp e H = evNilCheck (ope e x) fun v => awpOps P O ops r K Kp (putE d v e) H := rfl
theorem ops_binOp {op : BinOp} {t u : TypeId} {x y : Operand} : awpOps P O ops (⟨d, .binOp op t x y u, ty, pos, aft, none⟩ :: r) K Kp e H = evBin P H op t (isConst x || isConst y) (ope e x) (ope e y) fun v => awpOps P O ops r K Kp (putE d v e) H := rfl
theorem ops_unOp {op : UnOp} {t : TypeId} {x : Operand} : awpOps P O ops (⟨d, .unOp op t x, ty, pos, aft, none⟩ :: r) K Kp e H = evUn op (ope e x) fun v => awpOps P O ops r K Kp (putE d v e) H := rfl
theorem ops_convert {s t : TypeId} {x : Operand} : awpOps P O ops (⟨d, .convert s t x, ty, pos, aft, none⟩ :: r) K Kp e H = evConv H (convKind P s t) (ope e x) fun v => awpOps P O ops r K Kp (putE d v e) H := rfl
theorem ops_makeInterface {t : TypeId} {x : Operand} : awpOps P O ops (⟨d, .makeInterface t x, ty, pos, aft, none⟩ :: r) K Kp e H = (ifaceOk P t = true ∧ awpOps P O ops r K Kp (putE d (.iface t (ope e x)) e) H) := rfl
theorem ops_makeFunc {fn : Fn} {first cap : Array Operand} : awpOps P O ops (⟨d, .makeFunc fn first cap, ty, pos, aft, none⟩ :: r) K Kp e H = awpOps P O ops r K Kp (putE d (.func fn (first.toList.map (ope e)) (cap.toList.map (ope e))) e) H := rfl
theorem ops_slice {t : TypeId} {x : Operand} {lo hi mx : Option Operand} : awpOps P O ops (⟨d, .slice t x lo hi mx, ty, pos, aft, none⟩ :: r) K Kp e H = evSl H (arrN P t) (lenKind P t) (elemSz P t) (ope e x) (lo.map (ope e)) (hi.map (ope e)) (mx.map (ope e)) fun v => awpOps P O ops r K Kp (putE d v e) H := rfl
theorem ops_fieldAddr {t : TypeId} {x : Operand} {f : Nat} : awpOps P O ops (⟨d, .fieldAddr t x f, ty, pos, aft, none⟩ :: r) K Kp e H = evFieldAddr (fieldOff P t f) (ope e x) fun v => awpOps P O ops r K Kp (putE d v e) H := rfl
theorem ops_field {t : TypeId} {x : Operand} {f : Nat} : awpOps P O ops (⟨d, .field t x f, ty, pos, aft, none⟩ :: r) K Kp e H = evField (fieldInfo P t f) (ope e x) fun v => awpOps P O ops r K Kp (putE d v e) H := rfl
theorem ops_indexAddr {t : TypeId} {x i : Operand} : awpOps P O ops (⟨d, .indexAddr t x i, ty, pos, aft, none⟩ :: r) K Kp e H = evIdx H (arrN P t) (elemSz P t) (ope e x) (ope e i) fun v => awpOps P O ops r K Kp (putE d v e) H := rfl
theorem ops_index {t : TypeId} {x i : Operand} : awpOps P O ops (⟨d, .index t x i, ty, pos, aft, none⟩ :: r) K Kp e H = evIndex (lenKind P t) (ope e x) (ope e i) fun v => awpOps P O ops r K Kp (putE d v e) H := rfl
theorem ops_extract {x : Operand} {i : Nat} : awpOps P O ops (⟨d, .extract x i, ty, pos, aft, none⟩ :: r) K Kp e H = evExtract (ope e x) i fun v => awpOps P O ops r K Kp (putE d v e) H := rfl
theorem ops_len {x : Operand} {t : TypeId} : awpOps P O ops (⟨d, .call ⟨.builtin .len, ⟨[x]⟩, ⟨[t]⟩⟩, ty, pos, aft, none⟩ :: r) K Kp e H = evLen (lenKind P t) (ope e x) fun v => awpOps P O ops r K Kp (putE d v e) H := rfl
theorem ops_alloc {t : TypeId} : awpOps P O ops (⟨d, .alloc t, ty, pos, aft, none⟩ :: r) K Kp e H = optK (allocInfo P t) fun zs => match arrN P t with
    | none => awpOps P O ops r K Kp (putE d (.ptr H.length 0) e) (H ++ [some (.box t zs)])
    | some n => zs.length = n ∧ zs.all AV.one = true ∧ pureAll zs = true ∧ awpOps P O ops r K Kp (putE d (.meptr 1 H.length n 0 0) e) (H ++ [some (.row t 1 zs)]) := by
  simp only [awpOps, evOp, evA]
  cases allocInfo P t <;> rfl
theorem ops_box {t : TypeId} {x : Operand} : awpOps P O ops (⟨d, .box t x, ty, pos, aft, none⟩ :: r) K Kp e H = elemCells (ope e x) fun cs => awpOps P O ops r K Kp (putE d (.ptr H.length 0) e) (H ++ [some (.box t cs)]) := rfl
theorem ops_store {t : TypeId} {p x : Operand} : awpOps P O ops (⟨d, .store t p x, ty, pos, aft, none⟩ :: r) K Kp e H = evStore P H t (ope e p) (ope e x) fun H' => awpOps P O ops r K Kp (putE d (.tuple []) e) H' := rfl
theorem ops_call {f : FuncId} {args : Array Operand} {ts : Array TypeId} : awpOps P O ops (⟨d, .call ⟨.value (.func f), args, ts⟩, ty, pos, aft, none⟩ :: r) K Kp e H =
    CallG P f ([] ++ args.toList.map (ope e) ++ []) H (onEnd (fun v H' => awpOps P O ops r K Kp (putE d v e) H') (fun v H' => Kp v e H')) := rfl
theorem ops_append {s x : Operand} {t tx : TypeId} : awpOps P O ops (⟨d, .call ⟨.builtin .append, ⟨[s, x]⟩, ⟨[t, tx]⟩⟩, ty, pos, aft, none⟩ :: r) K Kp e H =
    evAppend P H H.length t tx (ope e s) (ope e x) fun v H' => awpOps P O ops r K Kp (putE d v e) H' := rfl

/-! operations by their operands -/
variable {k : AV → Prop}
theorem evLoad_congr {t : TypeId} {p p' : AV} (h : p = p') : evLoad P H t p k = evLoad P H t p' k := by rw [h]
theorem evLoad_ptr {t : TypeId} {l off : Nat} : evLoad P H t (.ptr l off) k = onBox (H.get l) fun _ cs => ldCells (ldInfo P t) (cs.drop off) k := by
  simp only [evLoad, onBox]
  cases H.get l with
  | none => rfl
  | some o => cases o <;> rfl
theorem evLoad_cptr {t : TypeId} {cs : List AV} {off : Nat} : evLoad P H t (.cptr cs off) k = ldCells (ldInfo P t) (cs.drop off) k := rfl
theorem ldCells_congr {i i' : Option (Bool × Nat)} {cs cs' : List AV} (h : i = i') (h' : cs = cs') : ldCells i cs k = ldCells i' cs' k := by rw [h, h']
theorem ldCells_agg {n : Nat} {cs : List AV} : ldCells (some (true, n)) cs k = (n ≤ cs.length ∧ k (.agg (cs.take n))) := rfl
theorem ldCells_one {n : Nat} {c : AV} {cs : List AV} : ldCells (some (false, n)) (c :: cs) k = k c := rfl
theorem elemCells_congr {v v' : AV} {k : List AV → Prop} (h : v = v') : elemCells v k = elemCells v' k := by rw [h]
theorem elemCells_agg {cs : List AV} {k : List AV → Prop} : elemCells (.agg cs) k = k cs := rfl
theorem elemCells_int {kd : IntKind} {n : Int} {k : List AV → Prop} : elemCells (.int kd n) k = k [.int kd n] := rfl
theorem elemCells_bool {b : Bool} {k : List AV → Prop} : elemCells (.bool b) k = k [.bool b] := rfl
theorem elemCells_str {s : List UInt8} {k : List AV → Prop} : elemCells (.str s) k = k [.str s] := rfl
theorem evNilCheck_congr {p p' : AV} (h : p = p') : evNilCheck p k = evNilCheck p' k := by rw [h]
theorem evBin_congr {op : BinOp} {t : TypeId} {c : Bool} {x x' y y' : AV} (h : x = x') (h' : y = y') : evBin P H op t c x y k = evBin P H op t c x' y' k := by rw [h, h']
theorem evBin_int {op : BinOp} {t : TypeId} {c : Bool} {kx ky : IntKind} {a b : Int} : evBin P H op t c (.int kx a) (.int ky b) k = evInt op kx a ky b k := rfl
theorem evInt_congr {op : BinOp} {kx ky : IntKind} {a b : Int} : evInt op kx a ky b k = evInt op kx a ky b k := rfl
theorem evInt_add {kx : IntKind} {a b : Int} : evInt .add kx a kx b k = k (.int kx (kx.wrap (a + b))) := by simp [evInt]
theorem evInt_sub {kx : IntKind} {a b : Int} : evInt .sub kx a kx b k = k (.int kx (kx.wrap (a - b))) := by simp [evInt]
theorem evInt_eql {kx : IntKind} {a b : Int} : evInt .eql kx a kx b k = k (.bool (a == b)) := by simp [evInt]
theorem evInt_neq {kx : IntKind} {a b : Int} : evInt .neq kx a kx b k = k (.bool (a != b)) := by simp [evInt]
theorem evInt_lss {kx : IntKind} {a b : Int} : evInt .lss kx a kx b k = k (.bool (decide (a < b))) := by simp [evInt]
theorem evInt_leq {kx : IntKind} {a b : Int} : evInt .leq kx a kx b k = k (.bool (decide (a ≤ b))) := by simp [evInt]
theorem evInt_gtr {kx : IntKind} {a b : Int} : evInt .gtr kx a kx b k = k (.bool (decide (b < a))) := by simp [evInt]
theorem evInt_geq {kx : IntKind} {a b : Int} : evInt .geq kx a kx b k = k (.bool (decide (b ≤ a))) := by simp [evInt]
theorem evFieldAddr_congr {o o' : Option Nat} {p p' : AV} (h : o = o') (h' : p = p') : evFieldAddr o p k = evFieldAddr o' p' k := by rw [h, h']
theorem evFieldAddr_ptr {o l off : Nat} : evFieldAddr (some o) (.ptr l off) k = k (.ptr l (off + o)) := rfl
theorem evFieldAddr_cptr {o off : Nat} {cs : List AV} : evFieldAddr (some o) (.cptr cs off) k = k (.cptr cs (off + o)) := rfl
theorem evLen_congr {kd kd' : Nat} {x x' : AV} (h : kd = kd') (h' : x = x') : evLen kd x k = evLen kd' x' k := by rw [h, h']
theorem evLen_slice {sz : Nat} {xs : List AV} : evLen 2 (.slice sz xs) k = k (.int .i64 xs.length) := rfl
theorem evLen_mslice {sz l i n : Nat} : evLen 2 (.mslice sz l i n) k = k (.int .i64 n) := rfl
theorem evLen_nil : evLen 2 .nilslice k = k (.int .i64 0) := rfl
theorem evLen_str {s : List UInt8} : evLen 1 (.str s) k = k (.int .i64 s.length) := rfl
theorem evIndexAddr_congr {es es' : Option Nat} {x x' i i' : AV} (h : es = es') (h1 : x = x') (h2 : i = i') : evIndexAddr H es x i k = evIndexAddr H es' x' i' k := by rw [h, h1, h2]
theorem evIndexAddr_slice {sz : Nat} {xs : List AV} {kd : IntKind} {n : Int} : evIndexAddr H (some sz) (.slice sz xs) (.int kd n) k = (0 ≤ n ∧ n < xs.length ∧ elemCells (xs.getD n.toNat .any) fun cs => k (.cptr cs 0)) := by simp [evIndexAddr]
theorem evExtract_congr {x x' : AV} {i : Nat} (h : x = x') : evExtract x i k = evExtract x' i k := by rw [h]
theorem evExtract_tuple {vs : List AV} {i : Nat} : evExtract (.tuple vs) i k = optK vs[i]? k := by
  simp only [evExtract, optK]
  cases vs[i]? <;> rfl
theorem evStore_congr {t : TypeId} {p p' x x' : AV} {k : Heap → Prop} (h : p = p') (h' : x = x') : evStore P H t p x k = evStore P H t p' x' k := by rw [h, h']
theorem evStore_ptr {t : TypeId} {l off : Nat} {x : AV} {k : Heap → Prop} : evStore P H t (.ptr l off) x k = onBox (H.get l) fun tg cs => elemCells x fun vs => tSize P t = some vs.length ∧ vs.all AV.one = true ∧ off + vs.length ≤ cs.length ∧ k (H.set l (some (.box tg (setC cs off vs)))) := by
  simp only [evStore, onBox]
  cases H.get l with
  | none => rfl
  | some o => cases o <;> rfl
theorem ACalls_congr {f : FuncId} {args args' : List AV} {Qc : AEnd → Heap → Prop} (h : args = args') : ACalls P f args H Qc = ACalls P f args' H Qc := by rw [h]
/-- the end of a function that only computes -/
def pureQ (P : Program) (rs : List ResultVar) (r : AEnd) : AX → Env → Heap → Prop
  | .normal, e, H | .ret, e, H => match r with
    | .ret v => resAll P e H rs fun vs => Frz 9 H (oneOr vs) v
    | _ => False
  | .panic u, e, H => match r with
    | .panic v => Frz 9 H u v
    | _ => False
  | _, _, _ => False
theorem resAll_mono : ∀ (rs : List ResultVar) {k k' : List AV → Prop}, (∀ vs, k vs → k' vs) → resAll P e H rs k → resAll P e H rs k'
  | [], _, _, h, hk => h _ hk
  | .tmp t :: rs, _, _, h, hk => resAll_mono rs (fun vs => h _) hk
  | .cell a t :: rs, k, k', h, hk => by
    simp only [resAll, resVal] at hk ⊢
    have hm : ∀ (i : Option (Bool × Nat)) (cs : List AV) (p q : AV → Prop), (∀ v, p v → q v) → ldCells i cs p → ldCells i cs q := by
      intro i cs p q hpq hp
      unfold ldCells at hp ⊢
      split at hp <;> first | exact hp.elim | skip
      · exact ⟨hp.1, hpq _ hp.2⟩
      · split at hp <;> first | exact hp.elim | exact hpq _ hp
    have he : ∀ (v : AV) (p q : List AV → Prop), (∀ v, p v → q v) → elemCells v p → elemCells v q := by
      intro v p q hpq hp
      cases v <;> first | exact hp.elim | exact hpq _ hp
    unfold evLoad at hk ⊢
    split at hk <;> first | exact hk.elim | skip
    · exact hm _ _ _ _ (fun v => resAll_mono rs fun vs => h _) hk
    · split at hk <;> first | exact hk.elim | skip
      exact hm _ _ _ _ (fun v => resAll_mono rs fun vs => h _) hk
    · split at hk <;> first | exact hk.elim | skip
      exact ⟨hk.1, hk.2.1, hk.2.2.1, he _ _ _ (fun cs => hm _ _ _ _ (fun v => resAll_mono rs fun vs => h _)) hk.2.2.2⟩
theorem PureFn.intro {f : FuncId} {fn : Func} {c : Code} {rs : List ResultVar} {args : List AV} {r : AEnd} (hf : P.funcs[f]? = some fn) (hb : fn.body = some c) (hr : fn.results.toList = rs)
    (hname : (fn.name != "runtime.NumGoroutine") = true) (hsz : args.length ≤ fn.ntmps) (hok : codeOk fn.ntmps c = true) (h : awp P O 0 c (pureQ P rs r) (entryEnv 0 args) []) : PureFn P f args r := by
  refine ACalls.intro hf hb hr hname hsz hok (Qc := pureQ P rs r) (fun x e H' hq => ?_) h
  cases x with
  | normal => cases r with
    | ret v => exact resAll_mono rs (fun vs hv => ⟨v, [], View.frz hv, rfl, rfl⟩) hq
    | panic v => exact hq.elim
  | ret => cases r with
    | ret v => exact resAll_mono rs (fun vs hv => ⟨v, [], View.frz hv, rfl, rfl⟩) hq
    | panic v => exact hq.elim
  | panic u => cases r with
    | ret v => exact hq.elim
    | panic v => exact ⟨v, [], View.frz hq, rfl, rfl⟩
  | exit id => exact hq
  | goto l => exact hq
end
end Go.Sim
