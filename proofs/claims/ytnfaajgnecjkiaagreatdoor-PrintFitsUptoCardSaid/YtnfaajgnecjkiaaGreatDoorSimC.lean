/- Calls, operations and regions that draw their order are sound over abstract values, whatever order is drawn. -/
import Derived.Test.YtnfaajgnecjkiaaGreatDoorSimB
import Derived.Lib.UnsafeStr
import Derived.Laws.Externs
import Derived.Tactics
import Derived.Orders
set_option linter.unusedVariables false
set_option linter.unusedSimpArgs false
namespace Go.Sim
/-! ### calls, operations, code -/
inductive AEnd where
  | ret (v : AV)
  | panic (v : AV)
def RelEnd (C : Ctx) : AEnd → Ending → Prop
  | .ret v, e => ∃ x, e = .returned x ∧ Rel C v x
  | .panic v, e => ∃ x, e = .panicked [{ v := x, recovered := false }] ∧ Rel C v x
def callable (P : Program) (f : FuncId) : Bool :=
  match P.funcs[f]? with
  | some fn => fn.name != "runtime.NumGoroutine" && fn.body.isSome
  | none => false
/-! the library's tables, as they lie behind the start -/
def tabInts (k : IntKind) (zs : List Int) : Array Value := (zs.map fun z => Value.int k z).toArray
def libVars : List (String × Array Value) := [
  ("internal/strconv.uint64pow10", tabInts .u64 [1, 10, 100, 1000, 10000, 100000, 1000000, 10000000, 100000000, 1000000000, 10000000000, 100000000000, 1000000000000, 10000000000000, 100000000000000, 1000000000000000, 10000000000000000, 100000000000000000, 1000000000000000000, 10000000000000000000]),
  ("math/bits.deBruijn32tab", tabInts .u8 [0, 1, 28, 2, 29, 14, 24, 3, 30, 22, 20, 15, 25, 17, 4, 8, 31, 27, 13, 23, 21, 19, 16, 7, 26, 12, 18, 6, 11, 5, 10, 9]),
  ("math/bits.deBruijn64tab", tabInts .u8 [0, 1, 56, 2, 57, 49, 28, 3, 61, 58, 42, 50, 38, 29, 17, 4, 62, 47, 59, 36, 45, 43, 51, 22, 53, 39, 33, 30, 24, 18, 12, 5, 63, 55, 48, 27, 60, 41, 37, 16, 46, 35, 44, 21, 52, 32, 23, 11, 54, 26, 40, 15, 34, 20, 31, 10, 25, 14, 19, 9, 13, 8, 7, 6])]
/-- the tables that the program has are readable and nobody writes them -/
def LibOk (P : Program) (C : Ctx) : Prop := ∀ n cs, (n, cs) ∈ libVars → ∀ g, P.globalNamed n = some g → C.still g ∧ C.w.var? P n = some cs
theorem LibOk.mono {P : Program} {C C' : Ctx} (h : LibOk P C) (hs : ∀ b, C.still b → C'.still b ∧ C'.w.heap[b]? = C.w.heap[b]?) : LibOk P C' := by
  intro n cs hm g hg
  obtain ⟨h1, h2⟩ := h n cs hm g hg
  obtain ⟨h3, h4⟩ := hs g h1
  refine ⟨h3, ?_⟩
  simp only [World.var?, hg, Option.bind_some] at h2 ⊢
  rw [h4]; exact h2
theorem LibOk.ext {P : Program} {C C' : Ctx} (h : LibOk P C) (hE : Ext C C') : LibOk P C' := h.mono hE.still
/-- A call of a function, over abstract values. -/
def ACalls (P : Program) (f : FuncId) (args : List AV) (H : Heap) (Q : AEnd → Heap → Prop) : Prop :=
  callable P f = true ∧ ∀ C vs, LibOk P C → HRel C H → RelAll C args vs →
    Calls P f vs.toArray C.w fun e w' => ∃ r C' H', Q r H' ∧ C'.w = w' ∧ Ext C C' ∧ HRel C' H' ∧ RelEnd C' r e
theorem ACalls.mono {P : Program} {f : FuncId} {args : List AV} {H : Heap} {Q Q' : AEnd → Heap → Prop} (h : ACalls P f args H Q) (hq : ∀ r H', Q r H' → Q' r H') : ACalls P f args H Q' :=
  ⟨h.1, fun C vs hL hH hr => (h.2 C vs hL hH hr).mono fun e w' ⟨r, C', H', hQ, rest⟩ => ⟨r, C', H', hq r H' hQ, rest⟩⟩
/-- what follows a call -/
def onEnd (K Kp : AV → Heap → Prop) : AEnd → Heap → Prop
  | .ret v, H => K v H
  | .panic v, H => Kp v H
/-- a function without a body that hands back its argument -/
def NoEsc (P : Program) (f : FuncId) : Prop := ∃ fn, P.funcs[f]? = some fn ∧ (fn.name == "runtime.NumGoroutine") = false ∧ fn.body.isNone = true ∧ Extern.findNext fn = none ∧ Extern.find fn = some Extern.AbiNoEscape.same
/-- a call, also of such a function -/
def CallG (P : Program) (f : FuncId) (args : List AV) (H : Heap) (Q : AEnd → Heap → Prop) : Prop :=
  ACalls P f args H Q ∨ (NoEsc P f ∧ ∃ v, args = [v] ∧ Q (.ret v) H)
theorem CallG.mono {P : Program} {f : FuncId} {args : List AV} {H : Heap} {Q Q' : AEnd → Heap → Prop} (h : CallG P f args H Q) (hq : ∀ r H', Q r H' → Q' r H') : CallG P f args H Q' :=
  h.imp (·.mono hq) fun ⟨h1, v, h2, h3⟩ => ⟨h1, v, h2, hq _ _ h3⟩
def evCall (P : Program) (H : Heap) (f : AV) (args : List AV) (K Kp : AV → Heap → Prop) : Prop :=
  match f with
  | .func (.func fid) first cap => CallG P fid (first ++ args ++ cap) H (onEnd K Kp)
  | _ => False
/-! strings out of rows of bytes -/
def evSliceData (H : Heap) (x : AV) (k : AV → Prop) : Prop :=
  match x with
  | .mslice sz l i n => match H.get l with
    | some (.row _ sz2 xs) => sz2 = sz ∧ 0 < n ∧ i + n = xs.length ∧ k (.meptr sz l xs.length i 0)
    | _ => False
  | _ => False
def ptrTo (P : Program) (pt : TypeId) : Option TypeId :=
  match P.underlying pt with
  | some (.pointer e) => if P.cellsOf e = 1 then some e else none
  | _ => none
def evUString (H : Heap) (pe : Option TypeId) (p n : AV) (K : AV → Heap → Prop) : Prop :=
  match pe, p, n with
  | some e, .meptr sz l ver i off, .int .i64 m => match H.get l with
    | some (.row tg sz2 xs) => tg = e ∧ sz2 = 1 ∧ sz = 1 ∧ ver = xs.length ∧ i = 0 ∧ off = 0 ∧ m = xs.length ∧ xs.length ≤ 9223372036854775807 ∧ 0 < xs.length ∧ xs = (xs.map dec8).map enc8 ∧ K (.str (xs.map dec8)) (H.set l none)
    | _ => False
  | _, _, _ => False
def evOp (P : Program) (O : LitO) (H : Heap) (ρ : Operand → AV) (o : Op) (K Kp : AV → Heap → Prop) : Prop :=
  match o with
  | .store t p x => evStore P H t (ρ p) (ρ x) (K (.tuple []))
  | .panic x => match ρ x with
    | .iface t v => Kp (.iface t v) H
    | _ => False
  | .call { callee := .builtin .append, args := ⟨[s, x]⟩, argTypes := ⟨[t, tx]⟩ } => evAppend P H H.length t tx (ρ s) (ρ x) K
  | .call { callee := .builtin .unsafeSliceData, args := ⟨[x]⟩, argTypes := _ } => evSliceData H (ρ x) fun v => K v H
  | .call { callee := .builtin .unsafeString, args := ⟨[p, n]⟩, argTypes := ⟨[pt, _]⟩ } => evUString H (ptrTo P pt) (ρ p) (ρ n) K
  | .call { callee := .value f, args, argTypes := _ } => evCall P H (ρ f) (args.toList.map ρ) K Kp
  | .alloc t => evA P ρ (.alloc t) H.length fun v obj => K v (H ++ [some obj])
  | .box t x => evA P ρ (.box t x) H.length fun v obj => K v (H ++ [some obj])
  | .buildSlice t n parts => if O t n = true then evL P ρ (.buildSlice t n parts) fun v => K v H else evA P ρ (.buildSlice t n parts) H.length fun v obj => K v (H ++ [some obj])
  | .makeMap t r => evA P ρ (.makeMap t r) H.length fun v obj => K v (H ++ [some obj])
  | .mapUpdate t m key x => evMapUpdate (mapKey P t) H (ρ m) (ρ key) (ρ x) (K (.tuple []))
  | .insert t m key x => evMapUpdate (mapKey P t) H (ρ m) (ρ key) (ρ x) (K (.tuple []))
  | o => evV P H ρ o fun v => K v H
section
variable {P : Program} {O : LitO} {w : World}
theorem put_size (a : Act) (d : Option Nat) (x : Value) : (a.put d x).tmps.size = a.tmps.size := by
  cases d <;> simp [Act.put]
/-- an operation's value, in every world that it comes to -/
def NextOk (C : Ctx) (e : Env) (a : Act) (d : Option Nat) (K : AV → Heap → Prop) : Act → World → Prop :=
  fun a' w' => ∃ v H' C', K v H' ∧ C'.w = w' ∧ Ext C C' ∧ SRel C' (putE d v e) H' a' w' ∧ a'.tmps.size = a.tmps.size
theorem nextOk_put {C C' : Ctx} {e : Env} {H H' : Heap} {a : Act} {d : Option Nat} {v : AV} {x : Value} {K : AV → Heap → Prop} (hS : SRel C e H a C.w) (hE : Ext C C') (hH : HRel C' H') (hv : Rel C' v x)
    (hd : ∀ t, d = some t → t < a.tmps.size) (hK : K v H') : NextOk C e a d K (a.put d x) C'.w :=
  ⟨v, H', C', hK, rfl, hE, hS.put hE hH rfl hv hd, put_size a d x⟩
theorem ofValue_func (fn : Fn) (first cap args : Array Value) : (Deferred.ofValue (.func fn first cap) args).run P w = .ok { target := .fn fn cap, args := first ++ args } w := rfl
theorem run_callFunc {f : FuncId} {args : Array Value} (h : callable P f = true) : (callFunc f args).run P w = .ok (.enter f args) w := by
  unfold callable at h
  cases hf : P.funcs[f]? with
  | none => simp [hf] at h
  | some fn =>
    simp only [hf, Bool.and_eq_true, bne_iff_ne, ne_eq] at h
    obtain ⟨h1, h2⟩ := h
    have h3 : fn.body.isNone = false := by cases hb : fn.body <;> simp [hb] at h2 ⊢
    have h1' : (fn.name == "runtime.NumGoroutine") = false := by simpa using h1
    simp only [callFunc, Sem.run_bind]
    show (Sem.run P (match P.funcs[f]? with | none => _ | some fn => _) w) = _
    rw [hf]
    simp only [h1', h3, Bool.false_eq_true, if_false]
    rfl
theorem evA_next {C : Ctx} {e : Env} {H : Heap} {a : Act} {o : Oper} {K : AV → Heap → Prop} {Q : Exit → Act → World → Prop} (hS : SRel C e H a C.w) (hd : ∀ t, o.dst = some t → t < a.tmps.size)
    (h : evA P (ope e) o.op H.length fun v obj => K v (H ++ [some obj])) : o.wp P a C.w (NextOk C e a o.dst K) Q := by
  obtain ⟨v, obj, x, ob, n, hk, hrun, hrest⟩ := evA_sound hS h
  have hn0 : ¬ C.dom H.length := fun h => by have := hS.heap.dom _ h; omega
  have hE : Ext C (C.new H.length n (C.w.alloc ob)) := Ext.new hn0 hS.heap.hi rfl ⟨rfl, rfl, rfl⟩
  obtain ⟨hv, hobj, hblk⟩ := hrest _ rfl hE
  have hH' := (hS.heap.list (some obj)).new (o := ob) (w' := C.w.alloc ob) (n := n) Heap.get_push hn0 hS.heap.hi rfl ⟨rfl, rfl, rfl⟩ hobj hblk
  simp only [Oper.wp, hrun, Oper.upon]
  exact nextOk_put hS hE hH' hv hd hk
theorem evV_next {C : Ctx} {e : Env} {H : Heap} {a : Act} {o : Oper} {K : AV → Heap → Prop} {Q : Exit → Act → World → Prop} (hS : SRel C e H a C.w) (hd : ∀ t, o.dst = some t → t < a.tmps.size)
    (h : evV P H (ope e) o.op fun v => K v H) : o.wp P a C.w (NextOk C e a o.dst K) Q := by
  obtain ⟨v, x, hk, hv, hrun⟩ := evV_sound hS h
  simp only [Oper.wp, hrun, Oper.upon]
  exact nextOk_put hS (Ext.refl C) hS.heap hv hd hk
theorem evL_next {C : Ctx} {e : Env} {H : Heap} {a : Act} {o : Oper} {K : AV → Heap → Prop} {Q : Exit → Act → World → Prop} (hS : SRel C e H a C.w) (hd : ∀ t, o.dst = some t → t < a.tmps.size)
    (h : evL P (ope e) o.op fun v => K v H) : o.wp P a C.w (NextOk C e a o.dst K) Q := by
  obtain ⟨v, x, C', hk, hrun, hE, hH', hv, _, _⟩ := evL_sound hS h
  simp only [Oper.wp, hrun, Oper.upon]
  exact nextOk_put hS hE hH' hv hd hk
theorem evSliceData_sound {C : Ctx} {H : Heap} {x : AV} {xv : Value} {k : AV → Prop} (hH : HRel C H) (hx : Rel C x xv) (h : evSliceData H x k) (ts : Array TypeId) (ty : TypeId) :
    ∃ v y, k v ∧ Rel C v y ∧ (Builtin.unsafeSliceData_ ts ty #[xv]).run P C.w = .ok y C.w := by
  unfold evSliceData at h
  split at h <;> first | exact h.elim | skip
  rename_i sz l i n
  split at h <;> first | exact h.elim | skip
  rename_i tg sz2 xs hg
  obtain ⟨rfl, h0, hin, h⟩ := h
  obtain ⟨hd, hle, a, cap, rfl, hn, hr⟩ := hx
  obtain ⟨hlen, _⟩ := hH.obj l _ hg hd
  rcases hr (by omega) with ⟨_, h2, _⟩ | ⟨b, e, m, hb, rfl, hsh, hm⟩
  · omega
  · exact ⟨_, _, h, ⟨hd, by omega, b, _, rfl, fun _ => ⟨hb, rfl⟩⟩, Lib.run_unsafeSliceData_row C.w ts ty _ n cap (by omega)⟩
theorem ptrTo_some {pt e : TypeId} (h : ptrTo P pt = some e) : P.underlying pt = some (.pointer e) ∧ P.cellsOf e = 1 := by
  unfold ptrTo at h
  split at h <;> first | (cases h; done) | skip
  split at h <;> first | (cases h; done) | skip
  rename_i hu hc
  cases h
  exact ⟨hu, hc⟩
theorem freeze_ne {w : World} {a : Addr} {n b : Nat} (h : b ≠ a.block) : (w.freeze a n).heap[b]? = w.heap[b]? := by
  unfold World.freeze
  split
  · rfl
  · simp only [Array.getElem?_modify]
    rw [if_neg (by omega)]
theorem freeze_shape {w : World} {a : Addr} {n : Nat} {cs : Array Value} {t : TypeId} {fz : Nat × Nat} (h : w.heap[a.block]? = some (.cells cs t fz)) (b : Nat) : (w.freeze a n).shape? b = w.shape? b := by
  by_cases hb : b = a.block
  · subst hb
    unfold World.freeze
    split
    · rfl
    · simp only [World.shape?, Array.getElem?_modify, if_true, h, Option.map_some]
  · simp only [World.shape?, freeze_ne hb]
theorem HRel.drop {C : Ctx} {H : Heap} {l b : Nat} {o : AObj} {w' : World} (hH : HRel C H) (hg : H.get l = some o) (hd : C.dom l) (hb : blockOf C l o = some b) (hE : Ext C { C with w := w' }) (hheap : ∀ b', b' ≠ b → w'.heap[b']? = C.w.heap[b']?) : HRel { C with w := w' } (H.set l none) := by
  have hget : ∀ m o', Heap.get (H.set l none) m = some o' → m ≠ l ∧ H.get m = some o' := by
    intro m o' hm
    by_cases h : m = l
    · subst h
      rw [Heap.get_set_self (Heap.get_lt hg)] at hm; cases hm
    · rw [Heap.get_set_ne h] at hm; exact ⟨h, hm⟩
  refine ⟨?_, ?_, ?_, ?_, ?_, ?_⟩
  · intro m o' hm hdm
    obtain ⟨hne, hm⟩ := hget m o' hm
    refine (hH.obj m o' hm hdm).mono hE rfl rfl rfl fun b' hb' => hheap b' ?_
    rintro rfl
    exact hne (hH.inj m l o' o b' hm hg hdm hd hb' hb)
  · intro m o' b' hm hdm hb'
    exact hH.own m o' b' (hget m o' hm).2 hdm (by cases o' <;> exact hb')
  · intro m m' o1 o2 b' hm hm' hdm hdm' hb1 hb2
    exact hH.inj m m' o1 o2 b' (hget m o1 hm).2 (hget m' o2 hm').2 hdm hdm' (by cases o1 <;> exact hb1) (by cases o2 <;> exact hb2)
  · intro b' hb'
    have := hH.lt b' hb'
    exact Nat.lt_of_lt_of_le this hE.size
  · intro m hm
    rw [List.length_set]; exact hH.dom m hm
  · rw [List.length_set]; exact hH.hi
theorem evUString_sound {C : Ctx} {H : Heap} {pt it ty : TypeId} {p n : AV} {pv nv : Value} {K : AV → Heap → Prop} (hH : HRel C H) (hp : Rel C p pv) (hn : Rel C n nv) (h : evUString H (ptrTo P pt) p n K) :
    ∃ v H' y w', K v H' ∧ (Builtin.unsafeString_ #[pt, it] ty #[pv, nv]).run P C.w = .ok y w' ∧ Ext C { C with w := w' } ∧ HRel { C with w := w' } H' ∧ Rel { C with w := w' } v y := by
  unfold evUString at h
  split at h <;> first | exact h.elim | skip
  rename_i e sz l ver i off m hpe
  split at h <;> first | exact h.elim | skip
  rename_i tg sz2 xs hg
  obtain ⟨rfl, rfl, rfl, rfl, rfl, rfl, rfl, h63, h0, hxs, h⟩ := h
  obtain ⟨hu, hc⟩ := ptrTo_some hpe
  obtain ⟨hd, hle, b, o, rfl, hx⟩ := hp
  simp only [Rel] at hn
  subst hn
  obtain ⟨hlen, ho⟩ := hH.obj l _ hg hd
  obtain ⟨hσ, rfl⟩ := hx hlen.symm
  rcases ho with ⟨ho, _⟩ | ⟨b', cs, fz, vs, hσ', hh, hr, hrow, hsz, hfz⟩
  · rw [hσ] at ho; cases ho
  have : b' = b := by rw [hσ] at hσ'; cases hσ'; rfl
  subst this
  have hln : (xs.map dec8).length = xs.length := List.length_map ..
  generalize hbs : xs.map dec8 = bs at *
  subst hxs
  have hvs := relAll_enc8 hr
  subst hvs
  have hcell : ∀ j x, bs[j]? = some x → C.w.cell? ((⟨b', 0, none⟩ : Addr).add j) = some (.int .u8 x.toNat) := by
    intro j x hj
    obtain ⟨_, _, hcj⟩ := hrow j (.int .u8 x.toNat) (by simp [hj])
    have := hcj 0 _ rfl
    rw [addr_add]
    simpa using this
  have hrun := Lib.run_unsafeString_row (P := P) C.w pt it ty tg hu hc b' cs.size (by simp [World.shape?, hh]) bs (by intro e; subst e; simp at h0) (by simpa using hsz) (by simpa using h63) hcell
  have hown := hH.own l _ b' hg hd hσ
  have hE : Ext C { C with w := C.w.freeze ⟨b', 0, none⟩ bs.length } := {
    dom := fun _ h => h
    β := fun _ _ => rfl
    len := fun _ _ => Nat.le_refl _
    σ := fun _ _ _ => rfl
    im := fun _ h => h
    old := fun b2 _ ho => freeze_ne (a := ⟨b', 0, none⟩) fun e => ho (e ▸ hown)
    imOld := fun _ _ h => .inl h
    ownOld := fun _ _ h => h
    size := by show _ ≤ (C.w.freeze _ _).heap.size; unfold World.freeze; split <;> simp
    shape := fun b2 s hs => by show (C.w.freeze _ _).shape? b2 = _; rw [freeze_shape (a := ⟨b', 0, none⟩) hh]; exact hs
    same := by show SameIO C.w (C.w.freeze _ _); unfold World.freeze; split <;> exact ⟨rfl, rfl, rfl⟩
    hi := Nat.le_refl _
    fresh := fun _ h => .inl h }
  refine ⟨_, _, _, _, h, by simpa using hrun, hE, hH.drop hg hd hσ hE fun b2 hb2 => freeze_ne (a := ⟨b', 0, none⟩) hb2, rfl⟩
theorem evOp_sound {C : Ctx} {e : Env} {H : Heap} {a : Act} {o : Oper} {K Kp : AV → Heap → Prop} {Q : Exit → Act → World → Prop} (hL : LibOk P C) (hS : SRel C e H a C.w) (hd : ∀ t, o.dst = some t → t < a.tmps.size)
    (h : evOp P O H (ope e) o.op K Kp)
    (hQ : ∀ v H' C' x, Kp v H' → Ext C C' → HRel C' H' → Rel C' v x → Q (.panic [{ v := x, recovered := false }]) a C'.w) :
    o.wp P a C.w (NextOk C e a o.dst K) Q := by
  have hH := hS.heap
  unfold evOp at h
  split at h
  · rename_i t p x ho
    obtain ⟨H', w', hk, hrun, hE, hH'⟩ := evStore_sound (P := P) hH (rel_ope hS p) (rel_ope hS x) h
    have : (execOp a.eval o).run P C.w = .ok .skip w' := by simp [execOp, ho, hrun]
    simp only [Oper.wp, this, Oper.upon]
    exact nextOk_put (C' := { C with w := w' }) (v := .tuple []) (x := undef) hS hE hH' ⟨#[], rfl, rfl⟩ hd hk
  · rename_i x ho
    split at h <;> first | exact h.elim | skip
    rename_i t v hv
    have hx := rel_ope hS x
    rw [hv] at hx
    obtain ⟨y, hy, hvy⟩ := hx
    have : (execOp a.eval o).run P C.w = .halt (.panic (.iface t y)) C.w := by simp [execOp, ho, hy, Instr.panic, goPanic]
    simp only [Oper.wp, this, Oper.upon]
    exact hQ _ H C _ h (Ext.refl C) hH ⟨y, rfl, hvy⟩
  · rename_i s x t tx ho
    obtain ⟨v, H', y, w', C', hk, hrun, hw, hE, hH', hv⟩ := evAppend_sound (P := P) (ty := o.type) hH (rel_ope hS s) (rel_ope hS x) h
    have : (execOp a.eval o).run P C.w = .ok (.value y) w' := by simp [execOp, ho, resolve, invoke, builtin, hrun]
    simp only [Oper.wp, this, Oper.upon]
    subst hw
    exact nextOk_put hS hE hH' hv hd hk
  · rename_i x ts ho
    obtain ⟨v, y, hk, hv, hrun⟩ := evSliceData_sound (P := P) hH (rel_ope hS x) h ts o.type
    have : (execOp a.eval o).run P C.w = .ok (.value y) C.w := by simp [execOp, ho, resolve, invoke, builtin, hrun]
    simp only [Oper.wp, this, Oper.upon]
    exact nextOk_put hS (Ext.refl C) hH hv hd hk
  · rename_i p n pt it ho
    obtain ⟨v, H', y, w', hk, hrun, hE, hH', hv⟩ := evUString_sound (P := P) (it := it) (ty := o.type) hH (rel_ope hS p) (rel_ope hS n) h
    have : (execOp a.eval o).run P C.w = .ok (.value y) w' := by simp [execOp, ho, resolve, invoke, builtin, hrun]
    simp only [Oper.wp, this, Oper.upon]
    exact nextOk_put (C' := { C with w := w' }) hS hE hH' hv hd hk
  · rename_i f args ts ho
    unfold evCall at h
    split at h <;> first | exact h.elim | skip
    rename_i fid first cap hf
    have hfv := rel_ope hS f
    rw [hf] at hfv
    obtain ⟨fa, ca, hfe, hfa, hca⟩ := hfv
    have hargs : RelAll C (args.toList.map (ope e)) (args.toList.map a.eval) := relAll_ope hS args.toList
    have harr : (fa.toList ++ args.toList.map a.eval ++ ca.toList).toArray = fa ++ args.map a.eval ++ ca := by
      apply Array.ext'; simp
    have hrel := relAll_append (relAll_append hfa hargs) hca
    rcases h with h | ⟨⟨fn, hf1, hf2, hf3, hf4, hf5⟩, v, hv1, hq⟩
    rotate_left
    · rw [hv1] at hrel
      obtain ⟨x, r, hxe, hxr, rfl⟩ := hrel
      rw [hxe] at harr
      have hne : (Extern.AbiNoEscape.same #[x]).run P C.w = .ok x C.w := Lib.run_noEscape C.w x
      have : (execOp a.eval o).run P C.w = .ok (.value x) C.w := by
        simp only [execOp, ho, resolve, hfe, Sem.run_bind, ofValue_func, Result.andThen_ok, invoke, ← harr]
        rw [run_callFunc_extern hf1 hf2 hf3 hf4 hf5]
        show Result.andThen (Sem.run P (Extern.AbiNoEscape.same #[x]) C.w) _ = _
        rw [hne]; rfl
      simp only [Oper.wp, this, Oper.upon]
      exact nextOk_put hS (Ext.refl C) hH hxr hd hq
    have hcall := h.2 C _ hL hH hrel
    rw [harr] at hcall
    have : (execOp a.eval o).run P C.w = .ok (.enter fid (fa ++ args.map a.eval ++ ca)) C.w := by
      simp only [execOp, ho, resolve, hfe, Sem.run_bind, ofValue_func, Result.andThen_ok, invoke]
      exact run_callFunc h.1
    simp only [Oper.wp, this, Oper.upon]
    refine hcall.mono ?_
    rintro en w' ⟨r, C', H', hq, hw, hE, hH', hr⟩
    subst hw
    cases r with
    | ret v =>
      obtain ⟨y, rfl, hv⟩ := hr
      exact nextOk_put hS hE hH' hv hd hq
    | panic v =>
      obtain ⟨y, rfl, hv⟩ := hr
      exact hQ v H' C' y hq hE hH' hv
  · rename_i t ho
    exact evA_next hS hd (by rw [ho]; exact h)
  · rename_i t x ho
    exact evA_next hS hd (by rw [ho]; exact h)
  · rename_i t n parts ho
    split at h
    · exact evL_next hS hd (by rw [ho]; exact h)
    · exact evA_next hS hd (by rw [ho]; exact h)
  · rename_i t r ho
    exact evA_next hS hd (by rw [ho]; exact h)
  · rename_i t m key x ho
    obtain ⟨H', w', hk, hrun, hE, hH'⟩ := evMapUpdate_sound (P := P) hH (rel_ope hS m) (rel_ope hS key) (rel_ope hS x) h
    have : (execOp a.eval o).run P C.w = .ok .skip w' := by simp [execOp, ho, hrun]
    simp only [Oper.wp, this, Oper.upon]
    exact nextOk_put (C' := { C with w := w' }) (v := .tuple []) (x := undef) hS hE hH' ⟨#[], rfl, rfl⟩ hd hk
  · rename_i t m key x ho
    obtain ⟨H', w', hk, hrun, hE, hH'⟩ := evMapUpdate_sound (P := P) hH (rel_ope hS m) (rel_ope hS key) (rel_ope hS x) h
    have : (execOp a.eval o).run P C.w = .ok .skip w' := by simp [execOp, ho, hrun]
    simp only [Oper.wp, this, Oper.upon]
    exact nextOk_put (C' := { C with w := w' }) (v := .tuple []) (x := undef) hS hE hH' ⟨#[], rfl, rfl⟩ hd hk
  · exact evV_next hS hd h

/-! ### regions -/
def guardVal (ops : Array Oper) (e : Env) (j : Nat) : AV :=
  match (ops[j]?).bind (·.dst) with
  | some d => e.get d
  | none => .any
def awpOps (P : Program) (O : LitO) (ops : Array Oper) : List Oper → (Env → Heap → Prop) → (AV → Env → Heap → Prop) → Env → Heap → Prop
  | [], K, _, e, H => K e H
  | o :: r, K, Kp, e, H => match o.guard with
    | none => evOp P O H (ope e) o.op (fun v H' => awpOps P O ops r K Kp (putE o.dst v e) H') (fun v H' => Kp v e H')
    | some (j, want) => match guardVal ops e j with
      | .bool b => (b = want → evOp P O H (ope e) o.op (fun v H' => awpOps P O ops r K Kp (putE o.dst v e) H') (fun v H' => Kp v e H')) ∧
          (b ≠ want → awpOps P O ops r K Kp (putE o.dst (.tuple []) e) H)
      | .tuple [] => awpOps P O ops r K Kp (putE o.dst (.tuple []) e) H
      | _ => False
/-- how the machine's exits are told -/
inductive AX where
  | normal | exit (id : Nat) | goto (l : Nat) | ret | panic (v : AV)
def XRel (C : Ctx) : AX → Exit → Prop
  | .normal, x => x = .normal
  | .exit id, x => x = .exit id
  | .goto l, x => x = .goto l
  | .ret, x => x = .ret
  | .panic v, x => ∃ y, x = .panic [{ v := y, recovered := false }] ∧ Rel C v y
/-- the state behind, from the context C0 in which the function was entered -/
def Post (C0 : Ctx) (n : Nat) (Q : AX → Env → Heap → Prop) : Exit → Act → World → Prop :=
  fun ex a w => ∃ x C e H, Q x e H ∧ XRel C x ex ∧ Ext C0 C ∧ C.w = w ∧ SRel C e H a w ∧ a.tmps.size = n
theorem yielded_guard {C : Ctx} {ops : Array Oper} {e : Env} {H : Heap} {a : Act} {j : Nat} {b : Bool} (hS : SRel C e H a C.w) (h : guardVal ops e j = .bool b) : yielded ops a.tmps j = some b := by
  unfold guardVal at h
  cases hd : (ops[j]?).bind (·.dst) with
  | none => simp [hd] at h
  | some d =>
    simp only [hd] at h
    have := hS.env d
    rw [h] at this
    simp only [Rel] at this
    have hd' : a.tmps[d]? = some (.bool b) := by
      rw [Array.getD_eq_getD_getElem?] at this
      cases h1 : a.tmps[d]? with
      | none => rw [h1] at this; cases this
      | some x => rw [h1] at this; simp at this; rw [this]
    simp only [yielded, hd, Option.bind_some, hd']
theorem yielded_skip {C : Ctx} {ops : Array Oper} {e : Env} {H : Heap} {a : Act} {j : Nat} (hS : SRel C e H a C.w) (h : guardVal ops e j = .tuple []) : yielded ops a.tmps j = none := by
  unfold guardVal at h
  cases hd : (ops[j]?).bind (·.dst) with
  | none => simp [hd] at h
  | some d =>
    simp only [hd] at h
    have := hS.env d
    rw [h] at this
    obtain ⟨vs, hv, hvs⟩ := this
    rw [Array.getD_eq_getD_getElem?] at hv
    simp only [yielded, hd, Option.bind_some]
    cases h1 : a.tmps[d]? with
    | none => rfl
    | some x => rw [h1] at hv; simp at hv; rw [hv]
/-- the slots that are written lie in the frame -/
def dstOk (n : Nat) (o : Oper) : Bool := match o.dst with
  | some t => decide (t < n)
  | none => true
theorem awpOps_sound {ops : Array Oper} {n : Nat} {C0 : Ctx} {Q : AX → Env → Heap → Prop} (hL0 : LibOk P C0) : ∀ (l : List Oper) {C : Ctx} {e : Env} {H : Heap} {a : Act}, Ext C0 C → SRel C e H a C.w → a.tmps.size = n → l.all (dstOk n) = true →
    awpOps P O ops l (Q .normal) (fun v => Q (.panic v)) e H → wpList P ops (Post C0 n Q) l a C.w
  | [], C, e, H, a, hE, hS, hn, _, h => ⟨.normal, C, e, H, h, rfl, hE, rfl, hS, hn⟩
  | o :: r, C, e, H, a, hE, hS, hn, hl, h => by
    simp only [List.all_cons, Bool.and_eq_true] at hl
    have hd : ∀ t, o.dst = some t → t < a.tmps.size := by
      intro t ht
      have := hl.1
      simp only [dstOk, ht, decide_eq_true_eq] at this
      rw [hn]; exact this
    have run : evOp P O H (ope e) o.op (fun v H' => awpOps P O ops r (Q .normal) (fun v => Q (.panic v)) (putE o.dst v e) H') (fun v H' => Q (.panic v) e H') → o.wp P a C.w (wpList P ops (Post C0 n Q) r) (Post C0 n Q) := by
      intro h
      have := evOp_sound (Q := Post C0 n Q) (hL0.ext hE) hS hd h (fun v H' C' x hk hE' hH' hv => ⟨.panic v, C', e, H', hk, ⟨x, rfl, hv⟩, hE.trans hE', rfl, ⟨rfl, hH', fun t => Rel.mono hE' _ _ (hS.env t), hS.defers⟩, hn⟩)
      refine Oper.wp_mono ?_ this
      rintro a' w' ⟨v, H', C', hk, hw, hE', hS', hn'⟩
      subst hw
      exact awpOps_sound hL0 r (hE.trans hE') hS' (hn'.trans hn) hl.2 hk
    simp only [wpList]
    simp only [awpOps] at h
    split at h
    · rename_i hg
      simp only [Region.wanted, hg, if_true]
      exact .inl (run h)
    · rename_i j want hg
      split at h <;> first | exact h.elim | skip
      rotate_left
      · rename_i hb
        have hy := yielded_skip hS hb
        have : ¬ (Region.wanted o (yielded ops a.tmps) = true) := by simp [Region.wanted, hg, hy]
        rw [if_neg this]
        have hS' : SRel C (putE o.dst (.tuple []) e) H (a.put o.dst undef) C.w :=
          hS.put (d := o.dst) (v := .tuple []) (x := undef) (Ext.refl C) hS.heap rfl ⟨#[], rfl, rfl⟩ hd
        exact awpOps_sound hL0 r hE hS' ((put_size ..).trans hn) hl.2 h
      rename_i b hb
      have hy := yielded_guard hS hb
      by_cases hbw : b = want
      · have : Region.wanted o (yielded ops a.tmps) = true := by simp [Region.wanted, hg, hy, hbw]
        rw [if_pos this]
        exact .inl (run (h.1 hbw))
      · have : ¬ (Region.wanted o (yielded ops a.tmps) = true) := by simp [Region.wanted, hg, hy, hbw]
        rw [if_neg this]
        have hS' : SRel C (putE o.dst (.tuple []) e) H (a.put o.dst undef) C.w :=
          hS.put (d := o.dst) (v := .tuple []) (x := undef) (Ext.refl C) hS.heap rfl ⟨#[], rfl, rfl⟩ hd
        exact awpOps_sound hL0 r hE hS' ((put_size ..).trans hn) hl.2 (h.2 hbw)
end
end Go.Sim

namespace Go.Sim
variable {P : Program} {H : Heap} {k : AV → Prop}
theorem ldCells_det {i : Option (Bool × Nat)} {cs : List AV} (h : ldCells i cs k) : ∃ v, ldCells i cs (· = v) ∧ k v := by
  unfold ldCells at h ⊢
  split at h
  · exact ⟨_, ⟨h.1, rfl⟩, h.2⟩
  · split at h
    · exact ⟨_, rfl, h⟩
    · exact h.elim
  · exact h.elim
theorem elemCells_det {v : AV} {kl : List AV → Prop} (h : elemCells v kl) : ∃ cs, elemCells v (· = cs) ∧ kl cs := by
  cases v <;> first | exact h.elim | exact ⟨_, rfl, h⟩
theorem evLoad_det {t : TypeId} {p : AV} (h : evLoad P H t p k) : ∃ v, evLoad P H t p (· = v) ∧ k v := by
  unfold evLoad at h ⊢
  split at h
  · exact ldCells_det h
  · split at h
    · exact ldCells_det h
    · exact h.elim
  · split at h
    · obtain ⟨h1, h2, h3, h4⟩ := h
      obtain ⟨cs, h5, h6⟩ := elemCells_det h4
      obtain ⟨v, h7, h8⟩ := ldCells_det h6
      refine ⟨v, ⟨h1, h2, h3, ?_⟩, h8⟩
      revert h5
      cases (List.getD _ _ AV.any) <;> intro h5 <;> first | exact h5.elim | (cases h5; exact h7)
    · exact h.elim
  · exact h.elim
theorem evNilCheck_det {x : AV} (h : evNilCheck x k) : ∃ v, evNilCheck x (· = v) ∧ k v := by
  unfold evNilCheck at h ⊢
  split at h <;> first | exact h.elim | exact ⟨_, rfl, h⟩
theorem evUn_det {op : UnOp} {x : AV} (h : evUn op x k) : ∃ v, evUn op x (· = v) ∧ k v := by
  unfold evUn at h ⊢
  split at h <;> first | exact h.elim | exact ⟨_, rfl, h⟩
theorem evFieldAddr_det {o : Option Nat} {x : AV} (h : evFieldAddr o x k) : ∃ v, evFieldAddr o x (· = v) ∧ k v := by
  unfold evFieldAddr at h ⊢
  split at h <;> first | exact h.elim | exact ⟨_, rfl, h⟩
theorem evField_det {i : Option (Nat × Option (Bool × Nat))} {x : AV} (h : evField i x k) : ∃ v, evField i x (· = v) ∧ k v := by
  unfold evField at h ⊢
  split at h <;> first | exact h.elim | exact ldCells_det h
theorem evLen_det {kd : Nat} {x : AV} (h : evLen kd x k) : ∃ v, evLen kd x (· = v) ∧ k v := by
  unfold evLen at h ⊢
  split at h <;> first | exact h.elim | exact ⟨_, rfl, h⟩ | skip
  split at h <;> first | exact h.elim | exact ⟨_, rfl, h⟩
theorem evInt_det {op : BinOp} {kx ky : IntKind} {a b : Int} (h : evInt op kx a ky b k) : ∃ v, evInt op kx a ky b (· = v) ∧ k v := by
  cases op <;> simp only [evInt] at h ⊢ <;> first | exact h.elim | exact ⟨_, ⟨h.1, rfl⟩, h.2⟩ | exact ⟨_, ⟨h.1, h.2.1, rfl⟩, h.2.2⟩
theorem evStr_det {op : BinOp} {a b : List UInt8} (h : evStr op a b k) : ∃ v, evStr op a b (· = v) ∧ k v := by
  cases op <;> simp only [evStr] at h ⊢ <;> first | exact h.elim | exact ⟨_, rfl, h⟩ | exact ⟨_, ⟨h.1, rfl⟩, h.2⟩
end Go.Sim

namespace Go.Sim
variable {P : Program} {H : Heap} {k : AV → Prop}
theorem evPtrEq_det {l o l' o' : Nat} {k : Bool → Prop} (h : evPtrEq H l o l' o' k) : ∃ r, evPtrEq H l o l' o' (· = r) ∧ k r := by
  unfold evPtrEq at h ⊢
  by_cases hl : l = l'
  · simp only [if_pos hl] at h ⊢
    exact ⟨_, rfl, h⟩
  · simp only [if_neg hl] at h ⊢
    split at h <;> first | exact h.elim | exact ⟨_, rfl, h⟩
theorem evPtrEq_mono {l o l' o' : Nat} {p q : Bool → Prop} (hpq : ∀ b, p b → q b) (h : evPtrEq H l o l' o' p) : evPtrEq H l o l' o' q := by
  unfold evPtrEq at h ⊢
  by_cases hl : l = l'
  · simp only [if_pos hl] at h ⊢
    exact hpq _ h
  · simp only [if_neg hl] at h ⊢
    split at h <;> first | exact h.elim | exact hpq _ h
theorem evBin_det {op : BinOp} {t : TypeId} {c : Bool} {x y : AV} (h : evBin P H op t c x y k) : ∃ v, evBin P H op t c x y (· = v) ∧ k v := by
  unfold evBin at h ⊢
  split at h
  · exact evInt_det h
  · exact evStr_det h
  · obtain ⟨h1, h2, h3⟩ := h
    split at h3 <;> first | exact h3.elim | exact ⟨_, ⟨h1, h2, rfl⟩, h3⟩
  · obtain ⟨h1, h2⟩ := h
    obtain ⟨r, h3, h4⟩ := evPtrEq_det h2
    cases op <;> first | exact h4.elim | exact ⟨_, ⟨h1, evPtrEq_mono (fun b hb => by rw [hb]) h3⟩, h4⟩
  · split at h <;> first | exact h.elim | skip
    obtain ⟨r, h3, h4⟩ := aggAll_det h
    cases op <;> first | exact h4.elim | exact ⟨_, aggAll_mono (fun b hb => by rw [hb]) h3, h4⟩
  · split at h <;> first | exact h.elim | exact ⟨_, rfl, h⟩
theorem evExtract_det {x : AV} {i : Nat} (h : evExtract x i k) : ∃ v, evExtract x i (· = v) ∧ k v := by
  unfold evExtract at h ⊢
  split at h <;> first | exact h.elim | skip
  split at h <;> first | exact h.elim | exact ⟨_, rfl, h⟩
theorem evConv_det {kd : ConvKind} {x : AV} (h : evConv H kd x k) : ∃ v, evConv H kd x (· = v) ∧ k v := by
  unfold evConv at h ⊢
  split at h <;> first | exact h.elim | exact ⟨_, rfl, h⟩ | skip
  all_goals split at h <;> first | exact h.elim | exact ⟨_, ⟨h.1, h.2.1, rfl⟩, h.2.2⟩ | exact ⟨_, ⟨h.1, rfl⟩, h.2⟩
theorem evIndex_det {kd : Nat} {x i : AV} (h : evIndex kd x i k) : ∃ v, evIndex kd x i (· = v) ∧ k v := by
  unfold evIndex at h ⊢
  split at h <;> first | exact h.elim | exact ⟨_, ⟨h.1, h.2.1, rfl⟩, h.2.2⟩
theorem evMinMax_det {mn : Bool} {kd : IntKind} : ∀ {xs : List AV} {a : Int}, evMinMax mn kd a xs k → ∃ v, evMinMax mn kd a xs (· = v) ∧ k v
  | [], a, h => ⟨_, rfl, h⟩
  | x :: xs, a, h => by
    cases x <;> first | exact h.elim | exact evMinMax_det (xs := xs) h
theorem evSlice_det {kd : Nat} {es : Option Nat} {x : AV} {lo hi mx : Option AV} (h : evSlice kd es x lo hi mx k) : ∃ v, evSlice kd es x lo hi mx (· = v) ∧ k v := by
  unfold evSlice at h ⊢
  split at h <;> first | exact h.elim | skip
  all_goals
    split at h <;> first | exact h.elim | skip
  all_goals first
    | exact ⟨_, ⟨h.1, h.2.1, h.2.2.1, rfl⟩, h.2.2.2⟩
    | exact ⟨_, ⟨h.1, h.2.1, h.2.2.1, h.2.2.2.1, rfl⟩, h.2.2.2.2⟩
theorem evIndexAddr_det {es : Option Nat} {x i : AV} (h : evIndexAddr H es x i k) : ∃ v, evIndexAddr H es x i (· = v) ∧ k v := by
  unfold evIndexAddr at h ⊢
  split at h <;> first | exact h.elim | skip
  · obtain ⟨h1, h2, h3, h4⟩ := h
    obtain ⟨cs, h5, h6⟩ := elemCells_det h4
    refine ⟨_, ⟨h1, h2, h3, ?_⟩, h6⟩
    revert h5
    cases (List.getD _ _ AV.any) <;> intro h5 <;> first | exact h5.elim | (cases h5; rfl)
  · split at h <;> first | exact h.elim | exact ⟨_, ⟨h.1, h.2.1, h.2.2.1, h.2.2.2.1, h.2.2.2.2.1, rfl⟩, h.2.2.2.2.2⟩
theorem evIdx_det {an es : Option Nat} {x i : AV} (h : evIdx H an es x i k) : ∃ v, evIdx H an es x i (· = v) ∧ k v := by
  unfold evIdx at h ⊢
  cases an with
  | none => exact evIndexAddr_det h
  | some len =>
    simp only at h ⊢
    split at h <;> first | exact h.elim | exact ⟨_, ⟨h.1, h.2.1, rfl⟩, h.2.2⟩
theorem evSl_det {an : Option Nat} {kd : Nat} {es : Option Nat} {x : AV} {lo hi mx : Option AV} (h : evSl H an kd es x lo hi mx k) : ∃ v, evSl H an kd es x lo hi mx (· = v) ∧ k v := by
  unfold evSl at h ⊢
  cases an with
  | none => exact evSlice_det h
  | some len =>
    simp only at h ⊢
    split at h <;> first | exact h.elim | skip
    split at h <;> first | exact h.elim | exact ⟨_, ⟨h.1, h.2.1, h.2.2.1, h.2.2.2.1, h.2.2.2.2.1, rfl⟩, h.2.2.2.2.2⟩
end Go.Sim
namespace Go.Sim
theorem aFill_det {pl : List (Nat × Nat)} {k : List AV → Prop} : ∀ {ps : List (Nat × AV)} {cells : List AV}, aFill pl cells ps k → ∃ cs, aFill pl cells ps (· = cs) ∧ k cs
  | [], cells, h => ⟨cells, rfl, h⟩
  | (i, v) :: r, cells, h => by
    simp only [aFill] at h ⊢
    split at h
    · obtain ⟨cs, h1, h2, h3, h4⟩ := elemCells_det h
      obtain ⟨cs', h5, h6⟩ := aFill_det h4
      refine ⟨cs', ?_, h6⟩
      revert h1
      cases v <;> intro h1 <;> first | exact h1.elim | (cases h1; exact ⟨h2, h3, h5⟩)
    · exact h.elim
theorem evX_det {P : Program} {H : Heap} {ρ : Operand → AV} {o : Op} {k : AV → Prop} (h : evX P H ρ o k) : ∃ v, evX P H ρ o (· = v) ∧ k v := by
  unfold evX at h ⊢
  split at h
  · unfold evBuild at h ⊢
    split at h
    · obtain ⟨cs, h1, h2⟩ := aFill_det h
      refine ⟨_, ?_, h2⟩
      have : (fun cs' : List AV => AV.agg cs' = AV.agg cs) = (· = cs) := by funext cs'; simp
      rw [this]; exact h1
    · exact h.elim
  · unfold evLookup at h ⊢
    split at h
    · obtain ⟨h1, h2⟩ := h
      split at h2
      · exact ⟨_, ⟨h1, rfl⟩, h2⟩
      · exact ⟨_, ⟨h1, rfl⟩, h2⟩
      · exact h2.elim
    · exact h.elim
  · unfold evAssert at h ⊢
    split at h
    · split at h
      · exact ⟨_, rfl, h⟩
      · exact ⟨_, ⟨h.1, rfl⟩, h.2⟩
      · exact h.elim
    · exact ⟨_, ⟨h.1, rfl⟩, h.2⟩
    · exact h.elim
  · exact h.elim
theorem evV_det {P : Program} {H : Heap} {ρ : Operand → AV} {o : Op} {k : AV → Prop} (h : evV P H ρ o k) : ∃ v, evV P H ρ o (· = v) ∧ k v := by
  unfold evV at h ⊢
  split at h <;> first
    | exact h.elim
    | exact ⟨_, rfl, h⟩
    | exact evLoad_det h
    | exact evNilCheck_det h
    | exact evBin_det h
    | exact evUn_det h
    | exact evConv_det h
    | exact ⟨_, ⟨h.1, rfl⟩, h.2⟩
    | exact evSl_det h
    | exact evFieldAddr_det h
    | exact evField_det h
    | exact evIdx_det h
    | exact evIndex_det h
    | exact evExtract_det h
    | exact evLen_det h
    | exact evX_det h
    | skip
  all_goals
    split at h <;> first | exact h.elim | exact ⟨_, rfl, h⟩ | exact evMinMax_det h
end Go.Sim

namespace Go.Sim
theorem evA_det {P : Program} {ρ : Operand → AV} {o : Op} {loc : Nat} {k : AV → AObj → Prop} (h : evA P ρ o loc k) : ∃ v obj, evA P ρ o loc (fun v' o' => v' = v ∧ o' = obj) ∧ k v obj := by
  unfold evA at h ⊢
  split at h
  · split at h <;> first | exact h.elim | skip
    split at h
    · exact ⟨_, _, ⟨rfl, rfl⟩, h⟩
    · exact ⟨_, _, ⟨h.1, h.2.1, h.2.2.1, rfl, rfl⟩, h.2.2.2⟩
  · obtain ⟨cs, h5, h6⟩ := elemCells_det h
    refine ⟨_, _, ?_, h6⟩
    revert h5
    cases (ρ _) <;> intro h5 <;> first | exact h5.elim | (cases h5; exact ⟨rfl, rfl⟩)
  · split at h
    · obtain ⟨h1, h2, h3, h4, h5, h6⟩ := h
      exact ⟨_, _, ⟨h1, h2, h3, h4, h5, rfl, rfl⟩, h6⟩
    · exact h.elim
  · split at h <;> first | exact h.elim | exact ⟨_, _, ⟨rfl, rfl⟩, h⟩
  · exact h.elim
theorem evL_det {P : Program} {ρ : Operand → AV} {o : Op} {k : AV → Prop} (h : evL P ρ o k) : ∃ v, evL P ρ o (· = v) ∧ k v := by
  unfold evL at h ⊢
  split at h
  · split at h
    · obtain ⟨h1, h2, h3, h4, h5, h6⟩ := h
      exact ⟨_, ⟨h1, h2, h3, h4, h5, rfl⟩, h6⟩
    · exact h.elim
  · exact h.elim
end Go.Sim

namespace Go.Sim
/-! ### what an operation looks at -/
def Agree (ρ ρ' : Operand → AV) (xs : List Operand) : Prop := ∀ x ∈ xs, ρ x = ρ' x
theorem Agree.cons {ρ ρ' : Operand → AV} {x : Operand} {xs : List Operand} : Agree ρ ρ' (x :: xs) ↔ ρ x = ρ' x ∧ Agree ρ ρ' xs := by simp [Agree]
theorem Agree.nil {ρ ρ' : Operand → AV} : Agree ρ ρ' [] ↔ True := by simp [Agree]
theorem Agree.append {ρ ρ' : Operand → AV} {xs ys : List Operand} : Agree ρ ρ' (xs ++ ys) ↔ Agree ρ ρ' xs ∧ Agree ρ ρ' ys := by
  simp only [Agree, List.mem_append]
  exact ⟨fun h => ⟨fun x hx => h x (.inl hx), fun x hx => h x (.inr hx)⟩, fun h x hx => hx.elim (h.1 x) (h.2 x)⟩
theorem Agree.map {ρ ρ' : Operand → AV} {xs : List Operand} (h : Agree ρ ρ' xs) : xs.map ρ = xs.map ρ' := List.map_congr_left h
theorem Agree.opt {ρ ρ' : Operand → AV} {x : Option Operand} (h : Agree ρ ρ' x.toList) : x.map ρ = x.map ρ' := by
  cases x with
  | none => rfl
  | some x => simp [Agree] at h; simp [h]
theorem Agree.symm {ρ ρ' : Operand → AV} {xs : List Operand} (h : Agree ρ ρ' xs) : Agree ρ' ρ xs := fun x hx => (h x hx).symm
theorem Agree.parts {ρ ρ' : Operand → AV} {ps : List (Nat × Operand)} (h : Agree ρ ρ' (ps.map (·.2))) : (ps.map fun p => (p.1, ρ p.2)) = ps.map fun p => (p.1, ρ' p.2) := by
  apply List.map_congr_left
  intro p hp
  rw [h p.2 (List.mem_map.2 ⟨p, hp, rfl⟩)]
theorem evX_congr {P : Program} {H : Heap} {ρ ρ' : Operand → AV} {o : Op} {k : AV → Prop} (hρ : Agree ρ ρ' o.operands.toList) (h : evX P H ρ o k) : evX P H ρ' o k := by
  unfold evX at h ⊢
  split at h
  all_goals simp only [Op.operands, Agree.cons, Agree.nil, and_true] at hρ
  · rw [← hρ.parts]; exact h
  · rw [← hρ.1, ← hρ.2]; exact h
  · rw [← hρ]; exact h
  · exact h.elim
theorem evV_congr {P : Program} {H : Heap} {ρ ρ' : Operand → AV} {o : Op} {k : AV → Prop} (hρ : Agree ρ ρ' o.operands.toList) (h : evV P H ρ o k) : evV P H ρ' o k := by
  unfold evV at h ⊢
  split at h
  all_goals try simp only [Op.operands, Call.operands, Agree.cons, Agree.nil, Agree.append, Array.toList_append, and_true, Option.toList_toArray, List.append_nil, List.cons_append, List.nil_append] at hρ
  all_goals first
    | exact h.elim
    | exact evX_congr (by assumption) h
    | (simp only [← hρ]; exact h)
    | (simp only [← hρ.1, ← hρ.2]; exact h)
    | (simp only [← hρ.1, ← hρ.2.1, ← hρ.2.2]; exact h)
    | (simp only [← hρ.1.map, ← hρ.2.map]; exact h)
    | (simp only [← hρ.1, ← hρ.2.map]; exact h)
    | (simp only [← hρ.1, ← hρ.2.1.1.opt, ← hρ.2.1.2.opt, ← hρ.2.2.opt]; exact h)
theorem evA_congr {P : Program} {ρ ρ' : Operand → AV} {o : Op} {loc : Nat} {k : AV → AObj → Prop} (hρ : Agree ρ ρ' o.operands.toList) (h : evA P ρ o loc k) : evA P ρ' o loc k := by
  unfold evA at h ⊢
  split at h
  · exact h
  · simp only [Op.operands, Agree.cons, Agree.nil, and_true] at hρ
    rw [← hρ]; exact h
  · rename_i t n parts
    have e : parts.toList.map (fun p => ρ p.2) = parts.toList.map (fun p => ρ' p.2) := by
      apply List.map_congr_left
      intro p hp
      refine hρ p.2 ?_
      simp only [Op.operands]
      exact List.mem_map.2 ⟨p, hp, rfl⟩
    simp only [← e]; exact h
  · rename_i t r
    have e : r.map ρ = r.map ρ' := Agree.opt (by simpa only [Op.operands, Option.toList_toArray] using hρ)
    rw [← e]; exact h
  · exact h.elim
theorem evL_congr {P : Program} {ρ ρ' : Operand → AV} {o : Op} {k : AV → Prop} (hρ : Agree ρ ρ' o.operands.toList) (h : evL P ρ o k) : evL P ρ' o k := by
  unfold evL at h ⊢
  split at h
  · rename_i t n parts
    have e : parts.toList.map (fun p => ρ p.2) = parts.toList.map (fun p => ρ' p.2) := by
      apply List.map_congr_left
      intro p hp
      refine hρ p.2 ?_
      simp only [Op.operands]
      exact List.mem_map.2 ⟨p, hp, rfl⟩
    simp only [← e]; exact h
  · exact h.elim
theorem evOp_congr {P : Program} {O : LitO} {H : Heap} {ρ ρ' : Operand → AV} {o : Op} {K Kp : AV → Heap → Prop} (hρ : Agree ρ ρ' o.operands.toList) (h : evOp P O H ρ o K Kp) : evOp P O H ρ' o K Kp := by
  unfold evOp at h ⊢
  split at h
  · simp only [Op.operands, Agree.cons, Agree.nil, and_true] at hρ
    rw [← hρ.1, ← hρ.2]; exact h
  · simp only [Op.operands, Agree.cons, Agree.nil, and_true] at hρ
    rw [← hρ]; exact h
  · simp only [Op.operands, Call.operands, Agree.cons, Agree.nil, Agree.append, Array.toList_append, and_true, true_and] at hρ
    rw [← hρ.1, ← hρ.2]; exact h
  · simp only [Op.operands, Call.operands, Agree.cons, Agree.nil, Agree.append, Array.toList_append, and_true, true_and] at hρ
    rw [← hρ]; exact h
  · simp only [Op.operands, Call.operands, Agree.cons, Agree.nil, Agree.append, Array.toList_append, and_true, true_and] at hρ
    rw [← hρ.1, ← hρ.2]; exact h
  · simp only [Op.operands, Call.operands, Agree.cons, Agree.nil, Agree.append, Array.toList_append, and_true, true_and] at hρ
    rw [← hρ.1, ← hρ.2.map]; exact h
  · exact evA_congr hρ h
  · exact evA_congr hρ h
  · split at h
    · rename_i ho; rw [if_pos ho]; exact evL_congr hρ h
    · rename_i ho; rw [if_neg ho]; exact evA_congr hρ h
  · exact evA_congr hρ h
  · simp only [Op.operands, Agree.cons, Agree.nil, and_true] at hρ
    rw [← hρ.1, ← hρ.2.1, ← hρ.2.2]; exact h
  · simp only [Op.operands, Agree.cons, Agree.nil, and_true] at hρ
    rw [← hρ.1, ← hρ.2.1, ← hρ.2.2]; exact h
  · exact evV_congr hρ h
/-! ### heaps that only grow -/
theorem Heap.get_more {H : Heap} {x : Option AObj} {l : Nat} {o : AObj} (h : H.get l = some o) : Heap.get (H ++ [x]) l = some o := by
  have := Heap.get_lt h
  rw [Heap.get_push_ne (by omega)]; exact h
theorem elemsOf_more {H : Heap} {x : Option AObj} {v : AV} {r : Nat × List AV} (h : elemsOf H v = some r) : elemsOf (H ++ [x]) v = some r := by
  cases v <;> simp only [elemsOf] at h ⊢ <;> first | exact h | skip
  rename_i sz l i n
  cases hg : H.get l with
  | none => simp [hg] at h
  | some o => rw [Heap.get_more hg]; rw [hg] at h; exact h
theorem mapSel_more {H : Heap} {x : Option AObj} {v : AV} {r : List AV × List AV} (h : mapSel H v = some r) : mapSel (H ++ [x]) v = some r := by
  cases v <;> simp only [mapSel] at h ⊢ <;> first | exact h | skip
  rename_i l
  cases hg : H.get l with
  | none => simp [hg] at h
  | some o => rw [Heap.get_more hg]; rw [hg] at h; exact h
theorem evX_more {P : Program} {H : Heap} {x : Option AObj} {ρ : Operand → AV} {o : Op} {k : AV → Prop} (h : evX P H ρ o k) : evX P (H ++ [x]) ρ o k := by
  unfold evX at h ⊢
  split at h
  · exact h
  · unfold evLookup at h ⊢
    split at h
    · rename_i h1 h2 hsel
      simp only [h1, h2, mapSel_more hsel]; exact h
    · exact h.elim
  · exact h
  · exact h.elim
theorem evV_more {P : Program} {H : Heap} {x : Option AObj} {ρ : Operand → AV} {o : Op} {k : AV → Prop} (h : evV P H ρ o k) : evV P (H ++ [x]) ρ o k := by
  unfold evV at h ⊢
  split at h
  all_goals first
    | exact h
    | exact evX_more h
    | skip
  · unfold evLoad at h ⊢
    split at h <;> first | exact h | skip
    all_goals
      split at h <;> first | exact h.elim | skip
      rename_i hg
      rw [Heap.get_more hg]
      exact h
  · rename_i op t x y ty
    generalize ρ x = vx at h ⊢
    generalize ρ y = vy at h ⊢
    generalize (isConst x || isConst y) = c at h ⊢
    unfold evBin at h ⊢
    split at h <;> first | exact h | skip
    obtain ⟨h1, h2⟩ := h
    refine ⟨h1, ?_⟩
    unfold evPtrEq at h2 ⊢
    rename_i l o l' o'
    by_cases hl : l = l'
    · simp only [if_pos hl] at h2 ⊢; exact h2
    · simp only [if_neg hl] at h2 ⊢
      split at h2 <;> first | exact h2.elim | skip
      rename_i hg hg'
      rw [Heap.get_more hg, Heap.get_more hg']
      exact h2
  · rename_i sd dd xx
    generalize convKind P sd dd = kd at h ⊢
    generalize ρ xx = v at h ⊢
    unfold evConv at h ⊢
    split at h
    · exact h
    · exact h
    · split at h
      · rename_i heq
        rw [elemsOf_more heq]; exact h
      · exact h.elim
    · split at h <;> first | exact h.elim | skip
      rename_i hg
      rw [Heap.get_more hg]; exact h
    · split at h <;> first | exact h.elim | skip
      rename_i hg
      rw [Heap.get_more hg]; exact h
    · exact h.elim
  · rename_i t xo lo hi mx
    unfold evSl at h ⊢
    generalize arrN P t = an at h ⊢
    cases an with
    | none => exact h
    | some len =>
      simp only at h ⊢
      split at h <;> first | exact h.elim | skip
      split at h <;> first | exact h.elim | skip
      rename_i hg
      rw [Heap.get_more hg]
      exact h
  · rename_i t xo io
    unfold evIdx at h ⊢
    generalize arrN P t = an at h ⊢
    cases an with
    | some len => exact h
    | none =>
      simp only at h ⊢
      unfold evIndexAddr at h ⊢
      split at h <;> first | exact h | skip
      split at h <;> first | exact h.elim | skip
      rename_i hg
      rw [Heap.get_more hg]
      exact h
end Go.Sim

namespace Go.Sim
/-! ### regions that draw their order: an order is chosen, and it answers for all of them -/
/-- what changes the heap (an object that is made is no effect: no one else knows it) -/
def effB : Op → Bool
  | .call { callee := .builtin .len, .. } | .call { callee := .builtin .min, .. } | .call { callee := .builtin .max, .. } => false
  | .call _ | .store .. | .panic _ | .mapUpdate .. | .insert .. => true
  | _ => false
/-- the order in which the operations are told; with an effect, what may come behind it, too -/
abbrev Plan := List (Nat × Option (List Nat))
def opAt (ops : Array Oper) (i : Nat) : Op := match ops[i]? with
  | some o => o.op
  | none => .move (.const (.bool false))
def preds (b : List (List Nat)) (i : Nat) : List Nat := b.getD i []
/-- each told predecessor is one, by edges -/
def predsOk (ops : Array Oper) (b : List (List Nat)) : Bool := (List.range ops.size).all fun j => (preds b j).all fun i => match ops[j]? with
  | some o => o.after.any fun e => Region.binds .any e && decide (e.on < j) && (e.on == i || (preds b e.on).contains i)
  | none => false
def edgesOk (ops : Array Oper) : Bool := (List.range ops.size).all fun j => match ops[j]? with
  | some o => (o.after.all fun e => !Region.binds .any e || decide (e.on < j)) && (!Go.Sim.Op.makes o.op || o.dst.isSome)
  | none => true
/-- a slot is written by one operation, before all that look at it; or behind them, by one that is told when it runs -/
def slotsOk (ops : Array Oper) (b : List (List Nat)) (lt : List Nat) : Bool := (List.range ops.size).all fun i => match ops[i]? with
  | some oi => match oi.dst with
    | some t => (List.range ops.size).all fun j => match ops[j]? with
      | some oj => (!(oj.looksAt ops).contains t || (preds b j).contains i || (lt.contains i && (preds b i).contains j)) && (i == j || oj.dst != some t)
      | none => true
    | none => true
  | none => true
/-- the operations that are told when they run -/
def lateOf (pl : Plan) : List Nat := pl.filterMap fun g => if g.2.isSome then some g.1 else none
def planOk (ops : Array Oper) (b : List (List Nat)) (lt : List Nat) : List Nat → Plan → Bool
  | done, [] => (List.range ops.size).all done.contains
  | done, (i, fl) :: r => decide (i < ops.size) && !done.contains i && (preds b i).all done.contains &&
    (match fl with
      | none => !effB (opAt ops i) && !lt.contains i
      | some fl => lt.contains i && (done.all fun f => effB (opAt ops f) || (preds b i).contains f || fl.contains f) && r.all fun g => (preds b g.1).contains i) && planOk ops b lt (i :: done) r
def drawOk (ops : Array Oper) (b : List (List Nat)) (pl : Plan) : Bool := predsOk ops b && edgesOk ops && slotsOk ops b (lateOf pl) && planOk ops b (lateOf pl) [] pl
def kOf (d : Option Nat) (E : Env) (v : AV) : Prop := match d with
  | some t => v = E.get t
  | none => True
def AV.loc : AV → Nat
  | .ptr l _ => l
  | .meptr _ l _ _ _ => l
  | .mslice _ l _ _ => l
  | .map l => l
  | _ => 0
def AV.isRef : AV → Bool
  | .ptr _ _ | .mslice _ _ _ _ | .map _ | .meptr _ _ _ _ _ => true
  | _ => false
def refOf (E : Env) (o : Oper) : Bool := match o.dst with
  | some t => (E.get t).isRef
  | none => false
def locOf (E : Env) (o : Oper) : Nat := match o.dst with
  | some t => (E.get t).loc
  | none => 0
/-- whether an operation runs -/
def wantV (ops : Array Oper) (E : Env) (o : Oper) : Option Bool := match o.guard with
  | none => some true
  | some (g, want) => match guardVal ops E g with
    | .bool t => some (t == want)
    | .tuple [] => some false
    | _ => none
/-- what may come behind an effect answers in the later heap as in the earlier one -/
def reOk (P : Program) (ops : Array Oper) (E : Env) (H H' : Heap) (f : Nat) : Prop := match ops[f]? with
  | none => True
  | some o => if Go.Sim.Op.makes o.op = true then wantV ops E o = some true → refOf E o = true → H'.get (locOf E o) = H.get (locOf E o) else wantV ops E o = some true → ∀ v, evV P H (ope E) o.op (· = v) → evV P H' (ope E) o.op (· = v)
def reAll (P : Program) (ops : Array Oper) (E : Env) (H H' : Heap) : List Nat → Prop
  | [] => True
  | f :: r => reOk P ops E H H' f ∧ reAll P ops E H H' r
def hideS : List Nat → Env → Env
  | [], E => E
  | d :: r, E => (d, .any) :: hideS r E
def hideAll (ops : Array Oper) (E : Env) : Env := hideS (ops.toList.filterMap (·.dst)) E
def awpD (P : Program) (O : LitO) (ops : Array Oper) : Plan → (Env → Heap → Prop) → (AV → Env → Heap → Prop) → Env → Heap → Prop
  | [], K, _, E, H => K E H
  | (i, none) :: r, K, Kp, E, H => match ops[i]? with
    | none => False
    | some o => awpOps P O ops [o] (fun e' H' => awpD P O ops r K Kp e' H') (fun v e' H' => Kp v e' H') E H
  | (i, some fl) :: r, K, Kp, E, H => match ops[i]? with
    | none => False
    | some o => awpOps P O ops [o] (fun e' H' => reAll P ops E H H' fl ∧ awpD P O ops r K Kp e' H') (fun v _ H' => Kp v (hideAll ops E) H') E H
theorem hideS_get : ∀ {l : List Nat} {E : Env} {t : Nat}, (hideS l E).get t = if t ∈ l then .any else E.get t
  | [], E, t => by simp [hideS]
  | d :: r, E, t => by
    simp only [hideS, Env.get, List.mem_cons]
    by_cases h : d = t
    · simp [h]
    · rw [if_neg h, hideS_get]
      by_cases h2 : t ∈ r <;> simp [h2, Ne.symm h]

theorem putE_get_ne {d : Option Nat} {v : AV} {E : Env} {t : Nat} (h : d ≠ some t) : (putE d v E).get t = E.get t := by
  cases d with
  | none => rfl
  | some d =>
    simp only [putE, Env.get]
    rw [if_neg]; intro e; exact h (by rw [e])
theorem putE_get {t : Nat} {v : AV} {E : Env} : (putE (some t) v E).get t = v := by simp [putE, Env.get]
theorem kOf_put {d : Option Nat} {v : AV} {E : Env} : kOf d (putE d v E) v := by
  cases d with
  | none => trivial
  | some t => exact putE_get.symm
theorem loc_evA {P : Program} {ρ : Operand → AV} {o : Op} {l : Nat} {k : AV → AObj → Prop} (h : evA P ρ o l k) : ∃ v obj, k v obj ∧ v.loc = l ∧ v.isRef = true := by
  unfold evA at h
  split at h
  · split at h <;> first | exact h.elim | skip
    split at h
    · exact ⟨_, _, h, rfl, rfl⟩
    · exact ⟨_, _, h.2.2.2, rfl, rfl⟩
  · obtain ⟨cs, h1, h2⟩ := elemCells_det h
    exact ⟨_, _, h2, rfl, rfl⟩
  · split at h
    · obtain ⟨_, _, _, _, _, h⟩ := h; exact ⟨_, _, h, rfl, rfl⟩
    · exact h.elim
  · split at h <;> first | exact h.elim | exact ⟨_, _, h, rfl, rfl⟩
  · exact h.elim
/-- the operation's operands and its guard are the same in both -/
theorem looksAt_agree {ops : Array Oper} {o : Oper} {E E' : Env} (h : ∀ t ∈ o.looksAt ops, E'.get t = E.get t) : Agree (ope E) (ope E') o.op.operands.toList := by
  intro x hx
  cases x with
  | tmp t =>
    refine (h t ?_).symm
    unfold Oper.looksAt
    rw [List.mem_append]
    left
    rw [List.mem_filterMap]
    exact ⟨_, hx, rfl⟩
  | const v => rfl
  | global g => rfl
  | func f => rfl
theorem looksAt_guard {ops : Array Oper} {o : Oper} {E E' : Env} {g : Nat} {want : Bool} (hg : o.guard = some (g, want)) (h : ∀ t ∈ o.looksAt ops, E'.get t = E.get t) : guardVal ops E' g = guardVal ops E g := by
  unfold guardVal
  cases hd : (ops[g]?).bind (·.dst) with
  | none => rfl
  | some d =>
    refine h d ?_
    unfold Oper.looksAt
    rw [List.mem_append]
    right
    simp [hg, hd]
theorem wantV_agree {ops : Array Oper} {o : Oper} {E E' : Env} (h : ∀ t ∈ o.looksAt ops, E'.get t = E.get t) : wantV ops E' o = wantV ops E o := by
  unfold wantV
  cases hg : o.guard with
  | none => rfl
  | some p => obtain ⟨g, want⟩ := p; simp only [looksAt_guard hg h]
theorem wanted_of {C : Ctx} {ops : Array Oper} {E : Env} {H : Heap} {a : Act} {w : World} {o : Oper} {t : Bool} (hS : SRel C E H a w) (hw : C.w = w) (h : wantV ops E o = some t) : Region.wanted o (yielded ops a.tmps) = t := by
  subst hw
  unfold wantV at h
  cases hg : o.guard with
  | none => simp [hg] at h; simp [Region.wanted, hg, h]
  | some p =>
    obtain ⟨g, want⟩ := p
    simp only [hg] at h
    split at h <;> first | (cases h; done) | skip
    rotate_left
    · rename_i hb
      have := yielded_skip hS hb
      simp only [Option.some.injEq] at h
      simp only [Region.wanted, hg, this]
      rw [← h]; rfl
    rename_i b hb
    have := yielded_guard hS hb
    simp only [Option.some.injEq] at h
    simp only [Region.wanted, hg, this]
    rw [← h]
    cases b <;> cases want <;> rfl
theorem reAll_self {P : Program} {ops : Array Oper} {E : Env} {H : Heap} : ∀ {l : List Nat}, reAll P ops E H H l
  | [] => trivial
  | f :: r => by
    refine ⟨?_, reAll_self⟩
    unfold reOk
    split
    · trivial
    · split
      · exact fun _ _ => rfl
      · exact fun _ _ h => h
theorem evOp_makes {P : Program} {O : LitO} {H : Heap} {ρ : Operand → AV} {o : Op} {K Kp : AV → Heap → Prop} (hm : Go.Sim.Op.makes o = true) (h : evOp P O H ρ o K Kp) : (evA P ρ o H.length fun v obj => K v (H ++ [some obj])) ∨ evL P ρ o fun v => K v H := by
  cases o <;> first | exact .inl h | skip | (simp [Go.Sim.Op.makes] at hm)
  all_goals first | (simp [Go.Sim.Op.makes] at hm; done) | skip
  simp only [evOp] at h
  split at h
  · exact .inr h
  · exact .inl h
theorem loc_evL {P : Program} {ρ : Operand → AV} {o : Op} {k : AV → Prop} (h : evL P ρ o k) : ∃ v, k v ∧ v.isRef = false := by
  unfold evL at h
  split at h
  · split at h
    · obtain ⟨_, _, _, _, _, h⟩ := h; exact ⟨_, h, by unfold litV; split <;> rfl⟩
    · exact h.elim
  · exact h.elim
theorem evOp_reads {P : Program} {O : LitO} {H : Heap} {ρ : Operand → AV} {o : Op} {K Kp : AV → Heap → Prop} (he : effB o = false) (hm : Go.Sim.Op.makes o = false) (h : evOp P O H ρ o K Kp) : evV P H ρ o fun v => K v H := by
  unfold evOp at h
  split at h <;> first | exact h | (simp [Go.Sim.Op.makes] at hm; done) | (simp [effB] at he; done)
end Go.Sim

namespace Go.Sim
def Todo (P : Program) (ops : Array Oper) (E : Env) (H : Heap) (C : Ctx) (o : Oper) : Prop :=
  ∃ t, wantV ops E o = some t ∧ (t = false → kOf o.dst E (.tuple [])) ∧ (t = true →
    if Go.Sim.Op.makes o.op = true then (refOf E o = true ∧ ∃ v obj, evA P (ope E) o.op (locOf E o) (fun v' ob => v' = v ∧ ob = obj) ∧ kOf o.dst E v ∧ H.get (locOf E o) = some obj ∧ ¬ C.dom (locOf E o) ∧ C.hi ≤ locOf E o) ∨ (refOf E o = false ∧ ∃ v, evL P (ope E) o.op (· = v) ∧ kOf o.dst E v)
    else ∃ v, evV P H (ope E) o.op (· = v) ∧ kOf o.dst E v)
def isL (L : Array Bool) (i : Nat) : Bool := L.getD i false
def madeV (ops : Array Oper) (E : Env) (o : Oper) : Prop := wantV ops E o = some true ∧ Go.Sim.Op.makes o.op = true ∧ refOf E o = true
structure DInv (P : Program) (O : LitO) (ops : Array Oper) (b : List (List Nat)) (lt : List Nat) (C0 : Ctx) (n : Nat) (K : Env → Heap → Prop) (Kp : AV → Env → Heap → Prop) (done : List Nat) (rest : Plan) (L : Array Bool) (a : Act) (C : Ctx) (E : Env) (H : Heap) : Prop where
  ext : Ext C0 C
  heap : HRel C H
  env : ∀ t, (∃ f o, ops[f]? = some o ∧ o.dst = some t ∧ isL L f = false ∧ f ∉ lt) ∨ Rel C (E.get t) (a.tmps.getD t undef)
  defers : a.defers = []
  size : a.tmps.size = n
  lsize : L.size = ops.size
  plan : planOk ops b lt done rest = true
  closed : ∀ f ∈ done, ∀ g ∈ preds b f, g ∈ done
  todo : ∀ f ∈ done, isL L f = false → ∀ o, ops[f]? = some o → effB o.op = false ∧ Todo P ops E H C o
  apart : ∀ f ∈ done, ∀ g ∈ done, isL L f = false → isL L g = false → f ≠ g → ∀ o o', ops[f]? = some o → ops[g]? = some o' → madeV ops E o → madeV ops E o' → locOf E o ≠ locOf E o'
  fresh : ∀ g ∈ rest, isL L g.1 = false
  down : ∀ j, isL L j = true → ∀ i ∈ preds b j, isL L i = true
  run : awpD P O ops rest K Kp E H
theorem slots_spec {ops : Array Oper} {b : List (List Nat)} {lt : List Nat} (h : slotsOk ops b lt = true) {i j : Nat} {oi oj : Oper} {t : Nat} (hi : ops[i]? = some oi) (hj : ops[j]? = some oj) (ht : oi.dst = some t) :
    (t ∈ oj.looksAt ops → i ∈ preds b j ∨ (i ∈ lt ∧ j ∈ preds b i)) ∧ (i = j ∨ oj.dst ≠ some t) := by
  simp only [slotsOk, List.all_eq_true, List.mem_range] at h
  have h1 := h i (Array.getElem?_eq_some_iff.1 hi).1
  simp only [hi, ht, List.all_eq_true, List.mem_range] at h1
  have h2 := h1 j (Array.getElem?_eq_some_iff.1 hj).1
  simp only [hj, Bool.and_eq_true, Bool.or_eq_true, Bool.not_eq_true', beq_iff_eq, bne_iff_ne, List.contains_iff_mem] at h2
  refine ⟨fun hm => ?_, h2.2⟩
  rcases h2.1 with (h3 | h3) | h3
  · have : (oj.looksAt ops).contains t = true := by simpa using hm
    rw [h3] at this; cases this
  · exact .inl h3
  · exact .inr h3
theorem plan_cons {ops : Array Oper} {b : List (List Nat)} {lt : List Nat} {done : List Nat} {i : Nat} {fl : Option (List Nat)} {r : Plan} (h : planOk ops b lt done ((i, fl) :: r) = true) :
    i < ops.size ∧ i ∉ done ∧ (∀ g ∈ preds b i, g ∈ done) ∧ (match fl with
      | none => effB (opAt ops i) = false ∧ i ∉ lt
      | some fl => i ∈ lt ∧ (∀ f ∈ done, effB (opAt ops f) = true ∨ f ∈ preds b i ∨ f ∈ fl) ∧ ∀ g ∈ r, i ∈ preds b g.1) ∧ planOk ops b lt (i :: done) r = true := by
  simp only [planOk, Bool.and_eq_true, decide_eq_true_eq, Bool.not_eq_true', List.all_eq_true, List.contains_iff_mem] at h
  obtain ⟨⟨⟨⟨h1, h2⟩, h3⟩, h4⟩, h5⟩ := h
  refine ⟨h1, by simpa using h2, h3, ?_, h5⟩
  cases fl with
  | none =>
    simp only [Bool.and_eq_true, Bool.not_eq_true'] at h4
    exact ⟨h4.1, by simpa using h4.2⟩
  | some fl =>
    simp only [Bool.and_eq_true, List.all_eq_true, Bool.or_eq_true, List.contains_iff_mem] at h4
    exact ⟨h4.1.1, fun f hf => by rcases h4.1.2 f hf with (h | h) | h <;> simp [h], h4.2⟩
theorem locOf_agree {o : Oper} {E E' : Env} (h : ∀ t, o.dst = some t → E'.get t = E.get t) : locOf E' o = locOf E o := by
  unfold locOf
  cases hd : o.dst with
  | none => rfl
  | some t => simp only [h t hd]
theorem refOf_agree {o : Oper} {E E' : Env} (h : ∀ t, o.dst = some t → E'.get t = E.get t) : refOf E' o = refOf E o := by
  unfold refOf
  cases hd : o.dst with
  | none => rfl
  | some t => simp only [h t hd]
theorem kOf_agree {o : Oper} {E E' : Env} (h : ∀ t, o.dst = some t → E'.get t = E.get t) : kOf o.dst E' = kOf o.dst E := by
  funext v
  unfold kOf
  cases hd : o.dst with
  | none => rfl
  | some t => simp only [h t hd]
theorem Todo.grow {P : Program} {ops : Array Oper} {E E' : Env} {H H' : Heap} {C : Ctx} {o : Oper} (hl : ∀ t ∈ o.looksAt ops, E'.get t = E.get t) (hd : ∀ t, o.dst = some t → E'.get t = E.get t)
    (hev : ∀ ρ o k, evV P H ρ o k → evV P H' ρ o k) (hget : ∀ l obj, H.get l = some obj → H'.get l = some obj) (h : Todo P ops E H C o) : Todo P ops E' H' C o := by
  obtain ⟨t, h1, h2, h3⟩ := h
  refine ⟨t, (wantV_agree hl).trans h1, by rw [kOf_agree hd]; exact h2, fun ht => ?_⟩
  have h3 := h3 ht
  rw [kOf_agree hd, locOf_agree hd, refOf_agree hd]
  split at h3
  · rename_i hm
    rw [if_pos hm]
    rcases h3 with ⟨h3, v, obj, h4, h4', h5, h6⟩ | ⟨h3, v, h4, h5⟩
    · exact .inl ⟨h3, v, obj, evA_congr (looksAt_agree hl) h4, h4', hget _ _ h5, h6⟩
    · exact .inr ⟨h3, v, evL_congr (looksAt_agree hl) h4, h5⟩
  · rename_i hm
    rw [if_neg hm]
    obtain ⟨v, h4, h5⟩ := h3
    exact ⟨v, evV_congr (looksAt_agree hl) (hev _ _ _ h4), h5⟩
section
variable {P : Program} {O : LitO} {ops : Array Oper} {b : List (List Nat)} {lt : List Nat} {C0 : Ctx} {n : Nat} {K : Env → Heap → Prop} {Kp : AV → Env → Heap → Prop} {done : List Nat} {r : Plan} {L : Array Bool} {a : Act} {C : Ctx} {E : Env} {H : Heap} {i : Nat} {fl : Option (List Nat)}
/-- what one more told operation leaves as it was -/
theorem DInv.keep (hsl : slotsOk ops b lt = true) (h : DInv P O ops b lt C0 n K Kp done ((i, fl) :: r) L a C E H) {o : Oper} (ho : ops[i]? = some o) (v : AV) {f : Nat} (hf : f ∈ done) {of : Oper} (hof : ops[f]? = some of) (hlate : i ∈ lt → f ∉ preds b i) :
    (∀ t ∈ of.looksAt ops, (putE o.dst v E).get t = E.get t) ∧ (∀ t, of.dst = some t → (putE o.dst v E).get t = E.get t) := by
  have hp := plan_cons h.plan
  constructor
  · intro t ht
    apply putE_get_ne
    intro hd
    rcases (slots_spec hsl ho hof hd).1 ht with h1 | h1
    · exact hp.2.1 (h.closed f hf i h1)
    · exact hlate h1.1 h1.2
  · intro t ht
    apply putE_get_ne
    intro hd
    rcases (slots_spec hsl ho hof hd).2 with h1 | h1
    · exact hp.2.1 (h1 ▸ hf)
    · exact h1 ht
theorem DInv.self (hsl : slotsOk ops b lt = true) (h : DInv P O ops b lt C0 n K Kp done ((i, fl) :: r) L a C E H) {o : Oper} (ho : ops[i]? = some o) (v : AV) : ∀ t ∈ o.looksAt ops, (putE o.dst v E).get t = E.get t := by
  have hp := plan_cons h.plan
  intro t ht
  apply putE_get_ne
  intro hd
  exact hp.2.1 (hp.2.2.1 i (((slots_spec hsl ho ho hd).1 ht).elim id (·.2)))
theorem opAt_of {o : Oper} (ho : ops[i]? = some o) : opAt ops i = o.op := by simp [opAt, ho]
/-- one more operation that is no effect is told -/
theorem DInv.tell (hsl : slotsOk ops b lt = true) (h : DInv P O ops b lt C0 n K Kp done ((i, fl) :: r) L a C E H) {o : Oper} (ho : ops[i]? = some o) (he : effB o.op = false) (hnl : i ∉ lt) {v : AV} {H' : Heap} (hHH : H' = H ∨ ∃ x, H' = H ++ [x])
    (htodo : Todo P ops (putE o.dst v E) H' C o) (hap : madeV ops (putE o.dst v E) o → ∃ obj, H' = H ++ [obj] ∧ locOf (putE o.dst v E) o = H.length) (hrun : awpD P O ops r K Kp (putE o.dst v E) H') : DInv P O ops b lt C0 n K Kp (i :: done) r L a C (putE o.dst v E) H' := by
  have hp := plan_cons h.plan
  have hev : ∀ ρ o k, evV P H ρ o k → evV P H' ρ o k := by
    intro ρ o k hh
    rcases hHH with rfl | ⟨x, rfl⟩
    · exact hh
    · exact evV_more hh
  have hget : ∀ l obj, H.get l = some obj → H'.get l = some obj := by
    intro l obj hh
    rcases hHH with rfl | ⟨x, rfl⟩
    · exact hh
    · exact Heap.get_more hh
  have hheap : HRel C H' := by
    rcases hHH with rfl | ⟨x, rfl⟩
    · exact h.heap
    · exact h.heap.list x
  have hi : isL L i = false := h.fresh (i, fl) (by simp)
  have hmade : ∀ f ∈ done, isL L f = false → ∀ of, ops[f]? = some of → madeV ops (putE o.dst v E) of → madeV ops E of ∧ locOf (putE o.dst v E) of = locOf E of ∧ locOf E of < H.length := by
    intro f hf hlf of hof hm
    have hk := h.keep hsl ho v hf hof (fun hl => absurd hl hnl)
    have hm' : madeV ops E of := ⟨(wantV_agree hk.1).symm.trans hm.1, hm.2.1, (refOf_agree hk.2).symm.trans hm.2.2⟩
    refine ⟨hm', locOf_agree hk.2, ?_⟩
    obtain ⟨_, t, h1, _, h3⟩ := h.todo f hf hlf of hof
    rw [hm'.1] at h1
    cases h1
    have h3 := h3 rfl
    rw [if_pos hm'.2.1] at h3
    rcases h3 with ⟨_, _, obj, _, _, h5, _⟩ | ⟨h3, _⟩
    · exact Heap.get_lt h5
    · rw [hm'.2.2] at h3; cases h3
  exact {
    ext := h.ext
    heap := hheap
    env := fun t => by
      rcases h.env t with h1 | h1
      · exact .inl h1
      · by_cases hd : o.dst = some t
        · exact .inl ⟨i, o, ho, hd, hi, hnl⟩
        · rw [putE_get_ne hd]; exact .inr h1
    defers := h.defers
    size := h.size
    lsize := h.lsize
    plan := hp.2.2.2.2
    closed := fun f hf g hg => by
      rcases List.mem_cons.1 hf with rfl | hf
      · exact List.mem_cons_of_mem _ (hp.2.2.1 g hg)
      · exact List.mem_cons_of_mem _ (h.closed f hf g hg)
    todo := fun f hf hlf of hof => by
      rcases List.mem_cons.1 hf with rfl | hf
      · rw [ho] at hof; cases hof
        exact ⟨he, htodo⟩
      · have hk := h.keep hsl ho v hf hof (fun hl => absurd hl hnl)
        obtain ⟨h1, h2⟩ := h.todo f hf hlf of hof
        exact ⟨h1, h2.grow hk.1 hk.2 hev hget⟩
    apart := fun f hf g hg hlf hlg hne of og hof hog hmf hmg => by
      rcases List.mem_cons.1 hf with hf1 | hf1 <;> rcases List.mem_cons.1 hg with hg1 | hg1
      · exact absurd (hf1.trans hg1.symm) hne
      · subst hf1; rw [ho] at hof; cases hof
        obtain ⟨obj, _, h1⟩ := hap hmf
        obtain ⟨_, h2, h3⟩ := hmade g hg1 hlg og hog hmg
        rw [h1, h2]; omega
      · subst hg1; rw [ho] at hog; cases hog
        obtain ⟨obj, _, h1⟩ := hap hmg
        obtain ⟨_, h2, h3⟩ := hmade f hf1 hlf of hof hmf
        rw [h1, h2]; omega
      · obtain ⟨h1, h2, _⟩ := hmade f hf1 hlf of hof hmf
        obtain ⟨h3, h4, _⟩ := hmade g hg1 hlg og hog hmg
        rw [h2, h4]
        exact h.apart f hf1 g hg1 hlf hlg hne of og hof hog h1 h3
    fresh := fun g hg => h.fresh g (List.mem_cons_of_mem _ hg)
    down := h.down
    run := hrun }
end
end Go.Sim

namespace Go.Sim
section
variable {P : Program} {O : LitO} {ops : Array Oper} {b : List (List Nat)} {lt : List Nat} {C0 : Ctx} {n : Nat} {K : Env → Heap → Prop} {Kp : AV → Env → Heap → Prop} {done : List Nat} {r : Plan} {L : Array Bool} {a : Act} {C : Ctx} {E : Env} {H : Heap} {i : Nat} {fl : Option (List Nat)}
theorem edges_spec (h : edgesOk ops = true) {j : Nat} {o : Oper} (hj : ops[j]? = some o) : (∀ e ∈ o.after, Region.binds .any e = true → e.on < j) ∧ (Go.Sim.Op.makes o.op = true → ∃ t, o.dst = some t) := by
  simp only [edgesOk, List.all_eq_true, List.mem_range] at h
  have h1 := h j (Array.getElem?_eq_some_iff.1 hj).1
  simp only [hj, Bool.and_eq_true, Array.all_eq_true_iff_forall_mem, Bool.or_eq_true, Bool.not_eq_true', decide_eq_true_eq] at h1
  refine ⟨fun e he hb => (h1.1 e he).resolve_left (by simp [hb]), fun hm => ?_⟩
  rcases h1.2 with h2 | h2
  · rw [hm] at h2; cases h2
  · exact Option.isSome_iff_exists.1 h2
/-- a step that is guarded, by its guard's value -/
theorem awpOps_one {o : Oper} {K : Env → Heap → Prop} {Kp : AV → Env → Heap → Prop} (h : awpOps P O ops [o] K Kp E H) : ∃ t, wantV ops E o = some t ∧
    (t = true → evOp P O H (ope E) o.op (fun v H' => K (putE o.dst v E) H') (fun v H' => Kp v E H')) ∧ (t = false → K (putE o.dst (.tuple []) E) H) := by
  simp only [awpOps] at h
  unfold wantV
  split at h
  · rename_i hg
    exact ⟨true, by simp only [hg], fun _ => h, fun h => by cases h⟩
  · rename_i g want hg
    split at h <;> first | exact h.elim | skip
    rotate_left
    · rename_i ht
      exact ⟨false, by simp only [hg, ht], (fun h => Bool.noConfusion h), fun _ => h⟩
    rename_i t ht
    refine ⟨t == want, by simp only [hg, ht], fun he => h.1 (by simpa using he), fun he => h.2 (by simpa using he)⟩
theorem awpD_non {o : Oper} (ho : ops[i]? = some o) (h : awpD P O ops ((i, none) :: r) K Kp E H) : awpOps P O ops [o] (fun e' H' => awpD P O ops r K Kp e' H') (fun v e' H' => Kp v e' H') E H := by
  simpa only [awpD, ho] using h
theorem awpD_eff {o : Oper} {fl : List Nat} (ho : ops[i]? = some o) (h : awpD P O ops ((i, some fl) :: r) K Kp E H) :
    awpOps P O ops [o] (fun e' H' => reAll P ops E H H' fl ∧ awpD P O ops r K Kp e' H') (fun v _ H' => Kp v (hideAll ops E) H') E H := by
  simpa only [awpD, ho] using h
theorem DInv.unroll (hsl : slotsOk ops b lt = true) (hed : edgesOk ops = true) (h : DInv P O ops b lt C0 n K Kp done ((i, none) :: r) L a C E H) :
    ∃ E' H', DInv P O ops b lt C0 n K Kp (i :: done) r L a C E' H' := by
  have hp := plan_cons h.plan
  obtain ⟨o, ho⟩ : ∃ o, ops[i]? = some o := ⟨_, Array.getElem?_eq_getElem hp.1⟩
  have he := hp.2.2.2.1
  simp only at he
  obtain ⟨he, hnl⟩ := he
  rw [opAt_of ho] at he
  obtain ⟨t, hw, ht, hf⟩ := awpOps_one (awpD_non ho h.run)
  have hself := fun v => h.self hsl ho v
  cases t with
  | false =>
    refine ⟨_, _, h.tell hsl ho he hnl (v := .tuple []) (H' := H) (.inl rfl) ⟨false, (wantV_agree (hself _)).trans hw, fun _ => kOf_put, fun h => by cases h⟩ (fun hm => ?_) (hf rfl)⟩
    have := (wantV_agree (hself _)).symm.trans hm.1
    rw [hw] at this; cases this
  | true =>
    have h1 := ht rfl
    by_cases hm : Go.Sim.Op.makes o.op = true
    · obtain ⟨d, hd⟩ := (edges_spec hed ho).2 hm
      rcases evOp_makes hm h1 with h1 | h1
      rotate_left
      · obtain ⟨v, h2, h3⟩ := evL_det h1
        obtain ⟨v', rfl, hnr⟩ := loc_evL h2
        have hl : refOf (putE o.dst v' E) o = false := by
          unfold refOf
          rw [hd]
          simp only [putE_get, hnr]
        refine ⟨_, _, h.tell hsl ho he hnl (v := v') (.inl rfl) ⟨true, (wantV_agree (hself _)).trans hw, (fun h => Bool.noConfusion h), fun _ => ?_⟩ (fun hmm => by have := hmm.2.2; rw [hl] at this; cases this) h3⟩
        rw [if_pos hm]
        exact .inr ⟨hl, v', evL_congr (looksAt_agree (hself _)) h2, kOf_put⟩
      obtain ⟨v, obj, h2, h3⟩ := evA_det h1
      obtain ⟨v', obj', ⟨rfl, rfl⟩, hloc, hir⟩ := loc_evA h2
      have hrf : refOf (putE o.dst v' E) o = true := by
        unfold refOf
        rw [hd]
        simp only [putE_get, hir]
      have hl : locOf (putE o.dst v' E) o = H.length := by
        unfold locOf
        rw [hd]
        simp only [putE_get, hloc]
      refine ⟨_, _, h.tell hsl ho he hnl (v := v') (.inr ⟨_, rfl⟩) ⟨true, (wantV_agree (hself _)).trans hw, (fun h => Bool.noConfusion h), fun _ => ?_⟩ (fun _ => ⟨_, rfl, hl⟩) h3⟩
      rw [if_pos hm, hl]
      refine .inl ⟨hrf, v', obj', evA_congr (looksAt_agree (hself _)) h2, kOf_put, Heap.get_push, fun hd => ?_, h.heap.hi⟩
      have := h.heap.dom _ hd
      omega
    · have h1 := evOp_reads he (by simpa using hm) h1
      obtain ⟨v, h2, h3⟩ := evV_det h1
      refine ⟨_, _, h.tell hsl ho he hnl (v := v) (.inl rfl) ⟨true, (wantV_agree (hself _)).trans hw, (fun h => Bool.noConfusion h), fun _ => ?_⟩ (fun hmm => absurd hmm.2.1 hm) h3⟩
      rw [if_neg hm]
      exact ⟨v, evV_congr (looksAt_agree (hself _)) h2, kOf_put⟩
theorem isL_set {j : Nat} (hi : i < L.size) : isL (L.setIfInBounds i true) j = if j = i then true else isL L j := by
  unfold isL
  by_cases h : j = i
  · subst h; simp [Array.getD_eq_getD_getElem?, hi]
  · rw [if_neg h]
    simp [Array.getD_eq_getD_getElem?, Array.getElem?_setIfInBounds_ne (Ne.symm h)]
theorem put_get_ne {d : Option Nat} {x : Value} {t : Nat} (h : d ≠ some t) : (a.put d x).tmps.getD t undef = a.tmps.getD t undef := by
  cases d with
  | none => rfl
  | some d =>
    have : d ≠ t := fun e => h (by rw [e])
    simp [Act.put, Array.getD_eq_getD_getElem?, Array.getElem?_setIfInBounds_ne this]
theorem put_get {x : Value} {t : Nat} (h : t < a.tmps.size) : (a.put (some t) x).tmps.getD t undef = x := by
  simp [Act.put, Array.getD_eq_getD_getElem?, h]
/-- an operation that was told runs -/
theorem DInv.list {C' : Ctx} (hsl : slotsOk ops b lt = true) (h : DInv P O ops b lt C0 n K Kp done r L a C E H) {o : Oper} (ho : ops[i]? = some o) (hdone : i ∈ done) (hunl : isL L i = false) (hpre : ∀ g ∈ preds b i, isL L g = true) {v : AV} {x : Value}
    (hv : Rel C' v x) (hk : kOf o.dst E v) (hE : Ext C C') (hH : HRel C' H) (hhi : C'.hi = C.hi) (hdom : ∀ l, C'.dom l → C.dom l ∨ (madeV ops E o ∧ l = locOf E o)) (hdst : ∀ t, o.dst = some t → t < n) (hrd : ∀ g ∈ r, g.1 ≠ i) :
    DInv P O ops b lt C0 n K Kp done r (L.setIfInBounds i true) (a.put o.dst x) C' E H := by
  have hil : i < L.size := by rw [h.lsize]; exact (Array.getElem?_eq_some_iff.1 ho).1
  have hunl' : ∀ f, isL (L.setIfInBounds i true) f = false → f ≠ i ∧ isL L f = false := by
    intro f hf
    rw [isL_set hil] at hf
    by_cases e : f = i
    · rw [if_pos e] at hf; cases hf
    · rw [if_neg e] at hf; exact ⟨e, hf⟩
  exact {
    ext := h.ext.trans hE
    heap := hH
    env := fun t => by
      by_cases hd : o.dst = some t
      · right
        rw [hd] at hk ⊢
        rw [put_get (by rw [h.size]; exact hdst t hd)]
        simp only [kOf] at hk
        rw [← hk]; exact hv
      · rw [put_get_ne hd]
        rcases h.env t with ⟨f, of, hof, hdf, hlf, hnf⟩ | h1
        · refine .inl ⟨f, of, hof, hdf, ?_, hnf⟩
          rw [isL_set hil, if_neg]
          · exact hlf
          · intro e
            subst e
            rw [ho] at hof; cases hof
            exact hd hdf
        · exact .inr (Rel.mono hE _ _ h1)
    defers := by cases hd : o.dst <;> exact h.defers
    size := (put_size ..).trans h.size
    lsize := by rw [Array.size_setIfInBounds]; exact h.lsize
    plan := h.plan
    closed := h.closed
    todo := fun f hf hlf of hof => by
      obtain ⟨hne, hlf⟩ := hunl' f hlf
      obtain ⟨h1, t, h2, h3, h4⟩ := h.todo f hf hlf of hof
      refine ⟨h1, t, h2, h3, fun ht => ?_⟩
      have h4 := h4 ht
      split at h4
      · rename_i hm
        rw [if_pos hm]
        rcases h4 with ⟨hrf, v, obj, h5, h6, h7, h8, h9⟩ | h4
        · refine .inl ⟨hrf, v, obj, h5, h6, h7, fun hd => ?_, by rw [hhi]; exact h9⟩
          rcases hdom _ hd with h10 | ⟨h10, h11⟩
          · exact h8 h10
          · exact h.apart f hf i hdone hlf hunl hne of o hof ho ⟨by rw [h2, ht], hm, hrf⟩ h10 h11
        · exact .inr h4
      · rename_i hm
        rw [if_neg hm]
        exact h4
    apart := fun f hf g hg hlf hlg => h.apart f hf g hg (hunl' f hlf).2 (hunl' g hlg).2
    fresh := fun g hg => by rw [isL_set hil, if_neg (hrd g hg)]; exact h.fresh g hg
    down := fun j hj g hg => by
      rw [isL_set hil] at hj ⊢
      by_cases e : j = i
      · rw [e] at hg
        rw [hpre g hg]; simp
      · rw [if_neg e] at hj
        rw [h.down j hj g hg]; simp
    run := h.run }
end
end Go.Sim

namespace Go.Sim
def Ctx.withHi (C : Ctx) (h : Nat) : Ctx := { C with hi := h }
theorem Mono.withHi {C : Ctx} {h : Nat} : Mono C (C.withHi h) := ⟨fun _ h => h, fun _ _ => rfl, fun _ _ => Nat.le_refl _, fun _ _ _ => rfl, fun _ h => ⟨h, rfl⟩, fun _ _ h => h⟩
theorem ORel.withHi {C : Ctx} {h l : Nat} : ∀ {o : AObj}, ORel C l o → ORel (C.withHi h) l o
  | .box _ _, ⟨vs, h1, h2⟩ => ⟨vs, h1, RelAll.mono' Mono.withHi _ _ h2⟩
  | .row _ _ _, hh => hh
  | .map _ _, ⟨es, c, h1, h2, h3⟩ => ⟨es, c, h1, RelAll.mono' Mono.withHi _ _ h2, RelAll.mono' Mono.withHi _ _ h3⟩
  | .siter _ _, hh => hh
theorem HRel.withHi {C : Ctx} {H : Heap} {h : Nat} (hH : HRel C H) (hh : h ≤ H.length) : HRel (C.withHi h) H where
  obj l o hg hd := (hH.obj l o hg hd).withHi
  own l o b hg hd hb := hH.own l o b hg hd (by cases o <;> exact hb)
  inj l l' o o' b hg hg' hd hd' hb hb' := hH.inj l l' o o' b hg hg' hd hd' (by cases o <;> exact hb) (by cases o' <;> exact hb')
  lt := hH.lt
  dom := hH.dom
  hi := hh
theorem SRel.withHi {C : Ctx} {e : Env} {H : Heap} {a : Act} {w : World} {h : Nat} (hS : SRel C e H a w) (hh : h ≤ H.length) : SRel (C.withHi h) e H a w :=
  ⟨hS.world, hS.heap.withHi hh, fun t => Rel.mono' Mono.withHi _ _ (hS.env t), hS.defers⟩
/-- back from a call that could revive nothing below k -/
theorem Ext.backHi {C C' : Ctx} {k : Nat} (hk : C.hi ≤ k) (h : Ext (C.withHi k) C') : Ext C (C'.withHi C.hi) where
  dom := h.dom
  β := h.β
  len := h.len
  σ := h.σ
  im := h.im
  old := h.old
  imOld := h.imOld
  ownOld := h.ownOld
  size := h.size
  shape := h.shape
  same := h.same
  hi := Nat.le_refl _
  fresh l hl := (h.fresh l hl).imp id fun e => Nat.le_trans hk e
section
variable {P : Program} {O : LitO} {ops : Array Oper} {b : List (List Nat)} {lt : List Nat} {C0 : Ctx} {n : Nat} {K : Env → Heap → Prop} {Kp : AV → Env → Heap → Prop} {done : List Nat} {r : Plan} {L : Array Bool} {a : Act} {C : Ctx} {E : Env} {H : Heap} {i : Nat} {fl : Option (List Nat)}
def hidden (ops : Array Oper) (lt : List Nat) (L : Array Bool) : List Nat := (List.range ops.size).filterMap fun f => if isL L f || lt.contains f then none else (ops[f]?).bind (·.dst)
theorem mem_hidden {t : Nat} : t ∈ hidden ops lt L ↔ ∃ f o, ops[f]? = some o ∧ o.dst = some t ∧ isL L f = false ∧ f ∉ lt := by
  unfold hidden
  simp only [List.mem_filterMap, List.mem_range]
  constructor
  · rintro ⟨f, hf, h⟩
    split at h
    · cases h
    · rename_i hl
      rw [Array.getElem?_eq_getElem hf] at h
      simp only [Bool.or_eq_true, not_or, Bool.not_eq_true] at hl
      exact ⟨f, _, Array.getElem?_eq_getElem hf, h, hl.1, by simpa using hl.2⟩
  · rintro ⟨f, o, ho, hd, hl, hnf⟩
    exact ⟨f, (Array.getElem?_eq_some_iff.1 ho).1, by simp [hl, ho, hd, hnf]⟩
theorem DInv.srel (h : DInv P O ops b lt C0 n K Kp done r L a C E H) : SRel C (hideS (hidden ops lt L) E) H a C.w := by
  refine ⟨rfl, h.heap, fun t => ?_, h.defers⟩
  rw [hideS_get]
  split
  · trivial
  · rename_i ht
    rcases h.env t with ⟨f, o, h1, h2, h3, h4⟩ | h1
    · exact absurd (mem_hidden.2 ⟨f, o, h1, h2, h3, h4⟩) ht
    · exact h1
theorem preds_spec (h : predsOk ops b = true) {j g : Nat} {o : Oper} (hj : ops[j]? = some o) (hg : g ∈ preds b j) : ∃ e ∈ o.after, Region.binds .any e = true ∧ e.on < j ∧ (e.on = g ∨ g ∈ preds b e.on) := by
  simp only [predsOk, List.all_eq_true, List.mem_range] at h
  have h1 := h j (Array.getElem?_eq_some_iff.1 hj).1 g hg
  simp only [hj] at h1
  obtain ⟨e, he, hb⟩ := Array.any_eq_true'.1 h1
  simp only [Bool.and_eq_true, decide_eq_true_eq, Bool.or_eq_true, beq_iff_eq, List.contains_iff_mem] at hb
  exact ⟨e, he, hb.1.1, hb.1.2, hb.2⟩
theorem DInv.ready (hpr : predsOk ops b = true) (h : DInv P O ops b lt C0 n K Kp done r L a C E H) (hr : i ∈ Region.ready .any ops L) : ∃ o, ops[i]? = some o ∧ isL L i = false ∧ ∀ g ∈ preds b i, isL L g = true := by
  obtain ⟨h1, o, ho, h2⟩ := mem_ready.1 hr
  refine ⟨o, ho, ?_, fun g hg => ?_⟩
  · have hil : i < L.size := by rw [h.lsize]; exact (Array.getElem?_eq_some_iff.1 ho).1
    simpa [isL, Array.getD_eq_getD_getElem?, hil] using h1
  · obtain ⟨e, he, hb, _, h3⟩ := preds_spec hpr ho hg
    have h4 : isL L e.on = true := h2 e he hb
    rcases h3 with rfl | h3
    · exact h4
    · exact h.down _ h4 _ h3
theorem hide_agree (hsl : slotsOk ops b lt = true) {o : Oper} (ho : ops[i]? = some o) (hpre : ∀ g ∈ preds b i, isL L g = true) : ∀ t ∈ o.looksAt ops, (hideS (hidden ops lt L) E).get t = E.get t := by
  intro t ht
  rw [hideS_get, if_neg]
  intro hm
  obtain ⟨f, of, hof, hd, hl, hnf⟩ := mem_hidden.1 hm
  rcases (slots_spec hsl hof ho hd).1 ht with h1 | h1
  · have := hpre f h1
    rw [hl] at this; cases this
  · exact hnf h1.1
theorem run_told {Q : Exit → Act → World → Prop} (hsl : slotsOk ops b lt = true) (hpr : predsOk ops b = true) (hdo : ops.toList.all (dstOk n) = true) (h : DInv P O ops b lt C0 n K Kp done r L a C E H) (hr : i ∈ Region.ready .any ops L) (hdone : i ∈ done) (hrd : ∀ g ∈ r, g.1 ≠ i) :
    wpOp P ops Q i (fun a' w' => ∃ C', C'.w = w' ∧ DInv P O ops b lt C0 n K Kp done r (L.setIfInBounds i true) a' C' E H) a C.w := by
  obtain ⟨o, ho, hunl, hpre⟩ := h.ready hpr hr
  have hag := hide_agree (E := E) hsl ho hpre
  have hag' : ∀ t ∈ o.looksAt ops, E.get t = (hideS (hidden ops lt L) E).get t := fun t ht => (hag t ht).symm
  have hS := h.srel
  have hdst : ∀ t, o.dst = some t → t < n := by
    intro t ht
    have := List.all_eq_true.1 hdo o (Array.mem_toList_iff.2 (Array.mem_of_getElem? ho))
    simpa [dstOk, ht] using this
  obtain ⟨he, t, hw, hf, ht⟩ := h.todo i hdone hunl o ho
  have hwant := wanted_of hS rfl ((wantV_agree hag).trans hw)
  simp only [wpOp, ho]
  cases t with
  | false =>
    rw [if_neg (by rw [hwant]; exact Bool.false_ne_true)]
    exact ⟨C, rfl, h.list hsl ho hdone hunl hpre (v := .tuple []) (x := undef) ⟨#[], rfl, rfl⟩ (hf rfl) (Ext.refl C) h.heap rfl (fun l hl => .inl hl) hdst hrd⟩
  | true =>
    rw [if_pos hwant]
    left
    have ht := ht rfl
    split at ht
    · rename_i hm
      rcases ht with ⟨hrf, v, obj, h4, hk, hg, hnd, hhi⟩ | ⟨hrf, v, h4, hk⟩
      rotate_left
      · obtain ⟨v', x, C', rfl, hrun, hE, hH', hv, hhi, hdm⟩ := evL_sound hS (evL_congr (looksAt_agree hag) h4)
        simp only [Oper.wp, hrun, Oper.upon]
        exact ⟨C', rfl, h.list hsl ho hdone hunl hpre hv hk hE hH' hhi (fun l hl => .inl (hdm l hl)) hdst hrd⟩
      obtain ⟨v', obj', x, ob, m, ⟨rfl, rfl⟩, hrun, hrest⟩ := evA_sound hS (evA_congr (looksAt_agree hag) h4)
      have hE : Ext C (C.new (locOf E o) m (C.w.alloc ob)) := Ext.new hnd hhi rfl ⟨rfl, rfl, rfl⟩
      obtain ⟨hv, hobj, hblk⟩ := hrest _ rfl hE
      have hH' := h.heap.new (o := ob) (w' := C.w.alloc ob) (n := m) hg hnd hhi rfl ⟨rfl, rfl, rfl⟩ hobj hblk
      simp only [Oper.wp, hrun, Oper.upon]
      exact ⟨_, rfl, h.list hsl ho hdone hunl hpre hv hk hE hH' rfl (fun l hl => hl.imp id fun e => ⟨⟨hw, hm, hrf⟩, e⟩) hdst hrd⟩
    · rename_i hm
      obtain ⟨v, h4, hk⟩ := ht
      obtain ⟨v', x, rfl, hv, hrun⟩ := evV_sound hS (evV_congr (looksAt_agree hag) h4)
      simp only [Oper.wp, hrun, Oper.upon]
      exact ⟨C, rfl, h.list hsl ho hdone hunl hpre hv hk (Ext.refl C) h.heap rfl (fun l hl => .inl hl) hdst hrd⟩
end
end Go.Sim

namespace Go.Sim
section
variable {P : Program} {O : LitO} {ops : Array Oper} {b : List (List Nat)} {lt : List Nat} {C0 : Ctx} {n : Nat} {K : Env → Heap → Prop} {Kp : AV → Env → Heap → Prop} {done : List Nat} {r : Plan} {L : Array Bool} {a : Act} {C : Ctx} {E : Env} {H : Heap} {i : Nat} {fl : Option (List Nat)}
theorem reAll_mem {H' : Heap} : ∀ {l : List Nat}, reAll P ops E H H' l → ∀ f ∈ l, reOk P ops E H H' f
  | _ :: _, h, f, hf => by
    rcases List.mem_cons.1 hf with rfl | hf
    · exact h.1
    · exact reAll_mem h.2 f hf
/-- an effect has run -/
theorem DInv.step {C' : Ctx} {H' : Heap} {a' : Act} (hsl : slotsOk ops b lt = true) (h : DInv P O ops b lt C0 n K Kp done ((i, fl) :: r) L a C E H) {o : Oper} (ho : ops[i]? = some o) (hpre : ∀ g ∈ preds b i, isL L g = true) {v : AV}
    (hE : Ext C C') (hH : HRel C' H') (hhi : C'.hi = C.hi) (hdom : ∀ l, C'.dom l → C.dom l ∨ H.length ≤ l) (henv : ∀ t, Rel C' ((putE o.dst v (hideS (hidden ops lt L) E)).get t) (a'.tmps.getD t undef))
    (hdef : a'.defers = []) (hsz : a'.tmps.size = n) (hre : H' = H ∨ ∀ f ∈ done, isL L f = false → reOk P ops E H H' f) (hrun : awpD P O ops r K Kp (putE o.dst v E) H') :
    DInv P O ops b lt C0 n K Kp (i :: done) r (L.setIfInBounds i true) a' C' (putE o.dst v E) H' := by
  have hp := plan_cons h.plan
  have hil : i < L.size := by rw [h.lsize]; exact (Array.getElem?_eq_some_iff.1 ho).1
  have hunl' : ∀ f, isL (L.setIfInBounds i true) f = false → f ≠ i ∧ isL L f = false := by
    intro f hf
    rw [isL_set hil] at hf
    by_cases e : f = i
    · rw [if_pos e] at hf; cases hf
    · rw [if_neg e] at hf; exact ⟨e, hf⟩
  have hin : ∀ f ∈ i :: done, isL (L.setIfInBounds i true) f = false → f ∈ done ∧ isL L f = false := by
    intro f hf hl
    obtain ⟨h1, h2⟩ := hunl' f hl
    exact ⟨(List.mem_cons.1 hf).resolve_left h1, h2⟩
  have htodo : ∀ f ∈ done, isL L f = false → ∀ of, ops[f]? = some of → effB of.op = false ∧ Todo P ops E H' C' of := by
    intro f hf hl of hof
    obtain ⟨h1, t, h2, h3, h4⟩ := h.todo f hf hl of hof
    refine ⟨h1, t, h2, h3, fun ht => ?_⟩
    have h4 := h4 ht
    have hnd : ∀ l obj, H.get l = some obj → ¬ C.dom l → ¬ C'.dom l := fun l obj hg hn hd => by
      rcases hdom _ hd with h10 | h10
      · exact hn h10
      · have := Heap.get_lt hg
        omega
    rcases hre with rfl | hre
    · split at h4
      · rename_i hm
        rw [if_pos hm]
        rcases h4 with ⟨hrf, v, obj, h5, h6, h7, h8, h9⟩ | h4
        · exact .inl ⟨hrf, v, obj, h5, h6, h7, hnd _ _ h7 h8, by rw [hhi]; exact h9⟩
        · exact .inr h4
      · rename_i hm
        rw [if_neg hm]; exact h4
    have hr := hre f hf hl
    simp only [reOk, hof] at hr
    have h2' : wantV ops E of = some true := by rw [h2, ht]
    split at h4
    · rename_i hm
      rw [if_pos hm] at hr ⊢
      rcases h4 with ⟨hrf, v, obj, h5, h6, h7, h8, h9⟩ | h4
      · exact .inl ⟨hrf, v, obj, h5, h6, (hr h2' hrf).trans h7, hnd _ _ h7 h8, by rw [hhi]; exact h9⟩
      · exact .inr h4
    · rename_i hm
      rw [if_neg hm] at hr ⊢
      obtain ⟨v, h5, h6⟩ := h4
      exact ⟨v, hr h2' v h5, h6⟩
  exact {
    ext := h.ext.trans hE
    heap := hH
    env := fun t => by
      by_cases hd : o.dst = some t
      · right
        have h1 := henv t
        rw [hd] at h1 ⊢
        rw [putE_get] at h1 ⊢
        exact h1
      · rw [putE_get_ne hd]
        have h1 := henv t
        rw [putE_get_ne hd, hideS_get] at h1
        split at h1
        · rename_i ht
          obtain ⟨f, of, hof, hdf, hlf, hnf⟩ := mem_hidden.1 ht
          refine .inl ⟨f, of, hof, hdf, ?_, hnf⟩
          rw [isL_set hil, if_neg]
          · exact hlf
          · intro e
            subst e
            rw [ho] at hof; cases hof
            exact hd hdf
        · exact .inr h1
    defers := hdef
    size := hsz
    lsize := by rw [Array.size_setIfInBounds]; exact h.lsize
    plan := hp.2.2.2.2
    closed := fun f hf g hg => by
      rcases List.mem_cons.1 hf with rfl | hf
      · exact List.mem_cons_of_mem _ (hp.2.2.1 g hg)
      · exact List.mem_cons_of_mem _ (h.closed f hf g hg)
    todo := fun f hf hlf of hof => by
      obtain ⟨hf, hlf⟩ := hin f hf hlf
      have hk := h.keep hsl ho v hf hof (fun _ hm => by rw [hpre f hm] at hlf; cases hlf)
      obtain ⟨h1, h2⟩ := htodo f hf hlf of hof
      exact ⟨h1, h2.grow hk.1 hk.2 (fun _ _ _ h => h) (fun _ _ h => h)⟩
    apart := fun f hf g hg hlf hlg hne of og hof hog hmf hmg => by
      obtain ⟨hf, hlf⟩ := hin f hf hlf
      obtain ⟨hg, hlg⟩ := hin g hg hlg
      have hkf := h.keep hsl ho v hf hof (fun _ hm => by rw [hpre f hm] at hlf; cases hlf)
      have hkg := h.keep hsl ho v hg hog (fun _ hm => by rw [hpre g hm] at hlg; cases hlg)
      rw [locOf_agree hkf.2, locOf_agree hkg.2]
      exact h.apart f hf g hg hlf hlg hne of og hof hog ⟨(wantV_agree hkf.1).symm.trans hmf.1, hmf.2.1, (refOf_agree hkf.2).symm.trans hmf.2.2⟩ ⟨(wantV_agree hkg.1).symm.trans hmg.1, hmg.2.1, (refOf_agree hkg.2).symm.trans hmg.2.2⟩
    fresh := fun g hg => by
      have h1 := h.fresh g (List.mem_cons_of_mem _ hg)
      rw [isL_set hil, if_neg]
      · exact h1
      · intro e
        -- the plan names no operation twice
        have : ∀ (l : Plan) (d : List Nat), i ∈ d → planOk ops b lt d l = true → ∀ g ∈ l, g.1 ≠ i := by
          intro l
          induction l with
          | nil => intro d _ _ g hg; cases hg
          | cons x l ih =>
            intro d hd hpl g hg
            obtain ⟨j, fl'⟩ := x
            have hp' := plan_cons hpl
            rcases List.mem_cons.1 hg with rfl | hg
            · intro e; simp only at e; exact hp'.2.1 (by rw [e]; exact hd)
            · exact ih (j :: d) (List.mem_cons_of_mem _ hd) hp'.2.2.2.2 g hg
        exact this r (i :: done) (by simp) hp.2.2.2.2 g hg e
    down := fun j hj g hg => by
      rw [isL_set hil] at hj ⊢
      by_cases e : j = i
      · rw [e] at hg
        rw [hpre g hg]; simp
      · rw [if_neg e] at hj
        rw [h.down j hj g hg]; simp
    run := hrun }
theorem run_eff {fl : List Nat} {Q : AX → Env → Heap → Prop} (hL0 : LibOk P C0) (hsl : slotsOk ops b lt = true) (hpr : predsOk ops b = true) (hdo : ops.toList.all (dstOk n) = true) (h : DInv P O ops b lt C0 n (Q .normal) (fun v => Q (.panic v)) done ((i, some fl) :: r) L a C E H) (hr : i ∈ Region.ready .any ops L) :
    wpOp P ops (Post C0 n Q) i (fun a' w' => ∃ C' E' H', C'.w = w' ∧ DInv P O ops b lt C0 n (Q .normal) (fun v => Q (.panic v)) (i :: done) r (L.setIfInBounds i true) a' C' E' H') a C.w := by
  obtain ⟨o, ho, hunl, hpre⟩ := h.ready hpr hr
  have hp := plan_cons h.plan
  have hag := hide_agree (E := E) hsl ho hpre
  have hS := h.srel
  have hdst : ∀ t, o.dst = some t → t < n := by
    intro t ht
    have := List.all_eq_true.1 hdo o (Array.mem_toList_iff.2 (Array.mem_of_getElem? ho))
    simpa [dstOk, ht] using this
  have heff := hp.2.2.2.1
  simp only at heff
  obtain ⟨t, hw, ht, hf⟩ := awpOps_one (awpD_eff ho h.run)
  have hwant := wanted_of hS rfl ((wantV_agree hag).trans hw)
  have hfl : ∀ f ∈ done, isL L f = false → f ∈ fl := by
    intro f hfd hl
    rcases heff.2.1 f hfd with h1 | h1 | h1
    · have hfs : f < ops.size := by
        rcases Nat.lt_or_ge f ops.size with h2 | h2
        · exact h2
        · simp only [opAt, Array.getElem?_eq_none h2, effB] at h1
          cases h1
      have h2 := (h.todo f hfd hl _ (Array.getElem?_eq_getElem hfs)).1
      rw [opAt_of (Array.getElem?_eq_getElem hfs), h2] at h1
      cases h1
    · rw [hpre f h1] at hl; cases hl
    · exact h1
  simp only [wpOp, ho]
  cases t with
  | false =>
    rw [if_neg (by rw [hwant]; exact Bool.false_ne_true)]
    have hS' : SRel C (putE o.dst (.tuple []) (hideS (hidden ops lt L) E)) H (a.put o.dst undef) C.w :=
      hS.put (d := o.dst) (v := .tuple []) (x := undef) (Ext.refl C) hS.heap rfl ⟨#[], rfl, rfl⟩ (fun t ht => by rw [h.size]; exact hdst t ht)
    refine ⟨C, _, H, rfl, h.step hsl ho hpre (Ext.refl C) h.heap rfl (fun l hl => .inl hl) hS'.env hS'.defers ((put_size ..).trans h.size) (.inl rfl) (hf rfl).2⟩
  | true =>
    rw [if_pos hwant]
    left
    have ht := ht rfl
    have hS2 := hS.withHi (Nat.le_refl H.length)
    have hop := evOp_sound (C := C.withHi H.length) (Q := Post C0 n Q) ((hL0.ext h.ext).mono fun b hb => ⟨hb, rfl⟩) hS2 (fun t ht => by rw [h.size]; exact hdst t ht) (evOp_congr (looksAt_agree hag) ht) (fun v H' C' x hk hE hH' hv => ?_)
    · refine Oper.wp_mono ?_ hop
      rintro a' w' ⟨v, H', C', ⟨hre, hrun⟩, hw', hE, hS', hn'⟩
      subst hw'
      have hE' : Ext C (C'.withHi C.hi) := Ext.backHi h.heap.hi hE
      refine ⟨C'.withHi C.hi, _, H', rfl, h.step hsl ho hpre hE' (hS'.heap.withHi (Nat.le_trans hE'.hi (Nat.le_trans (Nat.le_trans h.heap.hi hE.hi) hS'.heap.hi))) rfl (fun l hl => ?_) (fun t => Rel.mono' Mono.withHi _ _ (hS'.env t)) hS'.defers (hn'.trans h.size) (.inr fun f hfd hl => reAll_mem hre f (hfl f hfd hl)) hrun⟩
      exact hE.fresh l hl
    · have hE' : Ext C (C'.withHi C.hi) := Ext.backHi h.heap.hi hE
      refine ⟨.panic v, C'.withHi C.hi, hideAll ops E, H', hk, ⟨x, rfl, Rel.mono' Mono.withHi _ _ hv⟩, h.ext.trans hE', rfl, ⟨rfl, hH'.withHi (Nat.le_trans (Nat.le_trans h.heap.hi hE.hi) hH'.hi), fun t => ?_, h.defers⟩, h.size⟩
      unfold hideAll
      rw [hideS_get]
      split
      · trivial
      · rename_i hnt
        rcases h.env t with ⟨f, of, hof, hd, _, _⟩ | h1
        · exact absurd (List.mem_filterMap.2 ⟨of, Array.mem_toList_iff.2 (Array.mem_of_getElem? hof), hd⟩) hnt
        · exact Rel.mono hE' _ _ h1
end
end Go.Sim

namespace Go.Sim
theorem countP_lt {α : Type} {p q : α → Bool} : ∀ {l : List α}, (∀ x ∈ l, p x = true → q x = true) → (∃ x ∈ l, q x = true ∧ p x = false) → l.countP p < l.countP q
  | [], _, ⟨x, hx, _⟩ => by cases hx
  | y :: l, h, ⟨x, hx, h1, h2⟩ => by
    have hle : l.countP p ≤ l.countP q := List.countP_mono_left fun z hz => h z (List.mem_cons_of_mem _ hz)
    rcases List.mem_cons.1 hx with rfl | hx
    · rw [List.countP_cons, List.countP_cons, h1, h2]; simp; omega
    · have ih := countP_lt (fun z hz => h z (List.mem_cons_of_mem _ hz)) ⟨x, hx, h1, h2⟩
      rw [List.countP_cons, List.countP_cons]
      have := h y (by simp)
      cases hp : p y
      · simp; omega
      · rw [this hp]; simp; omega
section
variable {P : Program} {O : LitO} {ops : Array Oper} {b : List (List Nat)} {lt : List Nat} {C0 : Ctx} {n : Nat} {done : List Nat} {r : Plan} {L : Array Bool} {a : Act} {C : Ctx} {E : Env} {H : Heap} {i : Nat} {fl : Option (List Nat)}
theorem plan_cover : ∀ {l : Plan} {d : List Nat}, planOk ops b lt d l = true → ∀ i, i < ops.size → i ∈ d ∨ ∃ g ∈ l, g.1 = i
  | [], d, h, i, hi => by
    simp only [planOk, List.all_eq_true, List.mem_range, List.contains_iff_mem] at h
    exact .inl (h i hi)
  | (j, fl) :: l, d, h, i, hi => by
    have hp := plan_cons h
    rcases plan_cover hp.2.2.2.2 i hi with h1 | ⟨g, hg, h1⟩
    · rcases List.mem_cons.1 h1 with rfl | h1
      · exact .inr ⟨_, List.mem_cons_self, rfl⟩
      · exact .inl h1
    · exact .inr ⟨g, List.mem_cons_of_mem _ hg, h1⟩
theorem DInv.norm {K : Env → Heap → Prop} {Kp : AV → Env → Heap → Prop} (hsl : slotsOk ops b lt = true) (hed : edgesOk ops = true) : ∀ (r : Plan) {done : List Nat} {E : Env} {H : Heap}, DInv P O ops b lt C0 n K Kp done r L a C E H →
    ∃ done' r' E' H', DInv P O ops b lt C0 n K Kp done' r' L a C E' H' ∧ (r' = [] ∨ ∃ i fl r2, r' = (i, some fl) :: r2)
  | [], done, E, H, h => ⟨_, _, _, _, h, .inl rfl⟩
  | (i, some fl) :: r, done, E, H, h => ⟨_, _, _, _, h, .inr ⟨i, fl, r, rfl⟩⟩
  | (i, none) :: r, done, E, H, h => by
    obtain ⟨E', H', h'⟩ := h.unroll hsl hed
    exact DInv.norm hsl hed r h'
def unl (ops : Array Oper) (L : Array Bool) : Nat := (List.range ops.size).countP fun f => !isL L f
theorem all_listed (h : unl ops L = 0) {f : Nat} (hf : f < ops.size) : isL L f = true := by
  have := List.countP_eq_zero.1 h f (List.mem_range.2 hf)
  simpa using this
theorem DInv.finish {Q : AX → Env → Heap → Prop} (h : DInv P O ops b lt C0 n (Q .normal) (fun v => Q (.panic v)) done r L a C E H) (hall : ∀ f, f < ops.size → isL L f = true) : Post C0 n Q .normal a C.w := by
  cases r with
  | cons g r =>
    obtain ⟨i, fl⟩ := g
    have h1 := h.fresh (i, fl) (by simp)
    rw [hall i (plan_cons h.plan).1] at h1
    cases h1
  | nil =>
    refine ⟨.normal, C, E, H, h.run, rfl, h.ext, rfl, ⟨rfl, h.heap, fun t => ?_, h.defers⟩, h.size⟩
    rcases h.env t with ⟨f, o, ho, _, hl, _⟩ | h1
    · rw [hall f (Array.getElem?_eq_some_iff.1 ho).1] at hl; cases hl
    · exact h1
theorem ready_nil (hed : edgesOk ops = true) (hls : L.size = ops.size) (h : Region.ready .any ops L = []) : ∀ (k f : Nat), f < k → f < ops.size → isL L f = true := by
  intro k
  induction k with
  | zero => intro f hf; omega
  | succ k ih =>
    intro f hf hs
    cases hl : isL L f with
    | true => rfl
    | false =>
      exfalso
      have : f ∈ Region.ready .any ops L := by
        refine mem_ready.2 ⟨?_, _, Array.getElem?_eq_getElem hs, fun e he hb => ?_⟩
        · have h2 : f < L.size := by omega
          simpa [isL, Array.getD_eq_getD_getElem?, h2] using hl
        · have h3 := (edges_spec hed (Array.getElem?_eq_getElem hs)).1 e he hb
          exact ih e.on (by omega) (by omega)
      rw [h] at this; cases this
theorem draw_any {Q : AX → Env → Heap → Prop} (hL0 : LibOk P C0) (hsl : slotsOk ops b lt = true) (hpr : predsOk ops b = true) (hed : edgesOk ops = true) (hdo : ops.toList.all (dstOk n) = true) : ∀ (fuel : Nat) {done : List Nat} {r : Plan} {L : Array Bool} {a : Act} {C : Ctx} {E : Env} {H : Heap},
    DInv P O ops b lt C0 n (Q .normal) (fun v => Q (.panic v)) done r L a C E H → unl ops L ≤ fuel → wpAny P .any ops (Post C0 n Q) fuel L a C.w := by
  intro fuel
  induction fuel with
  | zero =>
    intro done r L a C E H h hu
    have hall : ∀ f, f < ops.size → isL L f = true := fun f hf => all_listed (by omega) hf
    refine ⟨?_, h.finish hall⟩
    rw [List.eq_nil_iff_forall_not_mem]
    intro f hf
    obtain ⟨o, ho, hl, _⟩ := h.ready hpr hf
    rw [hall f (Array.getElem?_eq_some_iff.1 ho).1] at hl; cases hl
  | succ fuel ih =>
    intro done r L a C E H h hu
    refine ⟨fun hn => h.finish fun f hf => ready_nil hed h.lsize hn (f + 1) f (by omega) hf, fun i hi => ?_⟩
    obtain ⟨o, ho, hunl, hpre⟩ := h.ready hpr hi
    have his := (Array.getElem?_eq_some_iff.1 ho).1
    have hdec : unl ops (L.setIfInBounds i true) ≤ fuel := by
      have hil : i < L.size := by rw [h.lsize]; exact his
      have : unl ops (L.setIfInBounds i true) < unl ops L := by
        refine countP_lt (fun f _ hf => ?_) ⟨i, List.mem_range.2 his, by simp [hunl], by simp [isL_set hil]⟩
        rw [isL_set hil] at hf
        by_cases e : f = i
        · simp [e] at hf
        · simpa [e] using hf
      omega
    obtain ⟨done', r', E', H', h', hr'⟩ := h.norm hsl hed
    have told : i ∈ done' → (∀ g ∈ r', g.1 ≠ i) → wpOp P ops (Post C0 n Q) i (wpAny P .any ops (Post C0 n Q) fuel (L.setIfInBounds i true)) a C.w := fun hd hrd => by
      refine wpOp_mono ?_ (run_told hsl hpr hdo h' hi hd hrd)
      rintro a' w' ⟨C', hw', hD⟩
      subst hw'
      exact ih hD hdec
    have hdist : ∀ (l : Plan) (d : List Nat), i ∈ d → planOk ops b lt d l = true → ∀ g ∈ l, g.1 ≠ i := by
      intro l
      induction l with
      | nil => intro d _ _ g hg; cases hg
      | cons x l ih =>
        intro d hd hpl g hg
        obtain ⟨j, fl'⟩ := x
        have hp' := plan_cons hpl
        rcases List.mem_cons.1 hg with rfl | hg
        · intro e; simp only at e; exact hp'.2.1 (by rw [e]; exact hd)
        · exact ih (j :: d) (List.mem_cons_of_mem _ hd) hp'.2.2.2.2 g hg
    rcases hr' with rfl | ⟨j, fl, r2, rfl⟩
    · rcases plan_cover h'.plan i his with h1 | ⟨g, hg, _⟩
      · exact told h1 (fun g hg => by cases hg)
      · cases hg
    · rcases plan_cover h'.plan i his with h1 | ⟨g, hg, h1⟩
      · exact told h1 (hdist _ _ h1 h'.plan)
      · rcases List.mem_cons.1 hg with rfl | hg
        · simp only at h1
          subst h1
          refine wpOp_mono ?_ (run_eff hL0 hsl hpr hdo h' hi)
          rintro a' w' ⟨C', E2, H2, hw', hD⟩
          subst hw'
          exact ih hD hdec
        · exfalso
          have h2 := (plan_cons h'.plan).2.2.2.1.2.2 g hg
          rw [h1] at h2
          have h3 := hpre j h2
          rw [h'.fresh (j, some fl) (by simp)] at h3
          cases h3
/-- the world when a draw has been taken -/
theorem Ext.drawn {C : Ctx} : Ext C { C with w := { C.w with drawn := C.w.drawn + 1 } } where
  dom _ h := h
  β _ _ := rfl
  len _ _ := Nat.le_refl _
  σ _ _ _ := rfl
  im _ h := h
  old _ _ _ := rfl
  imOld _ _ h := .inl h
  ownOld _ _ h := h
  size := Nat.le_refl _
  shape _ _ h := h
  same := ⟨rfl, rfl, rfl⟩
  hi := Nat.le_refl _
  fresh _ h := .inl h
theorem SRel.drawn {e : Env} (hS : SRel C e H a C.w) : SRel { C with w := { C.w with drawn := C.w.drawn + 1 } } e H a { C.w with drawn := C.w.drawn + 1 } where
  world := rfl
  heap := {
    obj := fun l o hg hd => (hS.heap.obj l o hg hd).mono Ext.drawn rfl rfl rfl fun _ _ => rfl
    own := fun l o b hg hd hb => hS.heap.own l o b hg hd (by cases o <;> exact hb)
    inj := fun l l' o o' b hg hg' hd hd' hb hb' => hS.heap.inj l l' o o' b hg hg' hd hd' (by cases o <;> exact hb) (by cases o' <;> exact hb')
    lt := hS.heap.lt
    dom := hS.heap.dom
    hi := hS.heap.hi }
  env := fun t => Rel.mono Ext.drawn _ _ (hS.env t)
  defers := hS.defers
theorem region_draw {Q : AX → Env → Heap → Prop} {id : Nat} {pl : Plan} {e : Env} (hL0 : LibOk P C0) (hm : P.follows .mixedOrders = true) (hd : drawOk ops b pl = true) (hE : Ext C0 C) (hS : SRel C e H a C.w) (hn : a.tmps.size = n) (hdo : ops.toList.all (dstOk n) = true)
    (h : awpD P O ops pl (Q .normal) (fun v => Q (.panic v)) e H) : (Code.region id ops true).wp P (Post C0 n Q) a C.w := by
  simp only [drawOk, Bool.and_eq_true] at hd
  obtain ⟨⟨⟨hpr, hed⟩, hsl⟩, hpl⟩ := hd
  refine wp_region_any hm ?_
  have hS' := hS.drawn
  have hL : ∀ f, isL (Array.replicate ops.size false) f = false := by
    intro f
    unfold isL
    rw [Array.getD_eq_getD_getElem?, Array.getElem?_replicate]
    split <;> rfl
  exact draw_any hL0 hsl hpr hed hdo ops.size (C := { C with w := { C.w with drawn := C.w.drawn + 1 } }) (done := []) (r := pl) (E := e) (H := H) {
    ext := hE.trans Ext.drawn
    heap := hS'.heap
    env := fun t => .inr (hS'.env t)
    defers := hS'.defers
    size := hn
    lsize := by simp
    plan := hpl
    closed := fun f hf => by cases hf
    todo := fun f hf => by cases hf
    apart := fun f hf => by cases hf
    fresh := fun g _ => hL g.1
    down := fun j hj => by rw [hL j] at hj; cases hj
    run := h } (by
      have : unl ops (Array.replicate ops.size false) ≤ (List.range ops.size).length := List.countP_le_length
      simpa using this)
end
end Go.Sim
