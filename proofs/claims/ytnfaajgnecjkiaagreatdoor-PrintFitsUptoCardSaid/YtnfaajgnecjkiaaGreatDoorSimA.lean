/- Abstract values, contexts, heaps and the loads, operations and conversions over them are sound in the machine. -/
import Derived.Calls
import Derived.Laws.Sem
import Derived.Laws.Cells
import Derived.Laws.Entries
import Derived.Lib.Strings
import Derived.Laws.BytesArg
import Derived.Lib.Builder
import Derived.MapKept
import Derived.Orders
import Derived.LaidEqlPtr
set_option linter.unusedVariables false
set_option linter.unusedSimpArgs false
namespace Go.Sim
inductive AV where
  | any
  | bool (b : Bool)
  | int (k : IntKind) (n : Int)
  | str (s : List UInt8)
  | nilp
  | ptr (l : Nat) (off : Nat)
  | cptr (cs : List AV) (off : Nat)
  | nilslice
  | zcap
  | slice (sz : Nat) (xs : List AV)
  | mslice (sz l i n : Nat)
  | meptr (sz l ver i off : Nat)
  | nilmap
  | map (l : Nat)
  | cmap (ks vs : List AV)
  | func (fn : Fn) (first cap : List AV)
  | nilfunc
  | iface (t : TypeId) (v : AV)
  | niliface
  | agg (cs : List AV)
  | tuple (vs : List AV)
  deriving Inhabited

structure Ctx where
  dom : Nat → Prop
  σ : Nat → Option Nat
  β : Nat → Nat
  len : Nat → Nat
  own : Nat → Prop
  im : Nat → Prop
  /-- slots from here on are free for what is new -/
  hi : Nat
  w : World

/-- a block that can be read, and that nobody writes any more -/
def Ctx.still (C : Ctx) (b : Nat) : Prop := C.im b ∧ ¬ C.own b ∧ b < C.w.heap.size
/-- no references to mutable objects -/
def Ctx.pure (C : Ctx) : Ctx := { C with dom := fun _ => False, hi := 0 }

def _root_.Go.Value.one : Value → Bool
  | .agg _ | .tuple _ => false
  | _ => true
def CellsAt (w : World) (b o : Nat) (vs : List Value) : Prop := ∀ j v, vs[j]? = some v → w.cell? ⟨b, o + j, none⟩ = some v
def RowAt (w : World) (sz b o : Nat) (vs : List Value) : Prop := ∀ j v, vs[j]? = some v → v.cells.size = sz ∧ (∀ c ∈ v.cells.toList, c.one = true) ∧ CellsAt w b (o + j * sz) v.cells.toList

mutual
def Rel (C : Ctx) : AV → Value → Prop
  | .any, _ => True
  | .bool b, v => v = .bool b
  | .int k n, v => v = .int k n
  | .str s, v => v = .string ⟨s.toArray⟩
  | .nilp, v => v = .pointer none
  | .ptr l off, v => C.dom l ∧ v = .pointer (some ⟨C.β l, off, none⟩)
  | .cptr cs off, v => ∃ b o vs, v = .pointer (some ⟨b, o + off, none⟩) ∧ C.still b ∧ RelAll C.pure cs vs ∧ CellsAt C.w b o vs
  | .nilslice, v => v = .slice none 0 0
  | .zcap, v => ∃ a, v = .slice a 0 0
  | .slice sz xs, v => ∃ a cap, v = .slice a xs.length cap ∧ xs.length ≤ cap ∧ (xs = [] ∨ ∃ b o vs, a = some ⟨b, o, none⟩ ∧ C.still b ∧ RelAll C.pure xs vs ∧ RowAt C.w sz b o vs)
  | .mslice sz l i n, v => C.dom l ∧ i + n ≤ C.len l ∧ ∃ a cap, v = .slice a n cap ∧ n ≤ cap ∧ (i + n = C.len l → (C.σ l = none ∧ cap = 0 ∧ i = 0) ∨ ∃ b e m, C.σ l = some b ∧ a = some ⟨b, i * sz, none⟩ ∧ C.w.shape? b = some (e, m) ∧ (i + cap) * sz ≤ m)
  | .meptr sz l ver i off, v => C.dom l ∧ ver ≤ C.len l ∧ ∃ b o, v = .pointer (some ⟨b, o, none⟩) ∧ (ver = C.len l → C.σ l = some b ∧ o = i * sz + off)
  | .nilmap, v => v = .map none
  | .map l, v => C.dom l ∧ v = .map (some (C.β l))
  | .cmap ks vs, v => ∃ b es clock, v = .map (some b) ∧ C.still b ∧ C.w.heap[b]? = some (.map es clock) ∧ RelAll C.pure ks (es.toList.map (·.key)) ∧ RelAll C.pure vs (es.toList.map (·.val))
  | .func fn first cap, v => ∃ f c, v = .func fn f c ∧ RelAll C first f.toList ∧ RelAll C cap c.toList
  | .nilfunc, v => v = .nilFunc
  | .iface t x, v => ∃ y, v = .iface t y ∧ Rel C x y
  | .niliface, v => v = .nilIface
  | .agg cs, v => ∃ vs, v = .agg vs ∧ RelAll C cs vs.toList
  | .tuple cs, v => ∃ vs, v = .tuple vs ∧ RelAll C cs vs.toList
def RelAll (C : Ctx) : List AV → List Value → Prop
  | [], vs => vs = []
  | x :: xs, vs => ∃ v r, vs = v :: r ∧ Rel C x v ∧ RelAll C xs r
end
end Go.Sim
namespace Go.Sim
def SameIO (w w' : World) : Prop := w'.os = w.os ∧ w'.output = w.output ∧ w'.tape = w.tape
theorem SameIO.refl (w : World) : SameIO w w := ⟨rfl, rfl, rfl⟩
theorem SameIO.trans {a b c : World} (h : SameIO a b) (k : SameIO b c) : SameIO a c := ⟨k.1.trans h.1, k.2.1.trans h.2.1, k.2.2.trans h.2.2⟩
structure Ext (C C' : Ctx) : Prop where
  dom : ∀ l, C.dom l → C'.dom l
  β : ∀ l, C.dom l → C'.β l = C.β l
  len : ∀ l, C.dom l → C.len l ≤ C'.len l
  σ : ∀ l, C.dom l → C'.len l = C.len l → C'.σ l = C.σ l
  im : ∀ b, C.im b → C'.im b
  old : ∀ b, b < C.w.heap.size → ¬ C.own b → C'.w.heap[b]? = C.w.heap[b]?
  imOld : ∀ b, b < C.w.heap.size → C'.im b → C.im b ∨ C.own b
  ownOld : ∀ b, b < C.w.heap.size → C'.own b → C.own b
  size : C.w.heap.size ≤ C'.w.heap.size
  shape : ∀ b s, C.w.shape? b = some s → C'.w.shape? b = some s
  same : SameIO C.w C'.w
  hi : C.hi ≤ C'.hi
  fresh : ∀ l, C'.dom l → C.dom l ∨ C.hi ≤ l
theorem Ext.still {C C' : Ctx} (h : Ext C C') (b : Nat) (hb : C.still b) : C'.still b ∧ C'.w.heap[b]? = C.w.heap[b]? :=
  ⟨⟨h.im b hb.1, fun k => hb.2.1 (h.ownOld b hb.2.2 k), Nat.lt_of_lt_of_le hb.2.2 h.size⟩, h.old b hb.2.2 hb.2.1⟩

theorem Ext.refl (C : Ctx) : Ext C C := ⟨fun _ h => h, fun _ _ => rfl, fun _ _ => Nat.le_refl _, fun _ _ _ => rfl, fun _ h => h, fun _ _ _ => rfl, fun _ _ h => .inl h, fun _ _ h => h, Nat.le_refl _, fun _ _ h => h, SameIO.refl _, Nat.le_refl _, fun _ h => .inl h⟩
theorem Ext.trans {A B C : Ctx} (h : Ext A B) (k : Ext B C) : Ext A C where
  dom l hl := k.dom l (h.dom l hl)
  β l hl := (k.β l (h.dom l hl)).trans (h.β l hl)
  len l hl := Nat.le_trans (h.len l hl) (k.len l (h.dom l hl))
  σ l hl e := by
    have h1 := h.len l hl
    have h2 := k.len l (h.dom l hl)
    exact (k.σ l (h.dom l hl) (by omega)).trans (h.σ l hl (by omega))
  im b hb := k.im b (h.im b hb)
  old b hb ho := (k.old b (Nat.lt_of_lt_of_le hb h.size) fun e => ho (h.ownOld b hb e)).trans (h.old b hb ho)
  imOld b hb hi := (k.imOld b (Nat.lt_of_lt_of_le hb h.size) hi).elim (h.imOld b hb) fun e => .inr (h.ownOld b hb e)
  ownOld b hb ho := h.ownOld b hb (k.ownOld b (Nat.lt_of_lt_of_le hb h.size) ho)
  size := Nat.le_trans h.size k.size
  shape b s hs := k.shape b s (h.shape b s hs)
  same := h.same.trans k.same
  hi := Nat.le_trans h.hi k.hi
  fresh l hl := (k.fresh l hl).elim (h.fresh l) fun e => .inr (Nat.le_trans h.hi e)
theorem Ext.pure {C C' : Ctx} (h : Ext C C') : Ext C.pure C'.pure where
  dom _ hl := hl
  β _ hl := hl.elim
  len _ hl := hl.elim
  σ _ hl := hl.elim
  im := h.im
  old := h.old
  imOld := h.imOld
  ownOld := h.ownOld
  size := h.size
  shape := h.shape
  same := h.same
  hi := Nat.le_refl _
  fresh _ hl := hl.elim
theorem cell_of_heap {w w' : World} {b : Nat} (h : w'.heap[b]? = w.heap[b]?) (o : Nat) : w'.cell? ⟨b, o, none⟩ = w.cell? ⟨b, o, none⟩ := by
  simp only [World.cell?, h]

theorem CellsAt.of_heap {w w' : World} {b o : Nat} {vs : List Value} (h : CellsAt w b o vs) (e : w'.heap[b]? = w.heap[b]?) : CellsAt w' b o vs :=
  fun j v hj => (cell_of_heap e _).trans (h j v hj)
theorem RowAt.of_heap {w w' : World} {sz b o : Nat} {vs : List Value} (h : RowAt w sz b o vs) (e : w'.heap[b]? = w.heap[b]?) : RowAt w' sz b o vs :=
  fun j v hj => ⟨(h j v hj).1, (h j v hj).2.1, (h j v hj).2.2.of_heap e⟩

/-- what a value's reading needs of another context -/
structure Mono (C C' : Ctx) : Prop where
  dom : ∀ l, C.dom l → C'.dom l
  β : ∀ l, C.dom l → C'.β l = C.β l
  len : ∀ l, C.dom l → C.len l ≤ C'.len l
  σ : ∀ l, C.dom l → C'.len l = C.len l → C'.σ l = C.σ l
  still : ∀ b, C.still b → C'.still b ∧ C'.w.heap[b]? = C.w.heap[b]?
  shape : ∀ b s, C.w.shape? b = some s → C'.w.shape? b = some s
theorem Ext.mono {C C' : Ctx} (h : Ext C C') : Mono C C' := ⟨h.dom, h.β, h.len, h.σ, h.still, h.shape⟩
theorem Mono.pure {C C' : Ctx} (h : Mono C C') : Mono C.pure C'.pure :=
  ⟨fun _ h => h, fun _ h => h.elim, fun _ h => h.elim, fun _ h => h.elim, h.still, h.shape⟩

mutual
theorem Rel.mono' {C C' : Ctx} (h : Mono C C') : ∀ (v : AV) (x : Value), Rel C v x → Rel C' v x
  | .any, _, _ => trivial
  | .bool _, _, r => r
  | .int _ _, _, r => r
  | .str _, _, r => r
  | .nilp, _, r => r
  | .ptr l off, x, r => by
    obtain ⟨hl, rfl⟩ := r
    exact ⟨h.dom l hl, by rw [h.β l hl]⟩
  | .cptr cs off, x, r => by
    obtain ⟨b, o, vs, rfl, hs, hr, hc⟩ := r
    exact ⟨b, o, vs, rfl, (h.still b hs).1, RelAll.mono' h.pure cs vs hr, hc.of_heap (h.still b hs).2⟩
  | .nilslice, _, r => r
  | .zcap, _, r => r
  | .slice sz xs, x, r => by
    obtain ⟨a, cap, rfl, hl, hx⟩ := r
    refine ⟨a, cap, rfl, hl, ?_⟩
    rcases hx with hx | ⟨b, o, vs, ha, hs, hr, hc⟩
    · exact .inl hx
    · exact .inr ⟨b, o, vs, ha, (h.still b hs).1, RelAll.mono' h.pure xs vs hr, hc.of_heap (h.still b hs).2⟩
  | .mslice sz l i n, x, r => by
    obtain ⟨hl, hle, a, cap, rfl, hn, hx⟩ := r
    have h1 := h.len l hl
    refine ⟨h.dom l hl, by omega, a, cap, rfl, hn, fun e => ?_⟩
    have e1 : C'.len l = C.len l := by omega
    rcases hx (by omega) with ⟨h2, h3⟩ | ⟨b, e, m, h2, h3, h4, h5⟩
    · exact .inl ⟨(h.σ l hl e1).trans h2, h3⟩
    · exact .inr ⟨b, e, m, (h.σ l hl e1).trans h2, h3, h.shape _ _ h4, h5⟩
  | .meptr sz l ver i off, x, r => by
    obtain ⟨hl, hle, b, o, rfl, hx⟩ := r
    have h1 := h.len l hl
    refine ⟨h.dom l hl, by omega, b, o, rfl, fun e => ?_⟩
    have e1 : C'.len l = C.len l := by omega
    obtain ⟨h2, h3⟩ := hx (by omega)
    exact ⟨(h.σ l hl e1).trans h2, h3⟩
  | .nilmap, _, r => r
  | .map l, x, r => by
    obtain ⟨hl, rfl⟩ := r
    exact ⟨h.dom l hl, by rw [h.β l hl]⟩
  | .cmap ks vs, x, r => by
    obtain ⟨b, es, clock, rfl, hs, hh, hk, hv⟩ := r
    exact ⟨b, es, clock, rfl, (h.still b hs).1, (h.still b hs).2.trans hh, RelAll.mono' h.pure ks _ hk, RelAll.mono' h.pure vs _ hv⟩
  | .func fn first cap, x, r => by
    obtain ⟨f, c, rfl, h1, h2⟩ := r
    exact ⟨f, c, rfl, RelAll.mono' h first _ h1, RelAll.mono' h cap _ h2⟩
  | .nilfunc, _, r => r
  | .iface t v, x, r => by
    obtain ⟨y, rfl, h1⟩ := r
    exact ⟨y, rfl, Rel.mono' h v y h1⟩
  | .niliface, _, r => r
  | .agg cs, x, r => by
    obtain ⟨vs, rfl, h1⟩ := r
    exact ⟨vs, rfl, RelAll.mono' h cs _ h1⟩
  | .tuple cs, x, r => by
    obtain ⟨vs, rfl, h1⟩ := r
    exact ⟨vs, rfl, RelAll.mono' h cs _ h1⟩
theorem RelAll.mono' {C C' : Ctx} (h : Mono C C') : ∀ (vs : List AV) (xs : List Value), RelAll C vs xs → RelAll C' vs xs
  | [], _, r => r
  | v :: vs, xs, r => by
    obtain ⟨y, ys, rfl, h1, h2⟩ := r
    exact ⟨y, ys, rfl, Rel.mono' h v y h1, RelAll.mono' h vs ys h2⟩
end
theorem Rel.mono {C C' : Ctx} (h : Ext C C') (v : AV) (x : Value) (r : Rel C v x) : Rel C' v x := Rel.mono' h.mono v x r
theorem RelAll.mono {C C' : Ctx} (h : Ext C C') (vs : List AV) (xs : List Value) (r : RelAll C vs xs) : RelAll C' vs xs := RelAll.mono' h.mono vs xs r
end Go.Sim

namespace Go.Sim

/-! ### objects, heaps, states -/
inductive AObj where
  | box (t : TypeId) (cs : List AV)
  | row (t : TypeId) (sz : Nat) (xs : List AV)
  | map (ks vs : List AV)
  | siter (s : List UInt8) (pos : Nat)
  deriving Inhabited
abbrev Heap := List (Option AObj)
def Heap.get (H : Heap) (l : Nat) : Option AObj := (H[l]?).join
abbrev Env := List (Nat × AV)
def Env.get : Env → Nat → AV
  | [], _ => .any
  | (i, v) :: e, t => if i = t then v else Env.get e t

def ORel (C : Ctx) (l : Nat) : AObj → Prop
  | .box t cs => ∃ vs, C.w.heap[C.β l]? = some (.cells vs t (0, 0)) ∧ RelAll C cs vs.toList
  | .row t sz xs => C.len l = xs.length ∧ ((C.σ l = none ∧ xs = []) ∨ ∃ b cs fz vs, C.σ l = some b ∧ C.w.heap[b]? = some (.cells cs t fz) ∧ RelAll C.pure xs vs ∧ RowAt C.w sz b 0 vs ∧ xs.length * sz ≤ cs.size ∧ ∀ o, o < cs.size → C.w.frozen? ⟨b, o, none⟩ = false)
  | .map ks vs => ∃ es clock, C.w.heap[C.β l]? = some (.map es clock) ∧ RelAll C ks (es.toList.map (·.key)) ∧ RelAll C vs (es.toList.map (·.val))
  | .siter s pos => C.w.heap[C.β l]? = some (.stringIter ⟨s.toArray⟩ pos)
def blockOf (C : Ctx) (l : Nat) : AObj → Option Nat
  | .row _ _ _ => C.σ l
  | _ => some (C.β l)
structure HRel (C : Ctx) (H : Heap) : Prop where
  obj : ∀ l o, H.get l = some o → C.dom l → ORel C l o
  own : ∀ l o b, H.get l = some o → C.dom l → blockOf C l o = some b → C.own b
  inj : ∀ l l' o o' b, H.get l = some o → H.get l' = some o' → C.dom l → C.dom l' → blockOf C l o = some b → blockOf C l' o' = some b → l = l'
  lt : ∀ b, C.own b → b < C.w.heap.size
  dom : ∀ l, C.dom l → l < H.length
  hi : C.hi ≤ H.length
structure SRel (C : Ctx) (e : Env) (H : Heap) (a : Act) (w : World) : Prop where
  world : C.w = w
  heap : HRel C H
  env : ∀ t, Rel C (e.get t) (a.tmps.getD t undef)
  defers : a.defers = []

/-! ### constants and operands -/
def AV.ofVal1 : Value → AV
  | .bool b => .bool b
  | .int k n => .int k n
  | .string s => .str s.data.toList
  | .pointer none => .nilp
  | .slice none 0 0 => .nilslice
  | .map none => .nilmap
  | .nilFunc => .nilfunc
  | .nilIface => .niliface
  | .func fn ⟨[]⟩ ⟨[]⟩ => .func fn [] []
  | _ => .any
def AV.ofVal : Value → AV
  | .agg cs => .agg (cs.toList.map AV.ofVal1)
  | .tuple cs => .tuple (cs.toList.map AV.ofVal1)
  | v => AV.ofVal1 v
theorem rel_ofVal1 (C : Ctx) (v : Value) : Rel C (AV.ofVal1 v) v := by
  unfold AV.ofVal1
  split <;> simp [Rel, RelAll]
theorem relAll_map {C : Ctx} {f : Value → AV} : ∀ (l : List Value), (∀ v ∈ l, Rel C (f v) v) → RelAll C (l.map f) l
  | [], _ => rfl
  | v :: l, h => ⟨v, l, rfl, h v (by simp), relAll_map l fun x hx => h x (by simp [hx])⟩
theorem rel_ofVal (C : Ctx) (v : Value) : Rel C (AV.ofVal v) v := by
  unfold AV.ofVal
  split
  · exact ⟨_, rfl, relAll_map _ fun x _ => rel_ofVal1 C x⟩
  · exact ⟨_, rfl, relAll_map _ fun x _ => rel_ofVal1 C x⟩
  · exact rel_ofVal1 C _
def ope (e : Env) : Operand → AV
  | .tmp t => e.get t
  | .const v => .ofVal v
  | .global _ => .any
  | .func f => .func (.func f) [] []
theorem rel_ope {C : Ctx} {e : Env} {H : Heap} {a : Act} {w : World} (h : SRel C e H a w) (x : Operand) : Rel C (ope e x) (a.eval x) := by
  cases x with
  | tmp t => exact h.env t
  | const v => exact rel_ofVal C v
  | global g => trivial
  | func f => exact ⟨#[], #[], rfl, rfl, rfl⟩
theorem relAll_ope {C : Ctx} {e : Env} {H : Heap} {a : Act} {w : World} (h : SRel C e H a w) : ∀ (l : List Operand), RelAll C (l.map (ope e)) (l.map a.eval)
  | [] => rfl
  | x :: l => ⟨_, _, rfl, rel_ope h x, relAll_ope h l⟩

theorem relAll_length {C : Ctx} : ∀ {vs : List AV} {xs : List Value}, RelAll C vs xs → xs.length = vs.length
  | [], _, h => by cases h; rfl
  | v :: vs, _, h => by obtain ⟨x, r, rfl, _, h2⟩ := h; simp [relAll_length h2]
theorem relAll_get {C : Ctx} : ∀ {vs : List AV} {xs : List Value}, RelAll C vs xs → ∀ (j : Nat) (v : AV), vs[j]? = some v → ∃ x, xs[j]? = some x ∧ Rel C v x
  | [], _, _, j, v, hj => by simp at hj
  | u :: vs, _, h, j, v, hj => by
    obtain ⟨x, r, rfl, h1, h2⟩ := h
    cases j with
    | zero => simp at hj; subst hj; exact ⟨x, rfl, h1⟩
    | succ j => simp at hj ⊢; exact relAll_get h2 j v hj
theorem relAll_take {C : Ctx} : ∀ {vs : List AV} {xs : List Value} (n : Nat), RelAll C vs xs → RelAll C (vs.take n) (xs.take n)
  | [], _, n, h => by cases h; simp [RelAll]
  | u :: vs, _, 0, h => by simp [RelAll]
  | u :: vs, _, n + 1, h => by
    obtain ⟨x, r, rfl, h1, h2⟩ := h
    exact ⟨x, r.take n, rfl, h1, relAll_take n h2⟩
theorem relAll_drop {C : Ctx} : ∀ {vs : List AV} {xs : List Value} (n : Nat), RelAll C vs xs → RelAll C (vs.drop n) (xs.drop n)
  | [], _, n, h => by cases h; simp [RelAll]
  | u :: vs, _, 0, h => h
  | u :: vs, _, n + 1, h => by
    obtain ⟨x, r, rfl, h1, h2⟩ := h
    exact relAll_drop n h2
theorem relAll_append {C : Ctx} : ∀ {vs us : List AV} {xs ys : List Value}, RelAll C vs xs → RelAll C us ys → RelAll C (vs ++ us) (xs ++ ys)
  | [], _, _, _, h, k => by cases h; exact k
  | _ :: _, _, _, _, h, k => by
    obtain ⟨x, r, rfl, h1, h2⟩ := h
    exact ⟨x, _, rfl, h1, relAll_append h2 k⟩
/-- Without references: the same in every world where nothing still has moved. -/
theorem Ctx.pure_ext (C : Ctx) : Ext C.pure C := ⟨fun _ h => h.elim, fun _ h => h.elim, fun _ h => h.elim, fun _ h => h.elim, fun _ h => h, fun _ _ _ => rfl, fun _ _ h => .inl h, fun _ _ h => h, Nat.le_refl _, fun _ _ h => h, SameIO.refl _, Nat.zero_le _, fun _ _ => .inr (Nat.zero_le _)⟩
theorem Rel.of_pure {C : Ctx} {v : AV} {x : Value} (h : Rel C.pure v x) : Rel C v x := Rel.mono C.pure_ext v x h
theorem RelAll.of_pure {C : Ctx} {v : List AV} {x : List Value} (h : RelAll C.pure v x) : RelAll C v x := RelAll.mono C.pure_ext v x h
theorem addr_add (b o n : Nat) : (⟨b, o, none⟩ : Addr).add n = ⟨b, o + n, none⟩ := by
  unfold Addr.add; split <;> simp_all

/-! ### loads -/
def descAgg : TypeDesc → Bool
  | .struct _ | .array _ _ => true
  | _ => false
/-- what a load of a type takes: an aggregate or not, and how many cells -/
def ldInfo (P : Program) (t : TypeId) : Option (Bool × Nat) :=
  match P.underlying t, P.info? t with
  | some d, some i => some (descAgg d, i.size)
  | _, _ => none
def ldCells (i : Option (Bool × Nat)) (cs : List AV) (k : AV → Prop) : Prop :=
  match i with
  | some (true, n) => n ≤ cs.length ∧ k (.agg (cs.take n))
  | some (false, _) => match cs with | c :: _ => k c | [] => False
  | none => False
def elemCells (v : AV) (k : List AV → Prop) : Prop :=
  match v with
  | .any | .tuple _ => False
  | .agg cs => k cs
  | v => k [v]
def AV.one : AV → Bool
  | .any | .agg _ | .tuple _ => false
  | _ => true
theorem Rel.one {C : Ctx} {v : AV} {x : Value} (h : Rel C v x) (hv : v.one = true) : x.one = true := by
  cases v <;> first | (simp [AV.one] at hv; done) | (cases x <;> first | rfl | (simp [Rel] at h; done))
theorem one_cells {x : Value} (h : x.one = true) : x.cells = #[x] := by cases x <;> first | rfl | (simp [Value.one] at h; done)
theorem elemCells_rel {C : Ctx} {v : AV} {x : Value} {k : List AV → Prop} (h : Rel C v x) (hk : elemCells v k) : ∃ cs, k cs ∧ RelAll C cs x.cells.toList := by
  cases v
  case any => exact hk.elim
  case agg cs => obtain ⟨vs, rfl, h2⟩ := h; exact ⟨cs, hk, h2⟩
  case tuple cs => exact hk.elim
  all_goals
    have h1 := one_cells (h.one rfl)
    exact ⟨_, hk, x, [], by rw [h1], h, rfl⟩
def evLoad (P : Program) (H : Heap) (t : TypeId) (p : AV) (k : AV → Prop) : Prop :=
  match p with
  | .cptr cs off => ldCells (ldInfo P t) (cs.drop off) k
  | .ptr l off => match H.get l with
    | some (.box _ cs) => ldCells (ldInfo P t) (cs.drop off) k
    | _ => False
  | .meptr sz l ver i off => match H.get l with
    | some (.row _ sz' xs) => sz' = sz ∧ ver = xs.length ∧ i < xs.length ∧ elemCells (xs.getD i .any) fun cs => ldCells (ldInfo P t) (cs.drop off) k
    | _ => False
  | _ => False

theorem run_isAgg' {P : Program} {t : TypeId} {d : TypeDesc} (h : P.underlying t = some d) (w : World) :
    (isAgg t).run P w = .ok (descAgg d) w := by
  simp only [isAgg, Sem.run_bind, run_underlying h, Result.andThen_ok]
  cases d <;> rfl
theorem run_typeInfo' {P : Program} {t : TypeId} {i : TypeInfo} (h : P.info? t = some i) (w : World) : (typeInfo t).run P w = .ok i w := by
  simp [typeInfo, h]
theorem loadVar_cells {P : Program} {C : Ctx} {w : World} {t : TypeId} {b o : Nat} {cs : List AV} {vs : List Value} {k : AV → Prop}
    (hr : RelAll C cs vs) (hc : CellsAt w b o vs) (h : ldCells (ldInfo P t) cs k) : ∃ v x, k v ∧ Rel C v x ∧ (loadVar t ⟨b, o, none⟩).run P w = .ok x w := by
  unfold ldInfo at h
  cases hu : P.underlying t with
  | none => simp [hu, ldCells] at h
  | some d =>
    cases hi : P.info? t with
    | none => simp [hu, hi, ldCells] at h
    | some i =>
      simp only [hu, hi] at h
      simp only [loadVar, Sem.run_bind, run_isAgg' hu, Result.andThen_ok]
      by_cases ha : descAgg d = true
      · rw [ha] at h ⊢
        obtain ⟨hn, hk⟩ := h
        refine ⟨_, .agg (vs.take i.size).toArray, hk, ⟨_, rfl, by simpa using relAll_take i.size hr⟩, ?_⟩
        have hl := relAll_length hr
        have := run_loadCells_list (P := P) (w := w) ⟨b, o, none⟩ (vs.take i.size) (fun j v hj => by
          rw [addr_add]; exact hc j v (by rw [List.getElem?_take] at hj; split at hj <;> simp_all))
        simp only [List.length_take, hl, Nat.min_eq_left hn] at this
        simp [sizeOf, run_typeInfo' hi, this]
      · have ha' : descAgg d = false := by simpa using ha
        rw [ha'] at h ⊢
        cases cs with
        | nil => exact h.elim
        | cons c cs =>
          obtain ⟨x, r, rfl, h1, h2⟩ := hr
          refine ⟨c, x, h, h1, ?_⟩
          have := hc 0 x rfl
          simp only [Nat.add_zero] at this
          simp [this]

theorem evLoad_sound {P : Program} {C : Ctx} {H : Heap} {t : TypeId} {p : AV} {pv : Value} {k : AV → Prop} (hH : HRel C H) (hp : Rel C p pv) (h : evLoad P H t p k) :
    ∃ v x, k v ∧ Rel C v x ∧ (Instr.loadAt t pv).run P C.w = .ok x C.w := by
  cases p <;> try exact h.elim
  case ptr l off =>
    obtain ⟨hd, rfl⟩ := hp
    simp only [evLoad] at h
    split at h <;> try exact h.elim
    rename_i cs hg
    obtain ⟨vs, hh, hr⟩ := hH.obj l _ hg hd
    have hc : CellsAt C.w (C.β l) off (vs.toList.drop off) := fun j v hj => by
      rw [List.getElem?_drop] at hj
      simpa [World.cell?, hh] using hj
    obtain ⟨v, x, hk, h1, h2⟩ := loadVar_cells (P := P) (relAll_drop off hr) hc h
    exact ⟨v, x, hk, h1, by simpa [Instr.loadAt, Instr.sureAddr] using h2⟩
  case cptr cs off =>
    obtain ⟨b, o, vs, rfl, hs, hr, hc⟩ := hp
    have hc' : CellsAt C.w b (o + off) (vs.drop off) := fun j v hj => by
      rw [List.getElem?_drop] at hj
      have := hc _ _ hj
      rwa [← Nat.add_assoc] at this
    obtain ⟨v, x, hk, h1, h2⟩ := loadVar_cells (P := P) (relAll_drop off hr) hc' h
    exact ⟨v, x, hk, h1.of_pure, by simpa [Instr.loadAt, Instr.sureAddr] using h2⟩
  case meptr sz l ver i off =>
    obtain ⟨hd, hle, b, o, rfl, hx⟩ := hp
    simp only [evLoad] at h
    split at h <;> try exact h.elim
    rename_i sz' xs hg
    obtain ⟨rfl, rfl, hi, h⟩ := h
    obtain ⟨hlen, ho⟩ := hH.obj l _ hg hd
    obtain ⟨hb, rfl⟩ := hx hlen.symm
    rcases ho with ⟨ho, _⟩ | ⟨b', cs, fz, vs, hb', hh, hr, hrow, _, _⟩
    · rw [hb] at ho; cases ho
    · have hbb : b' = b := by rw [hb] at hb'; cases hb'; rfl
      subst hbb
      obtain ⟨x, hxj, hrel⟩ := relAll_get hr i (xs.getD i .any) (by simp [List.getD_eq_getElem?_getD, List.getElem?_eq_getElem hi])
      obtain ⟨hsz, _, hcx⟩ := hrow i x hxj
      obtain ⟨ecs, h, hr'⟩ := elemCells_rel hrel h
      have hc' : CellsAt C.w b' (i * sz' + off) (x.cells.toList.drop off) := fun j v hj => by
        rw [List.getElem?_drop] at hj
        have := hcx _ _ hj
        simpa [Nat.add_assoc] using this
      obtain ⟨v, y, hk, h1, h2⟩ := loadVar_cells (P := P) (relAll_drop off hr') hc' h
      exact ⟨v, y, hk, h1.of_pure, by simpa [Instr.loadAt, Instr.sureAddr] using h2⟩
end Go.Sim

namespace Go.Sim
section
variable {P : Program} {w : World}

/-! ### arithmetic and comparison -/
def evInt (op : BinOp) (kx : IntKind) (a : Int) (ky : IntKind) (b : Int) (k : AV → Prop) : Prop :=
  match op with
  | .add => kx = ky ∧ k (.int kx (kx.wrap (a + b)))
  | .sub => kx = ky ∧ k (.int kx (kx.wrap (a - b)))
  | .mul => kx = ky ∧ k (.int kx (kx.wrap (a * b)))
  | .quo => kx = ky ∧ b ≠ 0 ∧ k (.int kx (kx.wrap (a.tdiv b)))
  | .rem => kx = ky ∧ b ≠ 0 ∧ k (.int kx (a.tmod b))
  | .and => kx = ky ∧ k (.int kx (kx.wrap (BitVec.ofInt kx.bits a &&& BitVec.ofInt kx.bits b).toNat))
  | .or => kx = ky ∧ k (.int kx (kx.wrap (BitVec.ofInt kx.bits a ||| BitVec.ofInt kx.bits b).toNat))
  | .shl => 0 ≤ b ∧ k (.int kx (kx.wrap (a * 2 ^ min b.toNat kx.bits)))
  | .shr => 0 ≤ b ∧ k (.int kx (a.fdiv (2 ^ min b.toNat kx.bits)))
  | .eql => kx = ky ∧ k (.bool (a == b))
  | .neq => kx = ky ∧ k (.bool (a != b))
  | .lss => kx = ky ∧ k (.bool (decide (a < b)))
  | .leq => kx = ky ∧ k (.bool (decide (a ≤ b)))
  | .gtr => kx = ky ∧ k (.bool (decide (b < a)))
  | .geq => kx = ky ∧ k (.bool (decide (b ≤ a)))
  | _ => False
theorem evInt_sound {C : Ctx} {op : BinOp} {t : TypeId} {kx ky : IntKind} {a b : Int} {k : AV → Prop} (h : evInt op kx a ky b k) :
    ∃ v x, k v ∧ Rel C v x ∧ (binOp op t (.int kx a) (.int ky b)).run P w = .ok x w := by
  cases op <;> simp only [evInt] at h <;> try exact h.elim
  all_goals first
    | (obtain ⟨rfl, h0, h⟩ := h
       refine ⟨_, _, h, rfl, ?_⟩
       simp [binOp, Op.intDiv, h0])
    | (obtain ⟨rfl, h⟩ := h
       refine ⟨_, _, h, rfl, ?_⟩
       simp [binOp, Op.intArith, Op.intBits, Op.intCmp]; done)
    | (obtain ⟨h0, h⟩ := h
       refine ⟨_, _, h, rfl, ?_⟩
       have : ¬ b < 0 := by omega
       simp [binOp, Op.shift, this])
def evStr (op : BinOp) (a b : List UInt8) (k : AV → Prop) : Prop :=
  match op with
  | .add => ((a.length + b.length : Nat) : Int) ≤ 9223372036854775807 ∧ k (.str (a ++ b))
  | .eql => k (.bool (a == b))
  | .neq => k (.bool (a != b))
  | _ => False
theorem bytes_toList (l : List UInt8) : (⟨l.toArray⟩ : ByteArray).toList = l := by
  rw [Lib.toList_data]
theorem size_mk (l : List UInt8) : (⟨l.toArray⟩ : ByteArray).size = l.length := by show l.toArray.size = _; simp
theorem evStr_sound {C : Ctx} {op : BinOp} {t : TypeId} {a b : List UInt8} {k : AV → Prop} (h : evStr op a b k) :
    ∃ v x, k v ∧ Rel C v x ∧ (binOp op t (.string ⟨a.toArray⟩) (.string ⟨b.toArray⟩)).run P w = .ok x w := by
  cases op <;> simp only [evStr] at h <;> try exact h.elim
  · refine ⟨_, _, h.2, rfl, ?_⟩
    have hm : IntKind.i64.max = 9223372036854775807 := by decide
    have hn : ¬ ((((⟨a.toArray⟩ : ByteArray).size + (⟨b.toArray⟩ : ByteArray).size : Nat) : Int) > IntKind.i64.max) := by
      rw [hm]; have := h.1; simp only [ByteArray.size, List.size_toArray]; omega
    have he : (⟨a.toArray⟩ : ByteArray) ++ ⟨b.toArray⟩ = ⟨(a ++ b).toArray⟩ := by
      apply ByteArray.ext; simp
    simp only [binOp, Op.stringOp]
    rw [if_neg hn, he]; rfl
  · exact ⟨_, _, h, rfl, by simp [binOp, Op.stringOp]⟩
  · exact ⟨_, _, h, rfl, by simp [binOp, Op.stringOp, bne]⟩
/-- '==' between values of other kinds than numbers and strings -/
inductive EqKind where
  | bool | pointer | iface | func | map | slice | other
  deriving DecidableEq
def eqKindOf : TypeDesc → EqKind
  | .bool => .bool
  | .pointer _ => .pointer
  | .interface _ => .iface
  | .func _ _ _ => .func
  | .map _ _ => .map
  | .slice _ => .slice
  | _ => .other
def eqKind (P : Program) (t : TypeId) : EqKind :=
  match P.underlying t with
  | some d => eqKindOf d
  | none => .other
/-- is a value of such a type nil? -/
def nilState (kd : EqKind) (x : AV) : Option Bool :=
  match kd, x with
  | .pointer, .nilp | .iface, .niliface | .func, .nilfunc | .map, .nilmap | .slice, .nilslice => some true
  | .pointer, .ptr _ _ | .pointer, .cptr _ _ | .pointer, .meptr _ _ _ _ _ | .iface, .iface _ _ | .func, .func _ _ _ | .map, .map _ | .map, .cmap _ _ | .slice, .slice _ (_ :: _) => some false
  | _, _ => none
def evNil (kd : EqKind) (x y : AV) : Option Bool :=
  match kd, x, y with
  | .bool, .bool a, .bool b => some (a == b)
  | _, _, _ => match nilState kd x, nilState kd y with
    | some true, some b => some b
    | some false, some true => some false
    | _, _ => none
theorem Rel.isPtr {C : Ctx} {x : AV} {v : Value} (h : Rel C x v) (hx : nilState .pointer x = some false) : ∃ b o, v = .pointer (some ⟨b, o, none⟩) := by
  cases x <;> first | (simp [nilState] at hx; done) | skip
  · obtain ⟨_, rfl⟩ := h; exact ⟨_, _, rfl⟩
  · obtain ⟨_, _, _, rfl, _⟩ := h; exact ⟨_, _, rfl⟩
  · obtain ⟨_, _, _, _, rfl, _⟩ := h; exact ⟨_, _, rfl⟩
theorem nilState_val {C : Ctx} {kd : EqKind} {x : AV} {v : Value} {b : Bool} (h : Rel C x v) (hx : nilState kd x = some b) :
    match kd with
    | .pointer => if b then v = .pointer none else ∃ a, v = .pointer (some a)
    | .iface => if b then v = .nilIface else ∃ t y, v = .iface t y
    | .func => if b then v = .nilFunc else ∃ f c d, v = .func f c d
    | .map => if b then v = .map none else ∃ r, v = .map (some r)
    | .slice => if b then v = .slice none 0 0 else ∃ a n c, v = .slice (some a) n c
    | _ => False := by
  cases kd <;> cases x <;> first | (simp [nilState] at hx; done) | skip
  case slice.slice sz xs =>
    cases xs with
    | nil => simp [nilState] at hx
    | cons y ys =>
      simp only [nilState, Option.some.injEq] at hx
      subst hx
      obtain ⟨a, cap, rfl, _, hr⟩ := h
      rcases hr with hr | ⟨b, o, vs, rfl, _⟩
      · cases hr
      · exact ⟨_, _, _, rfl⟩
  all_goals
    simp only [nilState, Option.some.injEq] at hx
    subst hx
    simp only [Rel] at h
    first
      | exact h
      | (obtain ⟨_, rfl⟩ := h; exact ⟨_, rfl⟩)
      | (obtain ⟨_, _, _, rfl, _⟩ := h; exact ⟨_, rfl⟩)
      | (obtain ⟨_, _, _, _, rfl, _⟩ := h; exact ⟨_, rfl⟩)
      | (obtain ⟨_, _, rfl, _⟩ := h; exact ⟨_, _, _, rfl⟩)
      | (obtain ⟨_, rfl, _⟩ := h; exact ⟨_, _, rfl⟩)
theorem evNil_sound {C : Ctx} {t : TypeId} {x y : AV} {a b : Value} {r : Bool} (hx : Rel C x a) (hy : Rel C y b) (h : evNil (eqKind P t) x y = some r) :
    (Op.equal t a b).run P w = .ok r w := by
  simp only [Op.equal]
  rw [show Op.maxDepth = 9999 + 1 from rfl, Op.equalIn]
  unfold eqKind at h
  cases hu : P.underlying t with
  | none => simp [hu, evNil, nilState] at h
  | some d =>
    simp only [hu] at h
    simp only [Sem.run_bind, run_underlying hu, Result.andThen_ok]
    unfold evNil at h
    split at h
    · rename_i hk
      simp only [Option.some.injEq] at h
      subst h
      cases d <;> first | (simp [eqKindOf] at hk; done) | skip
      simp only [Rel] at hx hy
      subst hx hy
      rfl
    · split at h <;> first | (cases h; done) | skip
      all_goals
        rename_i h1 h2
        simp only [Option.some.injEq] at h
        subst h
        have k1 := nilState_val hx h1
        have k2 := nilState_val hy h2
        cases d <;> simp only [eqKindOf] at k1 k2 <;> first | exact k1.elim | skip
        all_goals
          simp only [if_true, Bool.false_eq_true, if_false] at k1 k2
          (try split at k2) <;> (first | subst k1 | (obtain ⟨_, rfl⟩ := k1) | (obtain ⟨_, _, rfl⟩ := k1) | (obtain ⟨_, _, _, rfl⟩ := k1)) <;> (first | subst k2 | (obtain ⟨_, rfl⟩ := k2) | (obtain ⟨_, _, rfl⟩ := k2) | (obtain ⟨_, _, _, rfl⟩ := k2)) <;> simp_all
end
end Go.Sim

namespace Go.Sim
section
variable {P : Program} {w : World}

/-! ### lengths, fields, elements, cuts -/
def sliceLen : AV → Option Nat
  | .nilslice | .zcap => some 0
  | .slice _ xs => some xs.length
  | .mslice _ _ _ n => some n
  | _ => none
theorem Rel.isSlice {C : Ctx} {x : AV} {v : Value} {n : Nat} (h : Rel C x v) (hx : sliceLen x = some n) : ∃ a c, v = .slice a n c := by
  cases x <;> simp only [sliceLen, Option.some.injEq] at hx <;> first | (cases hx; done) | skip
  all_goals subst hx
  · exact ⟨_, _, h⟩
  · obtain ⟨_, rfl⟩ := h; exact ⟨_, _, rfl⟩
  · obtain ⟨_, _, rfl, _⟩ := h; exact ⟨_, _, rfl⟩
  · obtain ⟨_, _, _, _, rfl, _⟩ := h; exact ⟨_, _, rfl⟩
/-- 0: none; 1: a string's; 2: a slice's -/
def lenKind (P : Program) (t : TypeId) : Nat :=
  match P.underlying t with
  | some .string => 1
  | some (.slice _) => 2
  | _ => 0
def evLen (kd : Nat) (x : AV) (k : AV → Prop) : Prop :=
  match kd, x with
  | 1, .str s => k (.int .i64 s.length)
  | 2, x => match sliceLen x with
    | some n => k (.int .i64 n)
    | none => False
  | _, _ => False
theorem evLen_sound {C : Ctx} {t ty : TypeId} {x : AV} {a : Value} {k : AV → Prop} (hx : Rel C x a) (h : evLen (lenKind P t) x k) :
    ∃ v y, k v ∧ Rel C v y ∧ (Builtin.len_ #[t] ty #[a]).run P w = .ok y w := by
  unfold lenKind at h
  unfold evLen at h
  split at h
  · rename_i hk
    split at hk <;> first | (cases hk; done) | skip
    rename_i hu
    refine ⟨_, _, h, rfl, ?_⟩
    simp only [Rel] at hx
    subst hx
    simp [Builtin.len_, run_underlying hu, goInt, size_mk]
  · rename_i hk
    split at hk <;> first | (cases hk; done) | skip
    rename_i e hu
    split at h <;> first | exact h.elim | skip
    rename_i n hn
    refine ⟨_, _, h, rfl, ?_⟩
    obtain ⟨b, c, rfl⟩ := hx.isSlice hn
    simp [Builtin.len_, run_underlying hu, goInt]
  · exact h.elim

def fieldOff (P : Program) (t : TypeId) (f : Nat) : Option Nat :=
  match P.underlying t with
  | some (.struct fs) => match fs[f]? with
    | some fd => match P.info? fd.type with
      | some i => if i.size = 0 then none else some fd.offset
      | none => none
    | none => none
  | _ => none
def evFieldAddr (o : Option Nat) (p : AV) (k : AV → Prop) : Prop :=
  match o, p with
  | some o, .ptr l off => k (.ptr l (off + o))
  | some o, .cptr cs off => k (.cptr cs (off + o))
  | some o, .meptr sz l ver i off => k (.meptr sz l ver i (off + o))
  | _, _ => False
theorem run_fieldAt {t : TypeId} {f o : Nat} (ho : fieldOff P t f = some o) (b off : Nat) : (Instr.fieldAt t (.pointer (some ⟨b, off, none⟩)) f).run P w = .ok (.pointer (some ⟨b, off + o, none⟩)) w := by
  unfold fieldOff at ho
  split at ho <;> try (cases ho; done)
  rename_i fs hu
  split at ho <;> try (cases ho; done)
  rename_i fd hf
  split at ho <;> try (cases ho; done)
  rename_i i hi
  split at ho <;> try (cases ho; done)
  rename_i hz
  cases ho
  simp [Instr.fieldAt, run_underlying hu, hf, Instr.sureAddr, fieldPlace, sizeOf, run_typeInfo' hi, hz, addr_add]
theorem evFieldAddr_sound {C : Ctx} {t : TypeId} {f : Nat} {p : AV} {pv : Value} {k : AV → Prop} (hp : Rel C p pv) (h : evFieldAddr (fieldOff P t f) p k) :
    ∃ v x, k v ∧ Rel C v x ∧ (Instr.fieldAt t pv f).run P w = .ok x w := by
  cases ho : fieldOff P t f with
  | none => rw [ho] at h; cases p <;> exact h.elim
  | some o =>
    rw [ho] at h
    cases p <;> first | exact h.elim | skip
    case ptr l off =>
      obtain ⟨hd, rfl⟩ := hp
      exact ⟨_, _, h, ⟨hd, rfl⟩, run_fieldAt ho _ _⟩
    case cptr cs off =>
      obtain ⟨b, o', vs, rfl, hr⟩ := hp
      exact ⟨_, _, h, ⟨b, o', vs, by rw [Nat.add_assoc], hr⟩, run_fieldAt ho _ _⟩
    case meptr sz l ver i off =>
      obtain ⟨hd, hle, b, o', rfl, hx⟩ := hp
      exact ⟨_, _, h, ⟨hd, hle, b, _, rfl, fun e => ⟨(hx e).1, by rw [(hx e).2, Nat.add_assoc]⟩⟩, run_fieldAt ho _ _⟩

/-! ### elements -/
def elemSz (P : Program) (t : TypeId) : Option Nat :=
  match P.underlying t with
  | some (.slice e) => match P.info? e with
    | some i => some i.size
    | none => none
  | _ => none
/-- the type of a slice's elements -/
def elemTy (P : Program) (t : TypeId) : TypeId :=
  match P.underlying t with
  | some (.slice e) => e
  | _ => 0
theorem elemTy_of {t e : TypeId} (h : P.underlying t = some (.slice e)) : elemTy P t = e := by simp [elemTy, h]
def evIndexAddr (H : Heap) (es : Option Nat) (x i : AV) (k : AV → Prop) : Prop :=
  match x, i with
  | .slice sz xs, .int _ n => es = some sz ∧ 0 ≤ n ∧ n < xs.length ∧ elemCells (xs.getD n.toNat .any) fun cs => k (.cptr cs 0)
  | .mslice sz l o len, .int _ n => match H.get l with
    | some (.row _ sz' xs) => es = some sz ∧ sz' = sz ∧ o + len = xs.length ∧ 0 ≤ n ∧ n < len ∧ k (.meptr sz l xs.length (o + n.toNat) 0)
    | _ => False
  | _, _ => False
theorem elemSz_some {t : TypeId} {n : Nat} (h : elemSz P t = some n) : ∃ e i, P.underlying t = some (.slice e) ∧ P.info? e = some i ∧ i.size = n := by
  unfold elemSz at h
  split at h <;> try (cases h; done)
  rename_i e he
  split at h <;> try (cases h; done)
  rename_i i hi
  cases h
  exact ⟨e, i, he, hi, rfl⟩
theorem run_indexAt {t : TypeId} {sz len cap b o : Nat} {kd : IntKind} {n : Int} (h : elemSz P t = some sz) (h0 : 0 ≤ n) (h1 : n < len) :
    (Instr.indexAt t (.slice (some ⟨b, o, none⟩) len cap) (.int kd n)).run P w = .ok (.pointer (some ⟨b, o + n.toNat * sz, none⟩)) w := by
  obtain ⟨e, i, he, hi, rfl⟩ := elemSz_some h
  simp [Instr.indexAt, asIntOf, run_underlying he, h0, h1, sizeOf, run_typeInfo' hi, addr_add]
theorem evIndexAddr_sound {C : Ctx} {H : Heap} {t : TypeId} {x i : AV} {xv iv : Value} {k : AV → Prop} (hH : HRel C H) (hx : Rel C x xv) (hi : Rel C i iv) (h : evIndexAddr H (elemSz P t) x i k) :
    ∃ v y, k v ∧ Rel C v y ∧ (Instr.indexAt t xv iv).run P C.w = .ok y C.w := by
  cases i <;> first | (cases x <;> exact h.elim) | skip
  rename_i kd n
  simp only [Rel] at hi
  subst hi
  cases x <;> first | exact h.elim | skip
  case slice sz xs =>
    obtain ⟨he, h0, h1, h⟩ := h
    obtain ⟨a, cap, rfl, _, hc⟩ := hx
    rcases hc with rfl | ⟨b, o, vs, rfl, hs, hr, hrow⟩
    · simp at h1; omega
    · obtain ⟨y, hy, hrel⟩ := relAll_get hr n.toNat (xs.getD n.toNat .any) (by
        have : n.toNat < xs.length := by omega
        simp [List.getD_eq_getElem?_getD, List.getElem?_eq_getElem this])
      obtain ⟨cs, hk, hcs⟩ := elemCells_rel hrel h
      exact ⟨_, _, hk, ⟨b, o + n.toNat * sz, y.cells.toList, rfl, hs, hcs, (hrow _ _ hy).2.2⟩, run_indexAt he h0 h1⟩
  case mslice sz l o len =>
    simp only [evIndexAddr] at h
    split at h <;> try exact h.elim
    rename_i sz' xs hg
    obtain ⟨he, rfl, hl, h0, h1, h⟩ := h
    obtain ⟨hd, hle, a, cap, rfl, hn, hc⟩ := hx
    obtain ⟨hlen, ho⟩ := hH.obj l _ hg hd
    rcases hc (by omega) with ⟨hc1, hc2, hc3⟩ | ⟨b, e, m, hb, rfl, hsh, hm⟩
    · subst hc2; omega
    · exact ⟨_, _, h, ⟨hd, by omega, b, o * sz' + n.toNat * sz', rfl, fun _ => ⟨hb, by rw [Nat.add_mul, Nat.add_zero]⟩⟩, run_indexAt he h0 h1⟩

def evIndex (kd : Nat) (x i : AV) (k : AV → Prop) : Prop :=
  match kd, x, i with
  | 1, .str s, .int _ n => 0 ≤ n ∧ n < s.length ∧ k (.int .u8 (s.getD n.toNat 0).toNat)
  | _, _, _ => False
theorem evIndex_sound {C : Ctx} {t : TypeId} {x i : AV} {xv iv : Value} {k : AV → Prop} (hx : Rel C x xv) (hi : Rel C i iv) (h : evIndex (lenKind P t) x i k) :
    ∃ v y, k v ∧ Rel C v y ∧ (Instr.index t xv iv).run P w = .ok y w := by
  unfold evIndex at h
  split at h <;> first | exact h.elim | skip
  rename_i s kd n hk
  unfold lenKind at hk
  split at hk <;> first | (cases hk; done) | skip
  rename_i hu
  simp only [Rel] at hx hi
  subst hx hi
  obtain ⟨h0, h1, h⟩ := h
  refine ⟨_, _, h, rfl, ?_⟩
  have hlt : n.toNat < s.length := by omega
  have e : (⟨s.toArray⟩ : ByteArray)[n.toNat]? = some (s.getD n.toNat 0) := by
    have hsz : n.toNat < (⟨s.toArray⟩ : ByteArray).size := by rw [size_mk]; exact hlt
    rw [getElem?_pos (⟨s.toArray⟩ : ByteArray) n.toNat hsz]
    have : (⟨s.toArray⟩ : ByteArray)[n.toNat] = s.toArray[n.toNat]'(by simpa using hlt) := rfl
    rw [this]
    simp [List.getD_eq_getElem?_getD, List.getElem?_eq_getElem hlt]
  simp [Instr.index, asIntOf, run_underlying hu, h0, h1, e]
end
end Go.Sim

namespace Go.Sim
section
variable {P : Program} {w : World}

/-! ### cuts -/
def bnd (d : Int) : Option AV → Option Int
  | none => some d
  | some (.int _ n) => some n
  | _ => none
def evSlice (kd : Nat) (es : Option Nat) (x : AV) (lo hi mx : Option AV) (k : AV → Prop) : Prop :=
  match kd, x, mx with
  | 1, .str s, none => match bnd 0 lo, bnd s.length hi with
    | some l, some h => 0 ≤ l ∧ l ≤ h ∧ h ≤ s.length ∧ k (.str ((s.take h.toNat).drop l.toNat))
    | _, _ => False
  | 2, .slice sz xs, none => match bnd 0 lo, bnd xs.length hi with
    | some l, some h => es = some sz ∧ 0 ≤ l ∧ l ≤ h ∧ h ≤ xs.length ∧ k (.slice sz ((xs.take h.toNat).drop l.toNat))
    | _, _ => False
  | 2, .nilslice, none => match bnd 0 lo, bnd 0 hi with
    | some l, some h => es ≠ none ∧ l = 0 ∧ h = 0 ∧ k .nilslice
    | _, _ => False
  | 2, .mslice sz l0 i n, none => match bnd 0 lo, hi with
    | some l, none => es = some sz ∧ 0 ≤ l ∧ l < n ∧ k (.mslice sz l0 (i + l.toNat) (n - l.toNat))
    | _, _ => False
  | 2, x, some (.int _ m) => match bnd 0 lo, hi, sliceLen x with
    | some l, some (.int _ h), some n => es ≠ none ∧ l = 0 ∧ h = 0 ∧ m = 0 ∧ k .zcap
    | _, _, _ => False
  | _, _, _ => False
/-- a bound's operand, as the machine has it -/
def BndRel (C : Ctx) : Option AV → Option Value → Prop
  | none, none => True
  | some x, some v => Rel C x v
  | _, _ => False
set_option linter.unusedVariables false in
set_option linter.unusedVariables false in
theorem bnd_some {C : Ctx} {d n : Int} {x : Option AV} {v : Option Value} (h : bnd d x = some n) (hr : BndRel C x v) : (v = none ∧ x = none ∧ n = d) ∨ ∃ kd, v = some (.int kd n) := by
  cases x with
  | none => cases v with
    | none => simp [bnd] at h; exact .inl ⟨rfl, rfl, h.symm⟩
    | some _ => exact hr.elim
  | some x => cases v with
    | none => exact hr.elim
    | some v =>
      cases x <;> simp only [bnd] at h <;> first | (cases h; done) | skip
      simp only [Option.some.injEq] at h
      subst h
      simp only [BndRel, Rel] at hr
      exact .inr ⟨_, by rw [hr]⟩
theorem run_sliceBound {kd : IntKind} {n : Int} {y : Nat} {c : BoundsCode} (h0 : 0 ≤ n) (h1 : n ≤ y) : (Instr.sliceBound (.int kd n) y c).run P w = .ok n.toNat w := by
  simp [Instr.sliceBound, asIntOf, h0, h1]
theorem run_bounds {C : Ctx} {isS : Bool} {len cap : Nat} {lo hi : Option AV} {lv hv : Option Value} {l h : Int} (hl : bnd 0 lo = some l) (hh : bnd len hi = some h) (rl : BndRel C lo lv) (rh : BndRel C hi hv)
    (h0 : 0 ≤ l) (h1 : l ≤ h) (h2 : h ≤ len) (h3 : len ≤ cap) : (Instr.sliceBounds isS len cap lv hv none).run P w = .ok (l.toNat, h.toNat, cap) w := by
  have h4 : h ≤ (cap : Int) := by omega
  have h5 : l ≤ ((h.toNat : Nat) : Int) := by omega
  rcases bnd_some hl rl with ⟨rfl, _, rfl⟩ | ⟨kl, rfl⟩ <;> rcases bnd_some hh rh with ⟨rfl, _, rfl⟩ | ⟨kh, rfl⟩
  · simp [Instr.sliceBounds]
  · simp [Instr.sliceBounds, run_sliceBound (by omega : 0 ≤ h) h4]
  · simp [Instr.sliceBounds, run_sliceBound h0 (by omega : l ≤ ((len : Nat) : Int))]
  · simp [Instr.sliceBounds, run_sliceBound (by omega : 0 ≤ h) h4, run_sliceBound h0 h5]
theorem RowAt.drop {sz b o : Nat} {vs : List Value} (h : RowAt w sz b o vs) (l : Nat) : RowAt w sz b (o + l * sz) (vs.drop l) := by
  intro j v hj
  rw [List.getElem?_drop] at hj
  have := h _ _ hj
  refine ⟨this.1, this.2.1, ?_⟩
  have e : o + (l + j) * sz = o + l * sz + j * sz := by rw [Nat.add_mul]; omega
  rw [← e]; exact this.2.2
theorem RowAt.take {sz b o : Nat} {vs : List Value} (h : RowAt w sz b o vs) (l : Nat) : RowAt w sz b o (vs.take l) := by
  intro j v hj
  rw [List.getElem?_take] at hj
  split at hj
  · exact h _ _ hj
  · cases hj
theorem evSlice_sound {C : Ctx} {t : TypeId} {x : AV} {xv : Value} {lo hi mx : Option AV} {lv hv mv : Option Value} {k : AV → Prop} (hx : Rel C x xv) (rl : BndRel C lo lv) (rh : BndRel C hi hv) (rm : BndRel C mx mv)
    (h : evSlice (lenKind P t) (elemSz P t) x lo hi mx k) : ∃ v y, k v ∧ Rel C v y ∧ (Instr.sliceAt t xv lv hv mv).run P w = .ok y w := by
  unfold evSlice at h
  split at h <;> first | exact h.elim | skip
  · rename_i s hk
    cases mv with | some _ => exact rm.elim | none =>
    unfold lenKind at hk
    split at hk <;> first | (cases hk; done) | skip
    rename_i hu
    split at h <;> first | exact h.elim | skip
    rename_i l h' hl hh
    obtain ⟨h0, h1, h2, h⟩ := h
    refine ⟨_, _, h, rfl, ?_⟩
    simp only [Rel] at hx
    subst hx
    have hb := run_bounds (P := P) (w := w) (isS := false) (cap := s.length) hl hh rl rh h0 h1 h2 (Nat.le_refl _)
    have e : (⟨s.toArray⟩ : ByteArray).extract l.toNat h'.toNat = ⟨((s.take h'.toNat).drop l.toNat).toArray⟩ := by
      rw [Lib.extract_eq]; simp [List.drop_take]
    simp [Instr.sliceAt, Instr.slice, run_underlying hu, size_mk, hb, e]
  · rename_i sz xs hk
    cases mv with | some _ => exact rm.elim | none =>
    split at h <;> first | exact h.elim | skip
    rename_i l h' hl hh
    obtain ⟨he, h0, h1, h2, h⟩ := h
    obtain ⟨e, i, hu, hi, rfl⟩ := elemSz_some he
    obtain ⟨a, cap, rfl, hc, hr⟩ := hx
    have hb := run_bounds (P := P) (w := w) (isS := true) hl hh rl rh h0 h1 h2 hc
    have hn : h'.toNat - l.toNat = ((xs.take h'.toNat).drop l.toNat).length := by
      rw [List.length_drop, List.length_take]; omega
    refine ⟨_, .slice (if cap = l.toNat then a else a.map (·.add (l.toNat * i.size))) (h'.toNat - l.toNat) (cap - l.toNat), h, ⟨_, _, by rw [hn], by rw [← hn]; omega, ?_⟩, ?_⟩
    · rcases hr with rfl | ⟨b, o, vs, rfl, hs, hra, hrow⟩
      · left; simp
      · by_cases hcl : cap = l.toNat
        · left
          apply List.eq_nil_of_length_eq_zero; omega
        · right
          rw [if_neg hcl]
          exact ⟨b, o + l.toNat * i.size, (vs.take h'.toNat).drop l.toNat, by simp [addr_add], hs, relAll_drop _ (relAll_take _ hra), (hrow.take _).drop _⟩
    · simp [Instr.sliceAt, Instr.slice, run_underlying hu, hb, sizeOf, run_typeInfo' hi]
  · cases mv with | some _ => exact rm.elim | none =>
    split at h <;> first | exact h.elim | skip
    rename_i l h' hl hh
    obtain ⟨he, rfl, rfl, h⟩ := h
    cases hes : elemSz P t with
    | none => exact absurd hes he
    | some sz =>
    obtain ⟨e, i, hu, hi, rfl⟩ := elemSz_some hes
    simp only [Rel] at hx
    subst hx
    have hb := run_bounds (P := P) (w := w) (isS := true) (len := 0) (cap := 0) hl hh rl rh (Int.le_refl _) (Int.le_refl _) (Int.le_refl _) (Nat.le_refl _)
    exact ⟨_, _, h, rfl, by simp [Instr.sliceAt, Instr.slice, run_underlying hu, hb, sizeOf, run_typeInfo' hi]⟩
  · rename_i sz l0 i0 n hk
    cases mv with | some _ => exact rm.elim | none =>
    split at h <;> first | exact h.elim | skip
    rename_i l hl
    cases hv with | some _ => exact rh.elim | none =>
    obtain ⟨he, h0, h1, h⟩ := h
    obtain ⟨e, i, hu, hi, rfl⟩ := elemSz_some he
    obtain ⟨hd, hle, a, cap, rfl, hc, hr⟩ := hx
    have hb := run_bounds (P := P) (w := w) (isS := true) (C := C) (hi := none) (hv := none) (cap := cap) (h := n) hl rfl rl trivial h0 (by omega) (Int.le_refl _) hc
    refine ⟨_, .slice (if cap = l.toNat then a else a.map (·.add (l.toNat * i.size))) (n - l.toNat) (cap - l.toNat), h, ⟨hd, by omega, _, _, rfl, by omega, fun e => ?_⟩, ?_⟩
    · have hcl : cap ≠ l.toNat := by omega
      rw [if_neg hcl]
      rcases hr (by omega) with ⟨_, h2, _⟩ | ⟨b, e', m, hb', rfl, hsh, hm⟩
      · omega
      · right
        refine ⟨b, e', m, hb', by simp [addr_add, Nat.add_mul], hsh, ?_⟩
        have : i0 + l.toNat + (cap - l.toNat) = i0 + cap := by omega
        rw [this]; exact hm
    · simp [Instr.sliceAt, Instr.slice, run_underlying hu, hb, sizeOf, run_typeInfo' hi]
  · rename_i km m hk
    cases mv with | none => exact rm.elim | some mv =>
    simp only [BndRel, Rel] at rm
    subst rm
    split at h <;> first | exact h.elim | skip
    rename_i l kh h' n hl hn
    cases hv with | none => exact rh.elim | some hv =>
    simp only [BndRel, Rel] at rh
    subst rh
    obtain ⟨he, rfl, rfl, rfl, h⟩ := h
    cases hes : elemSz P t with
    | none => exact absurd hes he
    | some sz =>
    obtain ⟨e, i, hu, hi, rfl⟩ := elemSz_some hes
    obtain ⟨a, c, rfl⟩ := hx.isSlice hn
    refine ⟨_, .slice a 0 0, h, ⟨a, rfl⟩, ?_⟩
    have hb1 := fun c' => run_sliceBound (P := P) (w := w) (kd := km) (n := 0) (y := c) (c := c') (Int.le_refl _) (by omega)
    have hb2 := fun c' => run_sliceBound (P := P) (w := w) (kd := kh) (n := 0) (y := 0) (c := c') (Int.le_refl _) (by omega)
    have hb : (Instr.sliceBounds true n c lv (some (.int kh 0)) (some (.int km 0))).run P w = .ok (0, 0, 0) w := by
      rcases bnd_some hl rl with ⟨rfl, _, _⟩ | ⟨kl, rfl⟩
      · simp [Instr.sliceBounds, hb1, hb2]
      · have hb3 := fun c' => run_sliceBound (P := P) (w := w) (kd := kl) (n := 0) (y := 0) (c := c') (Int.le_refl _) (by omega)
        simp [Instr.sliceBounds, hb1, hb2, hb3]
    simp [Instr.sliceAt, Instr.slice, run_underlying hu, hb, sizeOf, run_typeInfo' hi]

/-! ### arrays: rows that do not grow -/
def arrN (P : Program) (t : TypeId) : Option Nat :=
  match P.underlying t with
  | some (.array n e) => match P.info? e with
    | some i => if i.size = 1 then some n else none
    | none => none
  | _ => none
theorem arrN_some {t : TypeId} {n : Nat} (h : arrN P t = some n) : ∃ e i, P.underlying t = some (.array n e) ∧ P.info? e = some i ∧ i.size = 1 := by
  unfold arrN at h
  split at h <;> try (cases h; done)
  rename_i m e he
  split at h <;> try (cases h; done)
  rename_i i hi
  split at h <;> try (cases h; done)
  rename_i h1
  cases h
  exact ⟨e, i, he, hi, h1⟩
def evIdx (H : Heap) (an es : Option Nat) (x i : AV) (k : AV → Prop) : Prop :=
  match an with
  | none => evIndexAddr H es x i k
  | some len => match x, i with
    | .meptr 1 l ver 0 0, .int _ n => 0 ≤ n ∧ n < len ∧ k (.meptr 1 l ver n.toNat 0)
    | _, _ => False
theorem evIdx_sound {C : Ctx} {H : Heap} {t : TypeId} {x i : AV} {xv iv : Value} {k : AV → Prop} (hH : HRel C H) (hx : Rel C x xv) (hi : Rel C i iv) (h : evIdx H (arrN P t) (elemSz P t) x i k) :
    ∃ v y, k v ∧ Rel C v y ∧ (Instr.indexAt t xv iv).run P C.w = .ok y C.w := by
  unfold evIdx at h
  split at h
  · exact evIndexAddr_sound hH hx hi h
  · rename_i len hal
    split at h <;> first | exact h.elim | skip
    rename_i l ver kd n
    obtain ⟨h0, h1, h⟩ := h
    obtain ⟨e, ii, hu, hii, hs⟩ := arrN_some hal
    simp only [Rel] at hi
    subst hi
    obtain ⟨hd, hle, b, o, rfl, hr⟩ := hx
    refine ⟨_, .pointer (some ⟨b, o + n.toNat * 1, none⟩), h, ⟨hd, hle, b, _, rfl, fun e1 => ?_⟩, ?_⟩
    · obtain ⟨h2, h3⟩ := hr e1
      exact ⟨h2, by omega⟩
    · simp [Instr.indexAt, Instr.sureAddr, asAddr, asIntOf, run_underlying hu, h0, h1, sizeOf, run_typeInfo' hii, hs, addr_add]
def evSl (H : Heap) (an : Option Nat) (kd : Nat) (es : Option Nat) (x : AV) (lo hi mx : Option AV) (k : AV → Prop) : Prop :=
  match an with
  | none => evSlice kd es x lo hi mx k
  | some len => match x, bnd 0 lo, hi, mx with
    | .meptr 1 l ver 0 0, some lw, none, none => match H.get l with
      | some (.row _ sz xs) => sz = 1 ∧ ver = xs.length ∧ len = xs.length ∧ 0 ≤ lw ∧ lw < len ∧ k (.mslice 1 l lw.toNat (len - lw.toNat))
      | _ => False
    | _, _, _, _ => False
theorem evSl_sound {C : Ctx} {H : Heap} {t : TypeId} {x : AV} {xv : Value} {lo hi mx : Option AV} {lv hv mv : Option Value} {k : AV → Prop} (hH : HRel C H) (hx : Rel C x xv) (rl : BndRel C lo lv) (rh : BndRel C hi hv) (rm : BndRel C mx mv) (h : evSl H (arrN P t) (lenKind P t) (elemSz P t) x lo hi mx k) :
    ∃ v y, k v ∧ Rel C v y ∧ (Instr.sliceAt t xv lv hv mv).run P C.w = .ok y C.w := by
  unfold evSl at h
  split at h
  · exact evSlice_sound hx rl rh rm h
  · rename_i len hal
    split at h <;> first | exact h.elim | skip
    rename_i l ver lw hl
    split at h <;> first | exact h.elim | skip
    rename_i tg sz xs hg
    obtain ⟨rfl, rfl, rfl, h0, h1, h⟩ := h
    obtain ⟨e, ii, hu, hii, hs⟩ := arrN_some hal
    cases hv with | some _ => exact rh.elim | none =>
    cases mv with | some _ => exact rm.elim | none =>
    obtain ⟨hd, hle, b, o, rfl, hr⟩ := hx
    obtain ⟨hlen, ho⟩ := hH.obj l _ hg hd
    obtain ⟨hσ, rfl⟩ := hr hlen.symm
    rcases ho with ⟨ho, _⟩ | ⟨b', cs, fz, vs, hσ', hh, hra, hrow, hsz, hfz⟩
    · rw [hσ] at ho; cases ho
    have : b' = b := by rw [hσ] at hσ'; cases hσ'; rfl
    subst this
    have hb := run_bounds (P := P) (w := C.w) (isS := false) (C := C) (hi := none) (hv := none) (cap := xs.length) (h := xs.length) hl rfl rl trivial h0 (by omega) (Int.le_refl _) (Nat.le_refl _)
    have hne : xs.length ≠ lw.toNat := by omega
    refine ⟨_, .slice (some ⟨b', lw.toNat, none⟩) (xs.length - lw.toNat) (xs.length - lw.toNat), h, ⟨hd, by omega, _, _, rfl, Nat.le_refl _, fun _ => .inr ⟨b', tg, cs.size, hσ, by simp, by simp [World.shape?, hh], by omega⟩⟩, ?_⟩
    simp [Instr.sliceAt, Instr.sureAddr, asAddr, run_underlying hu, hb, sizeOf, run_typeInfo' hii, hs, hne, addr_add]

/-! ### parts of structs and tuples -/
def fieldInfo (P : Program) (t : TypeId) (f : Nat) : Option (Nat × Option (Bool × Nat)) :=
  match P.underlying t with
  | some (.struct fs) => match fs[f]? with
    | some fd => some (fd.offset, ldInfo P fd.type)
    | none => none
  | _ => none
def evField (i : Option (Nat × Option (Bool × Nat))) (x : AV) (k : AV → Prop) : Prop :=
  match i, x with
  | some (o, i), .agg cs => ldCells i (cs.drop o) k
  | _, _ => False
theorem part_cells {C : Ctx} {t : TypeId} {o : Nat} {cs : List AV} {vs : Array Value} {k : AV → Prop}
    (hr : RelAll C cs vs.toList) (h : ldCells (ldInfo P t) (cs.drop o) k) : ∃ v x, k v ∧ Rel C v x ∧ (part t vs o).run P w = .ok x w := by
  unfold ldInfo at h
  cases hu : P.underlying t with
  | none => simp [hu, ldCells] at h
  | some d =>
    cases hi : P.info? t with
    | none => simp [hu, hi, ldCells] at h
    | some i =>
      simp only [hu, hi] at h
      simp only [part, Sem.run_bind, run_isAgg' hu, Result.andThen_ok]
      have hr' := relAll_drop o hr
      by_cases ha : descAgg d = true
      · rw [ha] at h ⊢
        obtain ⟨hn, hk⟩ := h
        refine ⟨_, .agg (vs.extract o (o + i.size)), hk, ⟨_, rfl, ?_⟩, ?_⟩
        · have := relAll_take i.size hr'
          simpa [Array.toList_extract, List.extract_eq_take_drop] using this
        · simp [sizeOf, run_typeInfo' hi]
      · have ha' : descAgg d = false := by simpa using ha
        rw [ha'] at h ⊢
        generalize hcs : cs.drop o = ds at h hr'
        cases ds with
        | nil => exact h.elim
        | cons c ds =>
          obtain ⟨x, r, hx, h1, h2⟩ := hr'
          refine ⟨c, x, h, h1, ?_⟩
          have : vs[o]? = some x := by
            rw [← Array.getElem?_toList, ← List.head?_drop, hx]; rfl
          simp [this]
theorem evField_sound {C : Ctx} {t : TypeId} {f : Nat} {x : AV} {xv : Value} {k : AV → Prop} (hx : Rel C x xv) (h : evField (fieldInfo P t f) x k) :
    ∃ v y, k v ∧ Rel C v y ∧ (Instr.field t xv f).run P w = .ok y w := by
  unfold fieldInfo at h
  cases x <;> first | (exfalso; revert h; simp [evField]; done) | skip
  rename_i cs
  cases hu : P.underlying t with
  | none => simp [hu, evField] at h
  | some d =>
    cases d <;> simp only [hu, evField] at h <;> first | exact h.elim | skip
    rename_i fs
    cases hf : fs[f]? with
    | none => simp [hf] at h
    | some fd =>
      simp only [hf] at h
      obtain ⟨vs, rfl, hr⟩ := hx
      obtain ⟨v, y, h1, h2, h3⟩ := part_cells (P := P) (w := w) hr h
      exact ⟨v, y, h1, h2, by simp [Instr.field, run_underlying hu, hf, asAgg, h3]⟩
def evExtract (x : AV) (i : Nat) (k : AV → Prop) : Prop :=
  match x with
  | .tuple vs => match vs[i]? with
    | some v => k v
    | none => False
  | _ => False
theorem evExtract_sound {C : Ctx} {i : Nat} {x : AV} {xv : Value} {k : AV → Prop} (hx : Rel C x xv) (h : evExtract x i k) :
    ∃ v y, k v ∧ Rel C v y ∧ (Instr.extract xv i).run P w = .ok y w := by
  cases x <;> first | exact h.elim | skip
  rename_i vs
  simp only [evExtract] at h
  split at h <;> first | exact h.elim | skip
  rename_i v hv
  obtain ⟨xs, rfl, hr⟩ := hx
  obtain ⟨y, hy, hrel⟩ := relAll_get hr i v hv
  exact ⟨v, y, h, hrel, by rw [Array.getElem?_toList] at hy; simp [Instr.extract, hy]⟩

/-! ### conversions -/
inductive ConvKind where
  | int (k : IntKind) | str | bytes | toU | fromU (f : TypeId → Nat → Nat → Bool) | none
/-- lies a variable of type u there, in a block of n cells of type e? -/
def liesB (P : Program) (u e : TypeId) (n off : Nat) : Bool := liesAt P P.depth e (n / P.cellsOf e) off u 1
def convKind (P : Program) (s d : TypeId) : ConvKind :=
  match P.underlying s, P.underlying d with
  | some (.int _), some (.int k) => .int k
  | some .string, some .string => .str
  | some (.slice e), some .string => match P.underlying e with
    | some (.int .u8) => .bytes
    | _ => .none
  | some (.pointer e), some .unsafePointer => match P.info? e with
    | some i => if i.size = 0 then .none else .toU
    | Option.none => .none
  | some .unsafePointer, some (.pointer u) => match P.info? u with
    | some _ => .fromU (liesB P u)
    | Option.none => .none
  | _, _ => .none
def enc8 (b : UInt8) : AV := .int .u8 b.toNat
def dec8 : AV → UInt8
  | .int _ n => UInt8.ofNat n.toNat
  | _ => 0
theorem dec8_enc8 (b : UInt8) : dec8 (enc8 b) = b := by simp [dec8, enc8]
theorem map_dec8 (s : List UInt8) : (s.map enc8).map dec8 = s := by
  rw [List.map_map]; conv => rhs; rw [← List.map_id s]
  exact List.map_congr_left fun b _ => dec8_enc8 b
/-- the elements of a slice that can be read -/
def elemsOf (H : Heap) : AV → Option (Nat × List AV)
  | .nilslice | .zcap => some (0, [])
  | .slice sz xs => some (sz, xs)
  | .mslice sz l i n => match H.get l with
    | some (.row _ sz' xs) => if sz' = sz ∧ i + n = xs.length then some (sz, xs.drop i) else none
    | _ => none
  | _ => none
def evConv (H : Heap) (kd : ConvKind) (x : AV) (k : AV → Prop) : Prop :=
  match kd, x with
  | .int kd, .int _ n => k (.int kd (kd.wrap n))
  | .str, .str s => k (.str s)
  | .bytes, x => match elemsOf H x with
    | some (sz, xs) => (sz = 1 ∨ xs = []) ∧ xs = (xs.map dec8).map enc8 ∧ k (.str (xs.map dec8))
    | none => False
  | .toU, .ptr l off => match H.get l with
    | some (.box _ cs) => off < cs.length ∧ k (.ptr l off)
    | _ => False
  | .fromU f, .ptr l off => match H.get l with
    | some (.box tg cs) => f tg cs.length off = true ∧ k (.ptr l off)
    | _ => False
  | _, _ => False
/-- the elements that are read, in the world -/
theorem elemsOf_rel {C : Ctx} {H : Heap} {x : AV} {xv : Value} {sz : Nat} {xs : List AV} (hH : HRel C H) (hx : Rel C x xv) (h : elemsOf H x = some (sz, xs)) :
    ∃ a cap, xv = .slice a xs.length cap ∧ xs.length ≤ cap ∧ (xs = [] ∨ ∃ b o vs, a = some ⟨b, o, none⟩ ∧ RelAll C.pure xs vs ∧ RowAt C.w sz b o vs) := by
  cases x <;> simp only [elemsOf, Option.some.injEq, Prod.mk.injEq] at h <;> first | (cases h; done) | skip
  case nilslice => obtain ⟨rfl, rfl⟩ := h; exact ⟨_, _, hx, Nat.le_refl _, .inl rfl⟩
  case zcap => obtain ⟨rfl, rfl⟩ := h; obtain ⟨a, rfl⟩ := hx; exact ⟨_, _, rfl, Nat.le_refl _, .inl rfl⟩
  case slice sz' xs' =>
    obtain ⟨rfl, rfl⟩ := h
    obtain ⟨a, cap, rfl, hc, hr⟩ := hx
    refine ⟨a, cap, rfl, hc, ?_⟩
    rcases hr with rfl | ⟨b, o, vs, h1, _, h3, h4⟩
    · exact .inl rfl
    · exact .inr ⟨b, o, vs, h1, h3, h4⟩
  case mslice sz' l i n =>
    split at h <;> first | (cases h; done) | skip
    rename_i sz2 xs2 hg
    split at h <;> first | (cases h; done) | skip
    rename_i hc
    obtain ⟨rfl, hin⟩ := hc
    simp only [Option.some.injEq, Prod.mk.injEq] at h
    obtain ⟨rfl, rfl⟩ := h
    obtain ⟨hd, hle, a, cap, rfl, hn, hr⟩ := hx
    obtain ⟨hlen, ho⟩ := hH.obj l _ hg hd
    have hl : (xs2.drop i).length = n := by rw [List.length_drop]; omega
    refine ⟨a, cap, by rw [hl], by omega, ?_⟩
    rcases hr (by omega) with ⟨h1, h2, h3⟩ | ⟨b, e, m, hb, rfl, hsh, hm⟩
    · left; apply List.eq_nil_of_length_eq_zero; omega
    · rcases ho with ⟨ho, _⟩ | ⟨b', cs, fz, vs, hb', hh, hra, hrow, _, _⟩
      · rw [hb] at ho; cases ho
      · have : b' = b := by rw [hb] at hb'; cases hb'; rfl
        subst this
        right
        refine ⟨b', i * sz2, vs.drop i, rfl, relAll_drop i hra, ?_⟩
        have := hrow.drop i
        simpa using this
end
end Go.Sim

namespace Go.Sim
section
variable {P : Program} {w : World}
theorem relAll_enc8 {C : Ctx} : ∀ {s : List UInt8} {vs : List Value}, RelAll C (s.map enc8) vs → vs = s.map fun b => .int .u8 b.toNat
  | [], _, h => h
  | b :: s, _, h => by
    obtain ⟨x, r, rfl, h1, h2⟩ := h
    simp only [Rel, enc8] at h1
    rw [h1, relAll_enc8 h2]; rfl
theorem evConv_sound {C : Ctx} {H : Heap} {s d : TypeId} {x : AV} {xv : Value} {k : AV → Prop} (hH : HRel C H) (hx : Rel C x xv) (h : evConv H (convKind P s d) x k) :
    ∃ v y, k v ∧ Rel C v y ∧ (convert s d xv).run P C.w = .ok y C.w := by
  unfold evConv at h
  split at h <;> first | exact h.elim | skip
  · rename_i kd kx n hk
    simp only [Rel] at hx
    subst hx
    unfold convKind at hk
    split at hk <;> first | (simp at hk; done) | ((repeat' split at hk) <;> simp at hk; done) | skip
    · rename_i h1 h2
      simp only [ConvKind.int.injEq] at hk
      subst hk
      exact ⟨_, _, h, rfl, by simp [convert, run_underlying h1, run_underlying h2, Conv.intToInt]⟩
  · rename_i s' hk
    simp only [Rel] at hx
    subst hx
    unfold convKind at hk
    split at hk <;> first | (simp at hk; done) | ((repeat' split at hk) <;> simp at hk; done) | skip
    · rename_i h1 h2
      exact ⟨_, _, h, rfl, by simp [convert, run_underlying h1, run_underlying h2]⟩
  · rename_i hk
    split at h <;> first | exact h.elim | skip
    rename_i sz xs he
    obtain ⟨hsz, hxs, h⟩ := h
    unfold convKind at hk
    split at hk <;> first | (simp at hk; done) | ((repeat' split at hk) <;> simp at hk; done) | skip
    rename_i e h1 h2
    split at hk <;> first | (simp at hk; done) | skip
    rename_i h3
    obtain ⟨a, cap, rfl, hc, hr⟩ := elemsOf_rel hH hx he
    refine ⟨_, _, h, rfl, ?_⟩
    generalize hbs : xs.map dec8 = bs at *
    rcases hr with rfl | ⟨b, o, vs, rfl, hra, hrow⟩
    · cases bs with
      | cons _ _ => simp at hxs
      | nil =>
        cases a with
        | none => exact run_convert_bytes_nil C.w s e h1 h3 0 cap d h2
        | some a =>
          simp [convert, run_underlying h1, run_underlying h2, run_underlying h3, Conv.bytesToString, loadCells, loadCellsFrom]
          rfl
    · rcases hsz with rfl | rfl
      · subst hxs
        have hvs := relAll_enc8 hra
        subst hvs
        have := run_convert_bytes_arg (P := P) C.w s e h1 h3 b o (bs.map enc8).length cap (bs.map fun b => (b.toNat : Int)) (by simp) (fun i hi => by
          have hi' : i < bs.length := by simpa using hi
          obtain ⟨_, _, hcell⟩ := hrow i (.int .u8 (bs[i]).toNat) (by simp [List.getElem?_eq_getElem hi'])
          have := hcell 0 _ rfl
          simpa [List.getD_eq_getElem?_getD, List.getElem?_eq_getElem hi'] using this) d h2
        rw [this]
        have e : (bs.map fun b => (b.toNat : Int)).map (fun n => UInt8.ofNat n.toNat) = bs := by
          rw [List.map_map]; conv => rhs; rw [← List.map_id bs]
          exact List.map_congr_left fun b _ => by simp
        simp only [strOfNums, e]
      · cases bs with
        | cons _ _ => simp at hxs
        | nil =>
          simp [convert, run_underlying h1, run_underlying h2, run_underlying h3, Conv.bytesToString, loadCells, loadCellsFrom]
          rfl

  · rename_i l off hk
    split at h <;> first | exact h.elim | skip
    rename_i tg cs hg
    obtain ⟨hoff, h⟩ := h
    obtain ⟨hd, rfl⟩ := hx
    obtain ⟨vs, hh, hr⟩ := hH.obj l _ hg hd
    have hl := relAll_length hr
    unfold convKind at hk
    split at hk <;> first | (simp at hk; done) | ((repeat' split at hk) <;> simp at hk; done) | skip
    rename_i e h1 h2
    split at hk <;> first | (simp at hk; done) | skip
    rename_i i hi
    split at hk <;> first | (simp at hk; done) | skip
    rename_i hi0
    refine ⟨_, _, h, ⟨hd, rfl⟩, ?_⟩
    exact Lib.run_to_unsafe (e := tg) (cells := vs.size) C.w _ h1 h2 hi hi0 (by simp [World.shape?, hh]) (by rw [Array.length_toList] at hl; show off < _; omega)
  · rename_i f l off hk
    split at h <;> first | exact h.elim | skip
    rename_i tg cs hg
    obtain ⟨hf, h⟩ := h
    obtain ⟨hd, rfl⟩ := hx
    obtain ⟨vs, hh, hr⟩ := hH.obj l _ hg hd
    have hl := relAll_length hr
    rw [Array.length_toList] at hl
    unfold convKind at hk
    split at hk <;> first | (simp at hk; done) | ((repeat' split at hk) <;> simp at hk; done) | skip
    rename_i u h1 h2
    split at hk <;> first | (simp at hk; done) | skip
    rename_i i hi
    simp only [ConvKind.fromU.injEq] at hk
    subst hk
    refine ⟨_, _, h, ⟨hd, rfl⟩, ?_⟩
    exact Lib.run_from_unsafe (e := tg) (cells := vs.size) C.w _ h1 h2 hi (by simp [World.shape?, hh]) (by rw [hl]; exact hf)

/-! ### unary, nil checks, minimum, interfaces -/
def evUn (op : UnOp) (x : AV) (k : AV → Prop) : Prop :=
  match op, x with
  | .not, .bool b => k (.bool (!b))
  | .neg, .int kd n => k (.int kd (kd.wrap (0 - n)))
  | _, _ => False
theorem evUn_sound {C : Ctx} {op : UnOp} {x : AV} {xv : Value} {k : AV → Prop} (hx : Rel C x xv) (h : evUn op x k) :
    ∃ v y, k v ∧ Rel C v y ∧ (Op.unary op xv).run P w = .ok y w := by
  unfold evUn at h
  split at h <;> first | exact h.elim | skip
  · simp only [Rel] at hx
    subst hx
    exact ⟨_, _, h, rfl, by simp [Op.unary]⟩
  · simp only [Rel] at hx
    subst hx
    exact ⟨_, _, h, rfl, by simp [Op.unary, Op.intArith]⟩
def evMinMax (mn : Bool) (kd : IntKind) (a : Int) : List AV → (AV → Prop) → Prop
  | [], k => k (.int kd a)
  | .int kd' b :: xs, k => evMinMax mn kd (if mn then (if b < a then b else a) else (if b > a then b else a)) xs k
  | _ :: _, _ => False
theorem evMin_sound {C : Ctx} {kd : IntKind} {k : AV → Prop} : ∀ {xs : List AV} {vs : List Value} {a : Int}, RelAll C xs vs → evMinMax true kd a xs k →
    ∃ v y, k v ∧ Rel C v y ∧ (vs.foldlM Builtin.min2 (.int kd a) : Sem Value).run P w = .ok y w
  | [], _, a, hr, h => by cases hr; exact ⟨_, _, h, rfl, rfl⟩
  | x :: xs, _, a, hr, h => by
    obtain ⟨y, ys, rfl, h1, h2⟩ := hr
    cases x <;> first | exact h.elim | skip
    simp only [Rel] at h1
    subst h1
    obtain ⟨v, y, k1, k2, k3⟩ := evMin_sound h2 h
    exact ⟨v, y, k1, k2, by simpa [List.foldlM, Builtin.min2] using k3⟩
theorem evMax_sound {C : Ctx} {kd : IntKind} {k : AV → Prop} : ∀ {xs : List AV} {vs : List Value} {a : Int}, RelAll C xs vs → evMinMax false kd a xs k →
    ∃ v y, k v ∧ Rel C v y ∧ (vs.foldlM Builtin.max2 (.int kd a) : Sem Value).run P w = .ok y w
  | [], _, a, hr, h => by cases hr; exact ⟨_, _, h, rfl, rfl⟩
  | x :: xs, _, a, hr, h => by
    obtain ⟨y, ys, rfl, h1, h2⟩ := hr
    cases x <;> first | exact h.elim | skip
    simp only [Rel] at h1
    subst h1
    obtain ⟨v, y, k1, k2, k3⟩ := evMax_sound h2 h
    exact ⟨v, y, k1, k2, by simpa [List.foldlM, Builtin.max2] using k3⟩
end
section
variable {P : Program} {w : World}
/-! ### structs of numbers, side by side -/
def intField (P : Program) (f : Field) : Bool := f.name != "_" && (match P.underlying f.type with | some (.int _) => true | _ => false)
def flatOffs (P : Program) (t : TypeId) : Option (List Nat) :=
  match P.underlying t with
  | some (.struct fs) => if P.stoodInHeld t = false ∧ P.eqGuardType P.depth t = false ∧ fs.toList.all (intField P) = true then some (fs.toList.map (·.offset)) else none
  | _ => none
def aggAll : List Nat → List AV → List AV → (Bool → Prop) → Prop
  | [], _, _, k => k true
  | o :: os, cs, ds, k => match cs[o]?, ds[o]? with
    | some (.int ka a), some (.int kb b) => ka = kb ∧ aggAll os cs ds fun r => k ((a == b) && r)
    | _, _ => False
theorem aggAll_mono {cs ds : List AV} : ∀ {os : List Nat} {p q : Bool → Prop}, (∀ b, p b → q b) → aggAll os cs ds p → aggAll os cs ds q
  | [], p, q, hpq, h => hpq _ h
  | o :: os, p, q, hpq, h => by
    simp only [aggAll] at h ⊢
    split at h <;> first | exact h.elim | skip
    exact ⟨h.1, aggAll_mono (fun b hb => hpq _ hb) h.2⟩
theorem aggAll_det {cs ds : List AV} : ∀ {os : List Nat} {k : Bool → Prop}, aggAll os cs ds k → ∃ r, aggAll os cs ds (· = r) ∧ k r
  | [], k, h => ⟨true, rfl, h⟩
  | o :: os, k, h => by
    simp only [aggAll] at h ⊢
    split at h <;> first | exact h.elim | skip
    obtain ⟨hk, h⟩ := h
    obtain ⟨r, h3, h4⟩ := aggAll_det h
    exact ⟨_, ⟨hk, aggAll_mono (fun b hb => by rw [hb]) h3⟩, h4⟩
theorem run_part_int {t : TypeId} {k : IntKind} {o : Nat} {xs : Array Value} {v : Value} (hu : P.underlying t = some (.int k)) (h : xs[o]? = some v) : (part t xs o).run P w = .ok v w := by
  have : descAgg (.int k) = false := rfl
  simp [part, run_isAgg' hu, this, h]
theorem run_fields {C : Ctx} {d : Nat} {cs ds : List AV} {xs ys : Array Value} (hx : RelAll C cs xs.toList) (hy : RelAll C ds ys.toList) : ∀ (fs : List Field) {k : Bool → Prop}, fs.all (intField P) = true → aggAll (fs.map (·.offset)) cs ds k →
    ∃ r, k r ∧ (forIn (m := Sem) fs ((none : Option Bool), ()) fun f __s =>
            if f.name = "_" then pure (ForInStep.yield (none, ()))
            else do
              let __do_lift ← part f.type xs f.offset
              let __do_lift_1 ← part f.type ys f.offset
              let __do_lift ← Op.equalIn (d + 1) f.type __do_lift __do_lift_1
              if __do_lift = false then pure (ForInStep.done (some false, ())) else pure (ForInStep.yield (none, ()))).run P w = .ok (if r then none else some false, ()) w
  | [], k, _, h => ⟨true, h, by simp⟩
  | f :: fs, k, hf, h => by
    simp only [List.all_cons, Bool.and_eq_true] at hf
    simp only [List.map_cons, aggAll] at h
    split at h <;> first | exact h.elim | skip
    rename_i ka a kb b h1 h2
    obtain ⟨rfl, h⟩ := h
    obtain ⟨x, hxo, hxr⟩ := relAll_get hx _ _ h1
    obtain ⟨y, hyo, hyr⟩ := relAll_get hy _ _ h2
    simp only [Rel] at hxr hyr
    subst hxr hyr
    have hfi := hf.1
    simp only [intField, Bool.and_eq_true, bne_iff_ne, ne_eq] at hfi
    obtain ⟨hn, hu⟩ := hfi
    split at hu <;> first | (cases hu; done) | skip
    rename_i ki hu'
    rw [Array.getElem?_toList] at hxo hyo
    obtain ⟨r, hr, hrun⟩ := run_fields (d := d) hx hy fs hf.2 h
    have heq : (Op.equalIn (d + 1) f.type (.int ka a) (.int ka b)).run P w = .ok (a == b) w := by
      simp [Op.equalIn, run_underlying hu']
    refine ⟨_, hr, ?_⟩
    cases hab : (a == b) with
    | true =>
      rw [hab] at heq
      simp only [List.forIn_cons, if_neg hn, Sem.run_bind, run_part_int hu' hxo, run_part_int hu' hyo, Result.andThen_ok, heq, Bool.true_eq_false, if_false, Sem.run_pure]
      rw [hrun]; simp
    | false =>
      rw [hab] at heq
      simp only [List.forIn_cons, if_neg hn, Sem.run_bind, run_part_int hu' hxo, run_part_int hu' hyo, Result.andThen_ok, heq, if_true, Sem.run_pure]
      simp
theorem run_equal_flat {C : Ctx} {t : TypeId} {os : List Nat} {cs ds : List AV} {xs ys : Array Value} {k : Bool → Prop} (ho : flatOffs P t = some os) (hx : RelAll C cs xs.toList) (hy : RelAll C ds ys.toList) (h : aggAll os cs ds k) :
    ∃ r, k r ∧ (Op.equal t (.agg xs) (.agg ys)).run P w = .ok r w ∧ P.eqGuardType P.depth t = false := by
  unfold flatOffs at ho
  split at ho <;> first | (cases ho; done) | skip
  rename_i fs hu
  split at ho <;> first | (cases ho; done) | skip
  rename_i hc
  obtain ⟨hst, hg, hf⟩ := hc
  simp only [Option.some.injEq] at ho
  subst ho
  obtain ⟨r, hr, hrun⟩ := run_fields (P := P) (w := w) (d := 9998) hx hy fs.toList hf h
  refine ⟨r, hr, ?_, hg⟩
  simp only [Op.equal]
  rw [show Op.maxDepth = 9998 + 1 + 1 from rfl, Op.equalIn]
  simp only [Sem.run_bind, run_underlying hu, Result.andThen_ok]
  simp [hst]
  rw [← Array.forIn_toList, hrun]
  cases r <;> simp
end
end Go.Sim

namespace Go.Sim
section
variable {P : Program} {w : World}
/-! ### cells that are set -/
def setC {α : Type} : List α → Nat → List α → List α
  | cs, _, [] => cs
  | cs, o, v :: r => setC (cs.set o v) (o + 1) r
theorem length_setC {α : Type} : ∀ (vs : List α) (cs : List α) (o : Nat), (setC cs o vs).length = cs.length
  | [], _, _ => rfl
  | v :: r, cs, o => by rw [setC, length_setC r]; simp
theorem get_setC {α : Type} : ∀ (vs : List α) (cs : List α) (o i : Nat), o + vs.length ≤ cs.length → (setC cs o vs)[i]? = if o ≤ i ∧ i < o + vs.length then vs[i - o]? else cs[i]?
  | [], cs, o, i, h => by simp [setC]; intro h1 h2; omega
  | v :: r, cs, o, i, h => by
    rw [setC, get_setC r _ _ _ (by simp at h ⊢; omega)]
    by_cases h1 : o + 1 ≤ i ∧ i < o + 1 + r.length
    · rw [if_pos h1, if_pos (by simp; omega), show i - o = (i - (o + 1)) + 1 from by omega]; simp
    · rw [if_neg h1]
      by_cases h2 : i = o
      · subst h2
        rw [if_pos (by simp)]
        simp at h ⊢
        rw [List.getElem?_set_self (by omega)]
      · rw [if_neg (by simp; omega), List.getElem?_set_ne (by omega)]
theorem relAll_set {C : Ctx} : ∀ {cs : List AV} {xs : List Value} (o : Nat) {v : AV} {x : Value}, RelAll C cs xs → Rel C v x → RelAll C (cs.set o v) (xs.set o x)
  | [], _, o, _, _, h, _ => by cases h; simp [RelAll]
  | c :: cs, _, 0, v, x, h, hv => by
    obtain ⟨y, r, rfl, h1, h2⟩ := h
    exact ⟨x, r, rfl, hv, h2⟩
  | c :: cs, _, o + 1, v, x, h, hv => by
    obtain ⟨y, r, rfl, h1, h2⟩ := h
    exact ⟨y, r.set o x, rfl, h1, relAll_set o h2 hv⟩
theorem relAll_setC {C : Ctx} : ∀ {vs : List AV} {ys : List Value} {cs : List AV} {xs : List Value} (o : Nat), RelAll C vs ys → RelAll C cs xs → RelAll C (setC cs o vs) (setC xs o ys)
  | [], _, _, _, o, h, k => by cases h; exact k
  | v :: vs, _, cs, xs, o, h, k => by
    obtain ⟨y, r, rfl, h1, h2⟩ := h
    exact relAll_setC (o + 1) h2 (relAll_set o k h1)
def zeroCells' : Value → List AV
  | .agg cs => cs.toList.map AV.ofVal1
  | v => [AV.ofVal1 v]
def allocInfo (P : Program) (t : TypeId) : Option (List AV) := ((P.info? t).bind (·.zero)).map zeroCells'
theorem zeroCells_rel (C : Ctx) (v : Value) : RelAll C (zeroCells' v) v.cells.toList := by
  unfold zeroCells'
  split
  · exact relAll_map _ fun x _ => rel_ofVal1 C x
  · rename_i h
    have : v.cells = #[v] := by cases v <;> first | rfl | (exact absurd rfl (h _))
    rw [this]
    exact ⟨_, [], rfl, rel_ofVal1 C v, rfl⟩
theorem foldl_zipIdx_set (off : Nat) : ∀ (l : List Value) (j : Nat) (cells : Array Value), ((l.zipIdx j).foldl (fun (cs : Array Value) p => cs.setIfInBounds (off + p.2) p.1) cells).toList = setC cells.toList (off + j) l
  | [], _, _ => rfl
  | v :: r, j, cells => by
    simp only [List.zipIdx_cons, List.foldl_cons]
    rw [foldl_zipIdx_set off r (j + 1)]
    simp [setC, Array.toList_setIfInBounds, Nat.add_assoc]

/-! ### structs that are built -/
def descFields : TypeDesc → Option (List (Nat × TypeId))
  | .struct fields => some (fields.toList.map fun f => (f.offset, f.type))
  | _ => none
def placesOf (P : Program) : List (Nat × TypeId) → Option (List (Nat × Nat))
  | [] => some []
  | (o, t) :: r => match P.info? t, placesOf P r with
    | some i, some l => some ((o, i.size) :: l)
    | _, _ => none
/-- a struct's zero cells, and where its fields lie -/
def buildInfo (P : Program) (t : TypeId) : Option (List AV × List (Nat × Nat)) :=
  match allocInfo P t, ((P.underlying t).bind descFields).bind (placesOf P) with
  | some zs, some pl => some (zs, pl)
  | _, _ => none
def aFill (pl : List (Nat × Nat)) : List AV → List (Nat × AV) → (List AV → Prop) → Prop
  | cells, [], k => k cells
  | cells, (i, v) :: r, k => match pl[i]? with
    | some (off, size) => elemCells v fun cs => cs.length = size ∧ off + size ≤ cells.length ∧ aFill pl (setC cells off cs) r k
    | none => False
def evBuild (i : Option (List AV × List (Nat × Nat))) (parts : List (Nat × AV)) (k : AV → Prop) : Prop :=
  match i with
  | some (zs, pl) => aFill pl zs parts fun cs => k (.agg cs)
  | none => False
theorem places_run : ∀ (l : List Field) {pl : List (Nat × Nat)}, placesOf P (l.map fun f => (f.offset, f.type)) = some pl →
    ((l.mapM fun (f : Field) => (do pure (f.offset, ← sizeOf f.type) : Sem (Nat × Nat))) : Sem (List (Nat × Nat))).run P w = .ok pl w
  | [], pl, h => by simp [placesOf] at h; subst h; rfl
  | f :: l, pl, h => by
    simp only [List.map_cons, placesOf] at h
    split at h <;> first | (cases h; done) | skip
    rename_i i pl' hi hp
    cases h
    have ih := places_run l hp
    have hs : (sizeOf f.type).run P w = .ok i.size w := by simp [sizeOf, run_typeInfo' hi]
    simp only [List.mapM_cons, Sem.run_bind, hs, Result.andThen_ok, Sem.run_pure, ih]
theorem fill_sound {C : Ctx} {pl : List (Nat × Nat)} {k : List AV → Prop} : ∀ {ps : List (Nat × AV)} {vs : List (Nat × Value)} {cells : List AV} {xs : Array Value}, ps.map (·.1) = vs.map (·.1) → RelAll C (ps.map (·.2)) (vs.map (·.2)) → RelAll C cells xs.toList → aFill pl cells ps k →
    ∃ cs ys, k cs ∧ RelAll C cs ys.toList ∧ Instr.fill (pl.toArray[·]?) xs vs = some ys
  | [], [], cells, xs, _, _, hc, h => ⟨cells, xs, h, hc, rfl⟩
  | (i, v) :: ps, (i', x) :: vs, cells, xs, he, hr, hc, h => by
    simp only [List.map_cons, List.cons.injEq] at he
    obtain ⟨rfl, he⟩ := he
    obtain ⟨y, r, hy, h1, h2⟩ := hr
    simp only [List.map_cons, List.cons.injEq] at hy
    obtain ⟨rfl, rfl⟩ := hy
    simp only [aFill] at h
    split at h <;> first | exact h.elim | skip
    rename_i off size hp
    obtain ⟨cs, ⟨h3, h4, h5⟩, h6⟩ := elemCells_rel h1 h
    have hl := relAll_length h6
    have hl' := relAll_length hc
    rw [Array.length_toList] at hl hl'
    have hset := foldl_zipIdx_set off x.cells.toList 0 xs
    simp only [Nat.add_zero] at hset
    obtain ⟨cs', ys, h7, h8, h9⟩ := fill_sound (k := k) (xs := (setC xs.toList off x.cells.toList).toArray) he h2 (by simpa using relAll_setC off h6 hc) h5
    refine ⟨cs', ys, h7, h8, ?_⟩
    have hp' : pl.toArray[i]? = some (off, size) := by rw [List.getElem?_toArray]; exact hp
    simp only [Instr.fill, hp']
    rw [if_neg (by simp; omega)]
    rw [← h9]
    congr 1
    apply Array.toList_inj.1
    rw [← Array.foldl_toList, Array.toList_zipIdx]
    exact hset
theorem evBuild_sound {C : Ctx} {t : TypeId} {ps : List (Nat × AV)} {vs : Array (Nat × Value)} {k : AV → Prop} (he : ps.map (·.1) = vs.toList.map (·.1)) (hr : RelAll C (ps.map (·.2)) (vs.toList.map (·.2))) (h : evBuild (buildInfo P t) ps k) :
    ∃ v x, k v ∧ Rel C v x ∧ (Instr.build t vs).run P w = .ok x w := by
  unfold evBuild at h
  split at h <;> first | exact h.elim | skip
  rename_i zs pl hb
  unfold buildInfo at hb
  split at hb <;> first | (cases hb; done) | skip
  rename_i zs' pl' hz hp
  cases hb
  unfold allocInfo at hz
  cases hi : P.info? t with
  | none => simp [hi] at hz
  | some i =>
    cases hzz : i.zero with
    | none => simp [hi, hzz] at hz
    | some z =>
      simp only [hi, hzz, Option.bind_some, Option.map_some, Option.some.injEq] at hz
      subst hz
      cases hu : P.underlying t with
      | none => simp [hu] at hp
      | some d =>
        cases d <;> simp only [hu, Option.bind_some, descFields, Option.bind_none] at hp <;> first | (cases hp; done) | skip
        rename_i fields
        obtain ⟨cs, ys, hk, hcs, hf⟩ := fill_sound he hr (zeroCells_rel C z) h
        refine ⟨_, .agg ys, hk, ⟨ys, rfl, hcs⟩, ?_⟩
        have hpl := places_run (P := P) (w := w) fields.toList hp
        simp only [Instr.build, Sem.run_bind, zeroValue, run_typeInfo' hi, hzz, Result.andThen_ok, Sem.run_pure, run_underlying hu, Array.mapM_eq_mapM_toList, Sem.run_map, hpl, hf]

/-! ### maps -/
inductive KeyK where
  | int | str | bool
def aSame : AV → AV → Option Bool
  | .int k a, .int k' b => if k = k' then some (decide (a = b)) else none
  | .str a, .str b => some (decide (a = b))
  | .bool a, .bool b => some (decide (a = b))
  | _, _ => none
/-- where a key lies among the keys -/
def aFind (x : AV) : List AV → List AV → Nat → Option (Option (Nat × AV))
  | [], _, _ => some none
  | k :: ks, v :: vs, i => match aSame x k with
    | some true => some (some (i, v))
    | some false => aFind x ks vs (i + 1)
    | none => none
  | _ :: _, [], _ => none
def KeyK.fits : KeyK → AV → Bool
  | .int, .int _ _ | .str, .str _ | .bool, .bool _ => true
  | _, _ => false
end
end Go.Sim

namespace Go.Sim
section
variable {P : Program} {w : World}
def KeyK.desc (kk : KeyK) (d : TypeDesc) : Prop :=
  match kk with
  | .int => ∃ k, d = .int k
  | .str => d = .string
  | .bool => d = .bool
theorem aSame_true {x y : AV} (h : aSame x y = some true) : x = y := by
  unfold aSame at h
  split at h
  · split at h
    · rename_i hk; subst hk; simp at h; rw [h]
    · cases h
  · simp at h; rw [h]
  · simp at h; rw [h]
  · cases h
theorem aSame_sound {C : Ctx} {kk : KeyK} {d : TypeDesc} (hd : kk.desc d) {x y : AV} {xv yv : Value} {b : Bool} (hx : Rel C x xv) (hy : Rel C y yv) (hf : kk.fits x = true) (h : aSame x y = some b) : Instr.sameNow d xv yv = some b := by
  unfold aSame at h
  split at h
  · split at h <;> first | (cases h; done) | skip
    rename_i k a k' c hk
    subst hk
    simp only [Rel] at hx hy
    subst hx hy
    cases kk <;> first | (cases hf; done) | skip
    obtain ⟨k2, rfl⟩ := hd
    simp only [Option.some.injEq] at h
    simp only [Instr.sameNow, if_true, ← h, Option.some.injEq]
    by_cases e : a = c <;> simp [e]
  · simp only [Rel] at hx hy
    subst hx hy
    cases kk <;> first | (cases hf; done) | skip
    simp only [KeyK.desc] at hd
    subst hd
    simp only [Option.some.injEq] at h
    rename_i a c
    simp only [Instr.sameNow, ← h, Option.some.injEq]
    show (a.toArray == c.toArray) = _
    by_cases e : a = c
    · subst e; simp
    · simp [e]
  · simp only [Rel] at hx hy
    subst hx hy
    cases kk <;> first | (cases hf; done) | skip
    simp only [KeyK.desc] at hd
    subst hd
    simp only [Option.some.injEq] at h
    rename_i a c
    simp only [Instr.sameNow, ← h, Option.some.injEq]
    cases a <;> cases c <;> rfl
  · cases h
theorem find_sound {C : Ctx} {kk : KeyK} {d : TypeDesc} (hd : kk.desc d) {x : AV} {xv : Value} (hx : Rel C x xv) (hf : kk.fits x = true) : ∀ (es : List MapEntry) {ks vs : List AV} (i : Nat) {r : Option (Nat × AV)},
    RelAll C ks (es.map (·.key)) → RelAll C vs (es.map (·.val)) → aFind x ks vs i = some r →
    (r = none ∧ Instr.findNow d xv es i = some none) ∨ ∃ j v y, r = some (i + j, v) ∧ Instr.findNow d xv es i = some (some (i + j, y)) ∧ Rel C v y ∧ ks[j]? = some x ∧ j < es.length
  | [], ks, vs, i, r, hk, hv, h => by
    have : ks = [] := List.eq_nil_of_length_eq_zero (by have := relAll_length hk; simpa using this.symm)
    subst this
    simp only [aFind, Option.some.injEq] at h
    exact .inl ⟨h.symm, rfl⟩
  | e :: es, [], vs, i, r, hk, hv, h => by cases hk
  | e :: es, k :: ks, [], i, r, hk, hv, h => by cases hv
  | e :: es, k :: ks, v :: vs, i, r, hk, hv, h => by
    obtain ⟨kv, kr, hke, h1, h2⟩ := hk
    obtain ⟨vv, vr, hve, h3, h4⟩ := hv
    simp only [List.map_cons, List.cons.injEq] at hke hve
    obtain ⟨rfl, rfl⟩ := hke
    obtain ⟨rfl, rfl⟩ := hve
    simp only [aFind] at h
    split at h
    · rename_i hs
      simp only [Option.some.injEq] at h
      subst h
      right
      have hn := aSame_sound hd hx h1 hf hs
      refine ⟨0, v, e.val, rfl, ?_, h3, ?_, by simp⟩
      · simp only [Instr.findNow, hn]; rfl
      · rw [aSame_true hs]; rfl
    · rename_i hs
      have hn := aSame_sound hd hx h1 hf hs
      rcases find_sound hd hx hf es (i + 1) h2 h4 h with ⟨h5, h6⟩ | ⟨j, v', y, h5, h6, h7, h8, h9⟩
      · left
        refine ⟨h5, ?_⟩
        simp only [Instr.findNow, hn]; exact h6
      · right
        refine ⟨j + 1, v', y, ?_, ?_, h7, by simpa using h8, by simpa using h9⟩
        · rw [h5]; congr 2; omega
        · simp only [Instr.findNow, hn]; rw [h6]; congr 3; omega
    · cases h
theorem isKey_of {C : Ctx} {kk : KeyK} {d : TypeDesc} {x : AV} {xv : Value} (hx : Rel C x xv) (hf : kk.fits x = true) (hd : kk.desc d) (hi : ∀ k, d = .int k → ∃ n, x = .int k n) : MapKept.IsKey d xv := by
  cases kk <;> cases x <;> first | (cases hf; done) | skip
  · obtain ⟨k, rfl⟩ := hd
    obtain ⟨n, hn⟩ := hi k rfl
    cases hn
    simp only [Rel] at hx; subst hx; rfl
  · simp only [Rel] at hx; subst hx; simp only [KeyK.desc] at hd; subst hd; trivial
  · simp only [Rel] at hx; subst hx; simp only [KeyK.desc] at hd; subst hd; trivial
/-- the kind of a map's keys, exactly -/
def mapKey (P : Program) (t : TypeId) : Option AV :=
  match P.underlying t with
  | some (.map key _) => match P.underlying key with
    | some (.int k) => some (.int k 0)
    | some .string => some (.str [])
    | some .bool => some (.bool false)
    | _ => none
  | _ => none
def keyFits : AV → AV → Bool
  | .int k _, .int k' _ => decide (k = k')
  | .str _, .str _ => true
  | .bool _, .bool _ => true
  | _, _ => false
def mapZero (P : Program) (t : TypeId) : Option AV :=
  match P.underlying t with
  | some (.map _ elem) => ((P.info? elem).bind (·.zero)).map AV.ofVal
  | _ => none
def mapSel (H : Heap) : AV → Option (List AV × List AV)
  | .nilmap => some ([], [])
  | .cmap ks vs => some (ks, vs)
  | .map l => match H.get l with
    | some (.map ks vs) => some (ks, vs)
    | _ => none
  | _ => none
def evLookup (H : Heap) (key zero : Option AV) (m x : AV) (ok : Bool) (k : AV → Prop) : Prop :=
  match key, zero, mapSel H m with
  | some kk, some z, some (ks, vs) => keyFits kk x = true ∧ match aFind x ks vs 0 with
    | some (some (_, v)) => k (if ok then .tuple [v, .bool true] else v)
    | some none => k (if ok then .tuple [z, .bool false] else z)
    | none => False
  | _, _, _ => False
theorem mapKey_spec {t : TypeId} {kk x : AV} (h : mapKey P t = some kk) (hx : keyFits kk x = true) : ∃ key elem d K, P.underlying t = some (.map key elem) ∧ P.underlying key = some d ∧ KeyK.desc K d ∧ K.fits x = true ∧ ∀ k, d = .int k → ∃ n, x = .int k n := by
  unfold mapKey at h
  split at h <;> first | (cases h; done) | skip
  rename_i key elem hu
  split at h <;> first | (cases h; done) | skip
  all_goals
    rename_i hk
    cases h
    cases x <;> first | (cases hx; done) | skip
  · rename_i k k' n
    simp only [keyFits, decide_eq_true_eq] at hx
    subst hx
    exact ⟨key, elem, _, .int, hu, hk, ⟨_, rfl⟩, rfl, fun k' e => by cases e; exact ⟨n, rfl⟩⟩
  · exact ⟨key, elem, _, .str, hu, hk, rfl, rfl, fun k' e => by cases e⟩
  · exact ⟨key, elem, _, .bool, hu, hk, rfl, rfl, fun k' e => by cases e⟩
def lookTail (key elem : TypeId) (es : Array MapEntry) (index : Value) (commaOk : Bool) : Sem Value := do
  Instr.checkKey es.isEmpty 10000 key index
  let (v, ok) ← match ← Instr.findKey key index es.toList with
    | some (_, v) => pure (v, true)
    | none => pure (← zeroValue elem, false)
  pure (if commaOk then .tuple #[v, .bool ok] else v)
theorem evLookup_sound {C : Ctx} {H : Heap} {t : TypeId} {m x : AV} {mv xv : Value} {ok : Bool} {k : AV → Prop} (hH : HRel C H) (hm : Rel C m mv) (hx : Rel C x xv) (h : evLookup H (mapKey P t) (mapZero P t) m x ok k) :
    ∃ v y, k v ∧ Rel C v y ∧ (Instr.lookup t mv xv ok).run P C.w = .ok y C.w := by
  unfold evLookup at h
  split at h <;> first | exact h.elim | skip
  rename_i kk z ks vs hkk hz hsel
  obtain ⟨hfit, h⟩ := h
  obtain ⟨key, elem, d, K, hu, hkd, hK, hKx, hint⟩ := mapKey_spec hkk hfit
  have hkey := isKey_of hx hKx hK hint
  have hzero : ∃ zv, Rel C z zv ∧ (zeroValue elem).run P C.w = .ok zv C.w := by
    unfold mapZero at hz
    simp only [hu] at hz
    cases hi : P.info? elem with
    | none => simp [hi] at hz
    | some i =>
      cases hzz : i.zero with
      | none => simp [hi, hzz] at hz
      | some zv =>
        simp only [hi, hzz, Option.bind_some, Option.map_some, Option.some.injEq] at hz
        subst hz
        exact ⟨zv, rel_ofVal C zv, by simp [zeroValue, run_typeInfo' hi, hzz]⟩
  obtain ⟨zv, hzr, hzrun⟩ := hzero
  have hes : ∃ es, RelAll C ks (es.toList.map (·.key)) ∧ RelAll C vs (es.toList.map (·.val)) ∧ (Instr.lookup t mv xv ok).run P C.w = (lookTail key elem es xv ok).run P C.w := by
    cases m <;> simp only [mapSel] at hsel <;> first | (cases hsel; done) | skip
    · simp only [Rel] at hm; subst hm
      cases hsel
      exact ⟨#[], rfl, rfl, by simp only [Instr.lookup, lookTail, Sem.run_bind, run_underlying hu, Result.andThen_ok, Sem.run_pure]; rfl⟩
    · rename_i l
      obtain ⟨hd, rfl⟩ := hm
      split at hsel <;> first | (cases hsel; done) | skip
      rename_i ks' vs' hg
      cases hsel
      obtain ⟨es, c, hh, h1, h2⟩ := hH.obj l _ hg hd
      exact ⟨es, h1, h2, by simp only [Instr.lookup, lookTail, Sem.run_bind, run_underlying hu, Result.andThen_ok, Sem.run_pure, MapKept.run_getObj_map hh]; rfl⟩
    · cases hsel
      obtain ⟨b, es, c, rfl, hs, hh, h1, h2⟩ := hm
      exact ⟨es, h1.of_pure, h2.of_pure, by simp only [Instr.lookup, lookTail, Sem.run_bind, run_underlying hu, Result.andThen_ok, Sem.run_pure, MapKept.run_getObj_map hh]; rfl⟩
  obtain ⟨es, hks, hvs, hget⟩ := hes
  have hck := MapKept.run_checkKey (P := P) (w := C.w) hkd hkey es.isEmpty 9999
  split at h
  · rename_i j v hf
    rcases find_sound hK hx hKx es.toList 0 hks hvs hf with ⟨h1, _⟩ | ⟨j', v', y, h1, h2, h3, _, _⟩
    · cases h1
    · simp only [Option.some.injEq, Prod.mk.injEq] at h1
      obtain ⟨_, rfl⟩ := h1
      refine ⟨_, if ok then .tuple #[y, .bool true] else y, h, ?_, ?_⟩
      · cases ok
        · exact h3
        · exact ⟨_, rfl, y, _, rfl, h3, _, _, rfl, rfl, rfl⟩
      · have hfk := MapKept.run_findKey (P := P) (w := C.w) hkd h2
        rw [hget]
        simp only [lookTail, Sem.run_bind, hck, Result.andThen_ok, hfk, Sem.run_pure]
  · rename_i hf
    rcases find_sound hK hx hKx es.toList 0 hks hvs hf with ⟨_, h2⟩ | ⟨j', v', y, h1, _⟩
    · refine ⟨_, if ok then .tuple #[zv, .bool false] else zv, h, ?_, ?_⟩
      · cases ok
        · exact hzr
        · exact ⟨_, rfl, zv, _, rfl, hzr, _, _, rfl, rfl, rfl⟩
      · have hfk := MapKept.run_findKey (P := P) (w := C.w) hkd h2
        rw [hget]
        simp only [lookTail, Sem.run_bind, hck, Result.andThen_ok, hfk, Sem.run_pure, hzrun]
    · cases h1
  · exact h.elim
end
end Go.Sim

namespace Go.Sim
section
variable {P : Program} {w : World}
/-! ### type assertions -/
/-- an interface or not, and the zero value -/
def assertInfo (P : Program) (asserted : TypeId) : Option (Bool × AV) :=
  match P.underlying asserted, (P.info? asserted).bind (·.zero) with
  | some (.interface _), some z => some (true, .ofVal z)
  | some _, some z => some (false, .ofVal z)
  | _, _ => none
/-- whether a value of the type t is one of the asserted type -/
def assertOk (P : Program) (asserted t : TypeId) : Option Bool :=
  match P.underlying asserted with
  | some (.interface want) => (P.info? t).map fun i => (Instr.missingMethod want i.methods).isNone
  | some _ => some (decide (t = asserted))
  | none => none
def evAssert (i : Option (Bool × AV)) (okOf : TypeId → Option Bool) (x : AV) (ok : Bool) (k : AV → Prop) : Prop :=
  match i, x with
  | some (ifc, z), .iface t v => match okOf t with
    | some true => k (if ok then .tuple [if ifc then .iface t v else v, .bool true] else if ifc then .iface t v else v)
    | some false => ok = true ∧ k (.tuple [z, .bool false])
    | none => False
  | some (ifc, z), .niliface => ok = true ∧ k (.tuple [z, .bool false])
  | _, _ => False
theorem evAssert_sound {C : Ctx} {xt asserted : TypeId} {x : AV} {xv : Value} {ok : Bool} {k : AV → Prop} (hx : Rel C x xv) (h : evAssert (assertInfo P asserted) (assertOk P asserted) x ok k) :
    ∃ v y, k v ∧ Rel C v y ∧ (Instr.typeAssert xv xt asserted ok).run P w = .ok y w := by
  unfold evAssert at h
  have hinfo : ∀ ifc z, assertInfo P asserted = some (ifc, z) → ∃ d zv, P.underlying asserted = some d ∧ (zeroValue asserted).run P w = .ok zv w ∧ Rel C z zv ∧ ((ifc = true ∧ ∃ want, d = .interface want) ∨ (ifc = false ∧ ∀ want, d ≠ .interface want)) := by
    intro ifc z hi
    unfold assertInfo at hi
    cases hi2 : P.info? asserted with
    | none => simp only [hi2, Option.bind_none] at hi; split at hi <;> first | (cases hi; done) | simp_all
    | some i =>
      cases hzz : i.zero with
      | none => simp only [hi2, Option.bind_some, hzz] at hi; split at hi <;> first | (cases hi; done) | simp_all
      | some zv =>
        simp only [hi2, Option.bind_some, hzz] at hi
        cases hu : P.underlying asserted with
        | none => simp [hu] at hi
        | some d =>
          simp only [hu] at hi
          refine ⟨d, zv, rfl, by simp [zeroValue, run_typeInfo' hi2, hzz], ?_⟩
          cases d <;> simp only [Option.some.injEq, Prod.mk.injEq] at hi <;> obtain ⟨rfl, rfl⟩ := hi <;> refine ⟨rel_ofVal C zv, ?_⟩ <;> first | exact .inl ⟨rfl, _, rfl⟩ | exact .inr ⟨rfl, fun _ e => by cases e⟩
  split at h <;> first | exact h.elim | skip
  · rename_i ifc z t v hi
    obtain ⟨d, zv, hu, hz, hzr, hcase⟩ := hinfo _ _ hi
    obtain ⟨y, rfl, hv⟩ := hx
    split at h <;> first | exact h.elim | skip
    · rename_i hok
      have hval : Rel C (if ifc then AV.iface t v else v) (if ifc then Value.iface t y else y) := by
        cases ifc
        · exact hv
        · exact ⟨y, rfl, hv⟩
      refine ⟨_, if ok then .tuple #[if ifc then .iface t y else y, .bool true] else (if ifc then .iface t y else y), h, ?_, ?_⟩
      · cases ok
        · exact hval
        · exact ⟨_, rfl, _, _, rfl, hval, _, _, rfl, rfl, rfl⟩
      · unfold assertOk at hok
        rcases hcase with ⟨rfl, want, rfl⟩ | ⟨rfl, hn⟩
        · simp only [hu] at hok
          cases hit : P.info? t with
          | none => simp [hit] at hok
          | some it =>
            simp only [hit, Option.map_some, Option.some.injEq, Option.isNone_iff_eq_none] at hok
            simp [Instr.typeAssert, run_underlying hu, run_typeInfo' hit, hok]
        · have hok' : t = asserted := by
            rw [hu] at hok
            cases d <;> first | (exact absurd rfl (hn _)) | (simpa using hok)
          subst hok'
          cases d <;> first | (exact absurd rfl (hn _)) | simp [Instr.typeAssert, run_underlying hu]
    · rename_i hok
      obtain ⟨rfl, h⟩ := h
      refine ⟨_, .tuple #[zv, .bool false], h, ⟨_, rfl, _, _, rfl, hzr, _, _, rfl, rfl, rfl⟩, ?_⟩
      unfold assertOk at hok
      rcases hcase with ⟨rfl, want, rfl⟩ | ⟨rfl, hn⟩
      · simp only [hu] at hok
        cases hit : P.info? t with
        | none => simp [hit] at hok
        | some it =>
          simp only [hit, Option.map_some, Option.some.injEq, Option.isNone_eq_false_iff, Option.isSome_iff_exists] at hok
          obtain ⟨m, hm⟩ := hok
          simp [Instr.typeAssert, run_underlying hu, run_typeInfo' hit, hm, hz]
      · have hok' : t ≠ asserted := by
          rw [hu] at hok
          cases d <;> first | (exact absurd rfl (hn _)) | (simpa using hok)
        cases d <;> first | (exact absurd rfl (hn _)) | simp [Instr.typeAssert, run_underlying hu, hok', hz]
  · rename_i ifc z hi
    obtain ⟨d, zv, hu, hz, hzr, hcase⟩ := hinfo _ _ hi
    simp only [Rel] at hx
    subst hx
    obtain ⟨rfl, h⟩ := h
    refine ⟨_, .tuple #[zv, .bool false], h, ⟨_, rfl, _, _, rfl, hzr, _, _, rfl, rfl, rfl⟩, ?_⟩
    cases d <;> simp [Instr.typeAssert, run_underlying hu, hz]
/-! ### further operations that give a value -/
def evX (P : Program) (H : Heap) (ρ : Operand → AV) (o : Op) (k : AV → Prop) : Prop :=
  match o with
  | .build t parts => evBuild (buildInfo P t) (parts.toList.map fun p => (p.1, ρ p.2)) k
  | .lookup t x i ok => evLookup H (mapKey P t) (mapZero P t) (ρ x) (ρ i) ok k
  | .typeAssert x _ t ok => evAssert (assertInfo P t) (assertOk P t) (ρ x) ok k
  | _ => False
theorem evX_sound {C : Ctx} {e : Env} {H : Heap} {a : Act} {o : Oper} {k : AV → Prop} (hS : SRel C e H a w) (h : evX P H (ope e) o.op k) :
    ∃ v x, k v ∧ Rel C v x ∧ (execOp a.eval o).run P w = .ok (.value x) w := by
  have hH := hS.heap
  have hW := hS.world
  subst hW
  unfold evX at h
  split at h <;> first | exact h.elim | skip
  · rename_i t parts ho
    have hrel : RelAll C (parts.toList.map fun p => ope e p.2) (parts.toList.map fun p => a.eval p.2) := by
      have := relAll_ope hS (parts.toList.map (·.2))
      simpa [List.map_map, Function.comp_def] using this
    obtain ⟨v, z, h1, h2, h3⟩ := evBuild_sound (P := P) (w := C.w) (C := C) (t := t) (vs := parts.map fun p => (p.1, a.eval p.2)) (by simp [List.map_map, Function.comp_def]) (by simpa [List.map_map, Function.comp_def] using hrel) h
    refine ⟨v, z, h1, h2, ?_⟩
    simp only [execOp, ho, Sem.run_bind]
    show Result.andThen (Sem.run P (Instr.build t (parts.map fun p => (p.1, a.eval p.2))) C.w) _ = _
    rw [h3]; rfl
  · rename_i t x i ok ho
    obtain ⟨v, z, h1, h2, h3⟩ := evLookup_sound (P := P) hH (rel_ope hS x) (rel_ope hS i) h
    exact ⟨v, z, h1, h2, by simp [execOp, ho, h3]⟩
  · rename_i x xt t ok ho
    obtain ⟨v, z, h1, h2, h3⟩ := evAssert_sound (P := P) (w := C.w) (xt := xt) (rel_ope hS x) h
    exact ⟨v, z, h1, h2, by simp [execOp, ho, h3]⟩
end
end Go.Sim

namespace Go.Sim
section
variable {P : Program} {w : World}

/-! ### operations that leave memory as it is -/
def ifaceOk (P : Program) (t : TypeId) : Bool :=
  match P.underlying t with
  | some (.interface _) | none => false
  | _ => true
/-- pointers to something that has a size -/
def ptrElem (P : Program) (t : TypeId) : Bool :=
  match P.underlying t with
  | some (.pointer e) => match P.info? e with
    | some i => i.size != 0
    | none => false
  | _ => false
def evPtrEq (H : Heap) (l o l' o' : Nat) (k : Bool → Prop) : Prop :=
  if l = l' then k (decide (o = o')) else match H.get l, H.get l' with
    | some (.box _ _), some (.box _ _) => k false
    | _, _ => False
def evBin (P : Program) (H : Heap) (op : BinOp) (t : TypeId) (c : Bool) (x y : AV) (k : AV → Prop) : Prop :=
  match x, y with
  | .int kx a, .int ky b => evInt op kx a ky b k
  | .str a, .str b => evStr op a b k
  | .niliface, .niliface => c = true ∧ eqKind P t = .iface ∧ match op with
    | .eql => k (.bool true)
    | .neq => k (.bool false)
    | _ => False
  | .ptr l o, .ptr l' o' => ptrElem P t = true ∧ evPtrEq H l o l' o' fun r => match op with
    | .eql => k (.bool r)
    | .neq => k (.bool (!r))
    | _ => False
  | .agg cs, .agg ds => match flatOffs P t with
    | some os => aggAll os cs ds fun r => match op with
      | .eql => k (.bool r)
      | .neq => k (.bool (!r))
      | _ => False
    | none => False
  | x, y => match op, evNil (eqKind P t) x y with
    | .eql, some r => k (.bool r)
    | .neq, some r => k (.bool (!r))
    | _, _ => False
def isConst : Operand → Bool
  | .const _ => true
  | _ => false
def evNilCheck (x : AV) (k : AV → Prop) : Prop :=
  match x with
  | .ptr _ _ | .cptr _ _ | .meptr _ _ _ _ _ | .iface _ _ | .func (.func _) _ _ => k x
  | _ => False
def evV (P : Program) (H : Heap) (ρ : Operand → AV) (o : Op) (k : AV → Prop) : Prop :=
  match o with
  | .move x | .assign x => k (ρ x)
  | .pick c a b => match ρ c with
    | .bool t => k (if t then ρ a else ρ b)
    | _ => False
  | .load t p => evLoad P H t (ρ p) k
  | .nilCheck x => evNilCheck (ρ x) k
  | .binOp op t x y _ => evBin P H op t (isConst x || isConst y) (ρ x) (ρ y) k
  | .unOp op _ x => evUn op (ρ x) k
  | .convert s d x => evConv H (convKind P s d) (ρ x) k
  | .makeInterface t x => ifaceOk P t = true ∧ k (.iface t (ρ x))
  | .makeFunc fn first cap => k (.func fn (first.toList.map ρ) (cap.toList.map ρ))
  | .slice t x lo hi mx => evSl H (arrN P t) (lenKind P t) (elemSz P t) (ρ x) (lo.map ρ) (hi.map ρ) (mx.map ρ) k
  | .fieldAddr t x f => evFieldAddr (fieldOff P t f) (ρ x) k
  | .field t x f => evField (fieldInfo P t f) (ρ x) k
  | .indexAddr t x i => evIdx H (arrN P t) (elemSz P t) (ρ x) (ρ i) k
  | .index t x i => evIndex (lenKind P t) (ρ x) (ρ i) k
  | .extract x i => evExtract (ρ x) i k
  | .call { callee := .builtin .len, args := ⟨[x]⟩, argTypes := ⟨[t]⟩ } => evLen (lenKind P t) (ρ x) k
  | .call { callee := .builtin .min, args := ⟨x :: xs⟩, argTypes := _ } => match ρ x with
    | .int kd n => evMinMax true kd n (xs.map ρ) k
    | _ => False
  | .call { callee := .builtin .max, args := ⟨x :: xs⟩, argTypes := _ } => match ρ x with
    | .int kd n => evMinMax false kd n (xs.map ρ) k
    | _ => False
  | o => evX P H ρ o k

theorem evNilCheck_sound {C : Ctx} {x : AV} {xv : Value} {k : AV → Prop} (hx : Rel C x xv) (h : evNilCheck x k) :
    k x ∧ ∀ (o : Oper) (y : Operand) (a : Act), o.op = .nilCheck y → a.eval y = xv → (execOp a.eval o).run P w = .ok (.value xv) w := by
  unfold evNilCheck at h
  split at h <;> first | exact h.elim | skip
  all_goals
    refine ⟨h, fun o y a ho hy => ?_⟩
    simp only [Rel] at hx
  · obtain ⟨_, rfl⟩ := hx; simp [execOp, ho, hy]
  · obtain ⟨_, _, _, rfl, _⟩ := hx; simp [execOp, ho, hy]
  · obtain ⟨_, _, _, _, rfl, _⟩ := hx; simp [execOp, ho, hy]
  · obtain ⟨_, rfl, _⟩ := hx; simp [execOp, ho, hy]
  · obtain ⟨_, _, rfl, _⟩ := hx; simp [execOp, ho, hy]
def plainEq : Value → Bool
  | .bool _ | .pointer _ | .iface _ _ | .func _ _ _ | .nilFunc | .map _ | .nilIface | .slice _ _ _ => true
  | _ => false
theorem run_eqGuard_plain {op : BinOp} {t : TypeId} {X Y : Operand} {a b : Value} (h : a ≠ .nilIface ∨ b ≠ .nilIface) (h2 : ∀ cs, a ≠ .agg cs) : (eqGuard op t X Y a b).run P w = .ok () w := by
  cases op <;> simp only [eqGuard] <;> cases a <;> cases b <;> first | rfl | (simp at h; done) | (exact absurd rfl (h2 _))
theorem run_eqGuard_const {op : BinOp} {t : TypeId} {X Y : Operand} (h : (isConst X || isConst Y) = true) : (eqGuard op t X Y .nilIface .nilIface).run P w = .ok () w := by
  cases op <;> simp only [eqGuard] <;> cases X <;> cases Y <;> first | rfl | (simp [isConst] at h; done)
theorem run_binOp_eql {t : TypeId} {a b : Value} {r : Bool} (ha : plainEq a = true) (h : (Op.equal t a b).run P w = .ok r w) :
    (binOp .eql t a b).run P w = .ok (.bool r) w ∧ (binOp .neq t a b).run P w = .ok (.bool (!r)) w := by
  cases a <;> first | (simp [plainEq] at ha; done) | skip
  all_goals cases b <;> exact ⟨by simp [binOp, h], by simp [binOp, h]⟩
theorem evNil_plain {C : Ctx} {kd : EqKind} {x y : AV} {xv : Value} {r : Bool} (hx : Rel C x xv) (h : evNil kd x y = some r) : plainEq xv = true := by
  unfold evNil at h
  split at h
  · simp only [Rel] at hx; subst hx; rfl
  · split at h <;> first | (cases h; done) | skip
    all_goals
      rename_i h1 h2
      have := nilState_val hx h1
      cases kd <;> first | exact this.elim | skip
      all_goals
        simp only [if_true, Bool.false_eq_true, if_false] at this
        first | (subst this; rfl) | (obtain ⟨_, rfl⟩ := this; rfl) | (obtain ⟨_, _, rfl⟩ := this; rfl) | (obtain ⟨_, _, _, rfl⟩ := this; rfl)
theorem evPtrEq_sound {C : Ctx} {H : Heap} {t : TypeId} {l o l' o' : Nat} {x y : Value} {k : Bool → Prop} (hH : HRel C H) (ht : ptrElem P t = true) (hx : Rel C (.ptr l o) x) (hy : Rel C (.ptr l' o') y) (h : evPtrEq H l o l' o' k) :
    ∃ r, k r ∧ (Op.equal t x y).run P C.w = .ok r C.w := by
  obtain ⟨hd, rfl⟩ := hx
  obtain ⟨hd', rfl⟩ := hy
  unfold ptrElem at ht
  split at ht <;> first | (cases ht; done) | skip
  rename_i e hu
  split at ht <;> first | (cases ht; done) | skip
  rename_i i hi
  have hs : i.size ≠ 0 := by simpa using ht
  have hs' : ¬ i.size = 0 := hs
  unfold evPtrEq at h
  split at h
  · rename_i hl
    subst hl
    refine ⟨_, h, ?_⟩
    simp only [Op.equal]
    rw [show Op.maxDepth = 9999 + 1 from rfl, Op.equalIn]
    have : ((⟨C.β l, o, none⟩ : Addr) == ⟨C.β l, o', none⟩) = decide (o = o') := by
      by_cases ho : o = o'
      · subst ho; simp
      · simp [ho]
    simp [run_underlying hu, sizeOf, run_typeInfo' hi, hs, sameAddr, this]
  · rename_i hl
    split at h <;> first | exact h.elim | skip
    rename_i t1 c1 t2 c2 hg hg'
    refine ⟨_, h, ?_⟩
    obtain ⟨v1, hh1, _⟩ := hH.obj l _ hg hd
    obtain ⟨v2, hh2, _⟩ := hH.obj l' _ hg' hd'
    have hne : (⟨C.β l, o, none⟩ : Addr) ≠ ⟨C.β l', o', none⟩ := by
      intro he
      simp only [Addr.mk.injEq] at he
      exact hl (hH.inj l l' _ _ (C.β l) hg hg' hd hd' rfl (by show some (C.β l') = _; rw [he.1]))
    simp only [Op.equal]
    rw [show Op.maxDepth = 9999 + 1 from rfl, Op.equalIn]
    simp [run_underlying hu, sizeOf, run_typeInfo' hi, hs, run_sameAddr_other C.w hne hh1 hh2]
theorem run_eqGuard_agg {op : BinOp} {t : TypeId} {X Y : Operand} {a b : Array Value} (h : P.eqGuardType P.depth t = false) : (eqGuard op t X Y (.agg a) (.agg b)).run P w = .ok () w := by
  cases op <;> simp [eqGuard, h]
theorem run_binOp_agg {t : TypeId} {a b : Array Value} {r : Bool} (h : (Op.equal t (.agg a) (.agg b)).run P w = .ok r w) :
    (binOp .eql t (.agg a) (.agg b)).run P w = .ok (.bool r) w ∧ (binOp .neq t (.agg a) (.agg b)).run P w = .ok (.bool (!r)) w :=
  ⟨by simp [binOp, h], by simp [binOp, h]⟩
theorem evBin_sound {C : Ctx} {H : Heap} {op : BinOp} {t : TypeId} {X Y : Operand} {x y : AV} {xv yv : Value} {k : AV → Prop} (hH : HRel C H) (hx : Rel C x xv) (hy : Rel C y yv) (h : evBin P H op t (isConst X || isConst Y) x y k) :
    ∃ v z, k v ∧ Rel C v z ∧ (eqGuard op t X Y xv yv).run P C.w = .ok () C.w ∧ (binOp op t xv yv).run P C.w = .ok z C.w := by
  unfold evBin at h
  split at h
  · rename_i kx a ky b
    simp only [Rel] at hx hy
    subst hx hy
    obtain ⟨v, z, h1, h2, h3⟩ := evInt_sound (P := P) (w := C.w) (C := C) (t := t) h
    exact ⟨v, z, h1, h2, run_eqGuard_plain (by simp) (by simp), h3⟩
  · simp only [Rel] at hx hy
    subst hx hy
    obtain ⟨v, z, h1, h2, h3⟩ := evStr_sound (P := P) (w := C.w) (C := C) (t := t) h
    exact ⟨v, z, h1, h2, run_eqGuard_plain (by simp) (by simp), h3⟩
  · obtain ⟨hc, hk, h⟩ := h
    have hn : evNil (eqKind P t) .niliface .niliface = some true := by rw [hk]; rfl
    have he := evNil_sound (P := P) (w := C.w) hx hy hn
    have hp := evNil_plain hx hn
    have hb := run_binOp_eql hp he
    simp only [Rel] at hx hy
    subst hx hy
    cases op <;> first | exact h.elim | skip
    · exact ⟨_, _, h, rfl, run_eqGuard_const hc, hb.1⟩
    · exact ⟨_, _, h, rfl, run_eqGuard_const hc, hb.2⟩
  · rename_i l o l' o'
    obtain ⟨ht, h⟩ := h
    obtain ⟨r, h, he⟩ := evPtrEq_sound (P := P) hH ht hx hy h
    have hx' := hx
    obtain ⟨_, rfl⟩ := hx'
    have hb := run_binOp_eql (by rfl) he
    cases op <;> first | exact h.elim | skip
    · exact ⟨_, _, h, rfl, run_eqGuard_plain (by simp) (by simp), hb.1⟩
    · exact ⟨_, _, h, rfl, run_eqGuard_plain (by simp) (by simp), hb.2⟩
  · rename_i cs ds
    split at h <;> first | exact h.elim | skip
    rename_i os hos
    obtain ⟨xs, rfl, hxs⟩ := hx
    obtain ⟨ys, rfl, hys⟩ := hy
    obtain ⟨r, h, he, hg⟩ := run_equal_flat (P := P) (w := C.w) hos hxs hys h
    have hb := run_binOp_agg he
    cases op <;> first | exact h.elim | skip
    · exact ⟨_, _, h, rfl, run_eqGuard_agg hg, hb.1⟩
    · exact ⟨_, _, h, rfl, run_eqGuard_agg hg, hb.2⟩
  · rename_i hi hs hn hpp hag
    have key : ∀ r, evNil (eqKind P t) x y = some r → (∀ o, (eqGuard o t X Y xv yv).run P C.w = .ok () C.w) ∧ (binOp .eql t xv yv).run P C.w = .ok (.bool r) C.w ∧ (binOp .neq t xv yv).run P C.w = .ok (.bool (!r)) C.w := by
      intro r hr
      have he := evNil_sound (P := P) (w := C.w) hx hy hr
      have hp := evNil_plain hx hr
      refine ⟨fun o => run_eqGuard_plain ?_ (fun cs hv => by subst hv; cases hp), run_binOp_eql hp he⟩
      by_cases h1 : xv = .nilIface
      · right
        intro h2
        subst h1 h2
        have e1 : x = .niliface ∨ x = .any := by cases x <;> first | (simp; done) | (simp [Rel] at hx; done)
        have e2 : y = .niliface ∨ y = .any := by cases y <;> first | (simp; done) | (simp [Rel] at hy; done)
        rcases e1 with rfl | rfl
        · rcases e2 with rfl | rfl
          · exact hn rfl rfl
          · revert hr; cases eqKind P t <;> simp [evNil, nilState]
        · revert hr; cases eqKind P t <;> simp [evNil, nilState]
      · exact .inl h1
    split at h <;> first | exact h.elim | skip
    · rename_i r hr
      obtain ⟨h1, h2, h3⟩ := key r hr
      exact ⟨_, _, h, rfl, h1 _, h2⟩
    · rename_i r hr
      obtain ⟨h1, h2, h3⟩ := key r hr
      exact ⟨_, _, h, rfl, h1 _, h3⟩
theorem bndRel_map {C : Ctx} {e : Env} {H : Heap} {a : Act} (hS : SRel C e H a w) (o : Option Operand) : BndRel C (o.map (ope e)) (o.map a.eval) := by
  cases o with
  | none => trivial
  | some x => exact rel_ope hS x
theorem evV_sound {C : Ctx} {e : Env} {H : Heap} {a : Act} {o : Oper} {k : AV → Prop} (hS : SRel C e H a w) (h : evV P H (ope e) o.op k) :
    ∃ v x, k v ∧ Rel C v x ∧ (execOp a.eval o).run P w = .ok (.value x) w := by
  have hH := hS.heap
  have hW := hS.world
  subst hW
  unfold evV at h
  split at h
  · rename_i x ho
    exact ⟨_, _, h, rel_ope hS x, by simp [execOp, ho]⟩
  · rename_i x ho
    exact ⟨_, _, h, rel_ope hS x, by simp [execOp, ho]⟩
  · rename_i c x y ho
    split at h <;> first | exact h.elim | skip
    rename_i t hc
    have h1 := rel_ope hS c
    rw [hc] at h1
    simp only [Rel] at h1
    refine ⟨_, if t then a.eval x else a.eval y, h, ?_, ?_⟩
    · cases t
      · exact rel_ope hS y
      · exact rel_ope hS x
    · cases t <;> simp [execOp, ho, h1, asBool]
  · rename_i t p ho
    obtain ⟨v, x, h1, h2, h3⟩ := evLoad_sound (P := P) hH (rel_ope hS p) h
    exact ⟨v, x, h1, h2, by simp [execOp, ho, h3]⟩
  · rename_i x ho
    obtain ⟨h1, h2⟩ := evNilCheck_sound (P := P) (w := C.w) (rel_ope hS x) h
    exact ⟨_, _, h1, rel_ope hS x, h2 o x a ho rfl⟩
  · rename_i op t x y ty ho
    obtain ⟨v, z, h1, h2, h3, h4⟩ := evBin_sound (P := P) hH (rel_ope hS x) (rel_ope hS y) h
    exact ⟨v, z, h1, h2, by simp [execOp, ho, h3, h4]⟩
  · rename_i op t x ho
    obtain ⟨v, z, h1, h2, h3⟩ := evUn_sound (P := P) (w := C.w) (rel_ope hS x) h
    exact ⟨v, z, h1, h2, by simp [execOp, ho, h3]⟩
  · rename_i s d x ho
    obtain ⟨v, z, h1, h2, h3⟩ := evConv_sound (P := P) hH (rel_ope hS x) h
    exact ⟨v, z, h1, h2, by simp [execOp, ho, h3]⟩
  · rename_i t x ho
    obtain ⟨h0, h⟩ := h
    refine ⟨_, .iface t (a.eval x), h, ⟨_, rfl, rel_ope hS x⟩, ?_⟩
    unfold ifaceOk at h0
    split at h0 <;> first | (cases h0; done) | skip
    rename_i hn1 hn2
    cases hu : P.underlying t with
    | none => exact absurd hu hn2
    | some d =>
      cases d <;> first | (exact absurd hu (hn1 _)) | simp [execOp, ho, Instr.makeInterface, run_underlying hu]
  · rename_i fn first cap ho
    refine ⟨_, .func fn (first.map a.eval) (cap.map a.eval), h, ⟨_, _, rfl, ?_, ?_⟩, by simp [execOp, ho, Instr.makeFunc]⟩
    · simpa using relAll_ope hS first.toList
    · simpa using relAll_ope hS cap.toList
  · rename_i t x lo hi mx ho
    obtain ⟨v, z, h1, h2, h3⟩ := evSl_sound (P := P) hH (rel_ope hS x) (bndRel_map hS lo) (bndRel_map hS hi) (bndRel_map hS mx) h
    exact ⟨v, z, h1, h2, by simp [execOp, ho, h3]⟩
  · rename_i t x f ho
    obtain ⟨v, z, h1, h2, h3⟩ := evFieldAddr_sound (P := P) (w := C.w) (rel_ope hS x) h
    exact ⟨v, z, h1, h2, by simp [execOp, ho, h3]⟩
  · rename_i t x f ho
    obtain ⟨v, z, h1, h2, h3⟩ := evField_sound (P := P) (w := C.w) (rel_ope hS x) h
    exact ⟨v, z, h1, h2, by simp [execOp, ho, h3]⟩
  · rename_i t x i ho
    obtain ⟨v, z, h1, h2, h3⟩ := evIdx_sound (P := P) hH (rel_ope hS x) (rel_ope hS i) h
    exact ⟨v, z, h1, h2, by simp [execOp, ho, h3]⟩
  · rename_i t x i ho
    obtain ⟨v, z, h1, h2, h3⟩ := evIndex_sound (P := P) (w := C.w) (rel_ope hS x) (rel_ope hS i) h
    exact ⟨v, z, h1, h2, by simp [execOp, ho, h3]⟩
  · rename_i x i ho
    obtain ⟨v, z, h1, h2, h3⟩ := evExtract_sound (P := P) (w := C.w) (rel_ope hS x) h
    exact ⟨v, z, h1, h2, by simp [execOp, ho, h3]⟩
  · rename_i x t ho
    obtain ⟨v, z, h1, h2, h3⟩ := evLen_sound (P := P) (w := C.w) (ty := o.type) (rel_ope hS x) h
    exact ⟨v, z, h1, h2, by simp [execOp, ho, resolve, invoke, builtin, h3]⟩
  · rename_i x xs ts ho
    split at h <;> first | exact h.elim | skip
    rename_i kd n hn
    have h1 := rel_ope hS x
    rw [hn] at h1
    simp only [Rel] at h1
    obtain ⟨v, z, k1, k2, k3⟩ := evMin_sound (P := P) (w := C.w) (relAll_ope hS xs) h
    exact ⟨v, z, k1, k2, by simp [execOp, ho, resolve, invoke, builtin, Builtin.min_, h1, k3]⟩
  · rename_i x xs ts ho
    split at h <;> first | exact h.elim | skip
    rename_i kd n hn
    have h1 := rel_ope hS x
    rw [hn] at h1
    simp only [Rel] at h1
    obtain ⟨v, z, k1, k2, k3⟩ := evMax_sound (P := P) (w := C.w) (relAll_ope hS xs) h
    exact ⟨v, z, k1, k2, by simp [execOp, ho, resolve, invoke, builtin, Builtin.max_, h1, k3]⟩
  · exact evX_sound hS h
end
end Go.Sim
