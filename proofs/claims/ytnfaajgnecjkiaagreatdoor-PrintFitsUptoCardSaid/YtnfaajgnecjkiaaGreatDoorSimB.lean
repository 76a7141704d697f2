/- Stores, new objects, literals, maps and appends over abstract heaps are sound in the machine. -/
import Derived.Test.YtnfaajgnecjkiaaGreatDoorSimA
import Derived.Laws.IdiomCopy
import Derived.Laws.Append
set_option linter.unusedVariables false
set_option linter.unusedSimpArgs false
namespace Go.Sim
section
variable {P : Program} {w : World}

theorem heap_setCell_at {w : World} {b : Nat} {cs : Array Value} {e : TypeId} {fz : Nat × Nat} (h : w.heap[b]? = some (.cells cs e fz)) (o : Nat) (v : Value) :
    (w.setCell ⟨b, o, none⟩ v).heap[b]? = some (.cells (cs.setIfInBounds o v) e fz) := by
  simp [World.setCell, Array.getElem?_modify, h]
theorem heap_setCell_ne {w : World} {b b' : Nat} (h : b' ≠ b) (o : Nat) (v : Value) : (w.setCell ⟨b, o, none⟩ v).heap[b']? = w.heap[b']? := by
  simp [World.setCell, Array.getElem?_modify, h.symm]
theorem size_setCell {w : World} {b : Nat} (o : Nat) (v : Value) : (w.setCell ⟨b, o, none⟩ v).heap.size = w.heap.size := by
  simp [World.setCell]
theorem heap_setCells_at : ∀ (vs : List Value) (o : Nat) {w : World} {b : Nat} {cs : Array Value} {e : TypeId} {fz : Nat × Nat}, w.heap[b]? = some (.cells cs e fz) →
    ∃ cs', (w.setCells b o vs).heap[b]? = some (.cells cs' e fz) ∧ cs'.toList = setC cs.toList o vs
  | [], _, _, _, cs, _, _, h => ⟨cs, h, rfl⟩
  | v :: r, o, w, b, cs, e, fz, h => by
    obtain ⟨cs', h1, h2⟩ := heap_setCells_at r (o + 1) (heap_setCell_at h o v)
    exact ⟨cs', h1, by rw [h2, setC]; simp [Array.toList_setIfInBounds]⟩
theorem heap_setCells_ne : ∀ (vs : List Value) (o : Nat) {w : World} {b b' : Nat}, b' ≠ b → (w.setCells b o vs).heap[b']? = w.heap[b']?
  | [], _, _, _, _, _ => rfl
  | v :: r, o, w, b, b', h => (heap_setCells_ne r (o + 1) h).trans (heap_setCell_ne h o v)
theorem size_setCells : ∀ (vs : List Value) (o : Nat) {w : World} {b : Nat}, (w.setCells b o vs).heap.size = w.heap.size
  | [], _, _, _ => rfl
  | v :: r, o, w, b => (size_setCells r (o + 1)).trans (size_setCell o v)
theorem same_setCells : ∀ (vs : List Value) (o : Nat) {w : World} {b : Nat}, SameIO w (w.setCells b o vs)
  | [], _, _, _ => SameIO.refl _
  | v :: r, o, w, b => SameIO.trans (b := w.setCell ⟨b, o, none⟩ v) ⟨rfl, rfl, rfl⟩ (same_setCells r (o + 1))
theorem one_oneCell {v : Value} (h : v.one = true) : v.oneCell' = true := by cases v <;> first | rfl | (simp [Value.one] at h; done)
theorem run_storeCells {w : World} {b o : Nat} {vs : List Value} {cs : Array Value} {e : TypeId} {fz : Nat × Nat} (h : w.heap[b]? = some (.cells cs e fz)) (hf : ∀ j, j < cs.size → w.frozen? ⟨b, j, none⟩ = false) (hl : o + vs.length ≤ cs.size) (h1 : ∀ v ∈ vs, v.one = true) :
    (storeCells ⟨b, o, none⟩ vs).run P w = .ok () (w.setCells b o vs) := by
  have := run_storeCells_cells (P := P) b o vs 0 w (fun j hj => by
    have : o + j < cs.size := by omega
    simp [World.cell?, h, this]) (fun j hj => hf _ (by omega)) (fun v hv => one_oneCell (h1 v hv))
  simpa using this

/-! ### objects persist -/
theorem ORel.mono {C C' : Ctx} (hE : Ext C C') {l : Nat} {o : AObj} (h : ORel C l o) (hβ : C'.β l = C.β l) (hσ : C'.σ l = C.σ l) (hl : C'.len l = C.len l)
    (hb : ∀ b, blockOf C l o = some b → C'.w.heap[b]? = C.w.heap[b]?) : ORel C' l o := by
  cases o with
  | box t cs =>
    obtain ⟨vs, h1, h2⟩ := h
    exact ⟨vs, by rw [hβ, hb _ rfl]; exact h1, RelAll.mono hE _ _ h2⟩
  | row t sz xs =>
    obtain ⟨h1, h2⟩ := h
    refine ⟨hl.trans h1, ?_⟩
    rcases h2 with ⟨h2, h3⟩ | ⟨b, cs, fz, vs, h2, h3, h4, h5, h6, h7⟩
    · exact .inl ⟨hσ.trans h2, h3⟩
    · have hh := hb b h2
      refine .inr ⟨b, cs, fz, vs, hσ.trans h2, hh.trans h3, RelAll.mono hE.pure _ _ h4, h5.of_heap hh, h6, fun o ho => ?_⟩
      have := h7 o ho
      simp only [World.frozen?, hh] at this ⊢
      exact this
  | map ks vs =>
    obtain ⟨es, c, h1, h2, h3⟩ := h
    exact ⟨es, c, by rw [hβ, hb _ rfl]; exact h1, RelAll.mono hE _ _ h2, RelAll.mono hE _ _ h3⟩
  | siter s pos => simp only [ORel] at h ⊢; rw [hβ, hb _ rfl]; exact h
theorem Heap.get_set_self {H : Heap} {l : Nat} {o : Option AObj} (h : l < H.length) : Heap.get (H.set l o) l = o := by simp [Heap.get, h]
theorem Heap.get_set_ne {H : Heap} {l l' : Nat} {o : Option AObj} (h : l' ≠ l) : Heap.get (H.set l o) l' = Heap.get H l' := by simp [Heap.get, List.getElem?_set_ne h.symm]
theorem Heap.get_lt {H : Heap} {l : Nat} {o : AObj} (h : H.get l = some o) : l < H.length := by
  simp only [Heap.get] at h
  rcases Nat.lt_or_ge l H.length with h1 | h1
  · exact h1
  · rw [List.getElem?_eq_none h1] at h; cases h
/-- One object is another one, at the block b'; all else stays. -/
theorem HRel.put {C C' : Ctx} {H : Heap} {l : Nat} {obj : AObj} {b' : Nat} (hH : HRel C H) (hE : Ext C C') (hl : l < H.length) (hdom : ∀ m, C'.dom m ↔ C.dom m ∨ m = l)
    (hβ : ∀ m, m ≠ l → C'.β m = C.β m) (hσ : ∀ m, m ≠ l → C'.σ m = C.σ m) (hlen : ∀ m, m ≠ l → C'.len m = C.len m)
    (hheap : ∀ b, C.own b → b ≠ b' → C'.w.heap[b]? = C.w.heap[b]?) (hne : ∀ m o, m ≠ l → H.get m = some o → C.dom m → blockOf C m o ≠ some b')
    (hown : ∀ b, C'.own b ↔ C.own b ∨ b = b') (hlt : ∀ b, C'.own b → b < C'.w.heap.size) (hobj : ORel C' l obj) (hblk : blockOf C' l obj = some b') (hhi : C'.hi = C.hi := by rfl) :
    HRel C' (H.set l (some obj)) := by
  have hblk' : ∀ m o, m ≠ l → blockOf C' m o = blockOf C m o := by
    intro m o hm
    cases o <;> simp only [blockOf] <;> first | exact hσ m hm | rw [hβ m hm]
  refine ⟨?_, ?_, ?_, hlt, ?_, by rw [hhi, List.length_set]; exact hH.hi⟩
  · intro m o hg hd
    by_cases hm : m = l
    · subst hm
      rw [Heap.get_set_self hl] at hg
      cases hg; exact hobj
    · rw [Heap.get_set_ne hm] at hg
      have hd' : C.dom m := ((hdom m).1 hd).resolve_right hm
      exact (hH.obj m o hg hd').mono hE (hβ m hm) (hσ m hm) (hlen m hm) fun b hb => hheap b (hH.own m o b hg hd' hb) fun e => hne m o hm hg hd' (e ▸ hb)
  · intro m o b hg hd hb
    by_cases hm : m = l
    · subst hm
      rw [Heap.get_set_self hl] at hg
      cases hg
      rw [hblk] at hb
      cases hb
      exact (hown b').2 (.inr rfl)
    · rw [Heap.get_set_ne hm] at hg
      have hd' : C.dom m := ((hdom m).1 hd).resolve_right hm
      rw [hblk' m o hm] at hb
      exact (hown b).2 (.inl (hH.own m o b hg hd' hb))
  · intro m m' o o' b hg hg' hd hd' hb hb'
    by_cases hm : m = l <;> by_cases hm' : m' = l
    · rw [hm, hm']
    · subst hm
      rw [Heap.get_set_self hl] at hg
      cases hg
      rw [hblk] at hb
      cases hb
      rw [Heap.get_set_ne hm'] at hg'
      rw [hblk' m' o' hm'] at hb'
      exact absurd hb' (hne m' o' hm' hg' (((hdom m').1 hd').resolve_right hm'))
    · subst hm'
      rw [Heap.get_set_self hl] at hg'
      cases hg'
      rw [hblk] at hb'
      cases hb'
      rw [Heap.get_set_ne hm] at hg
      rw [hblk' m o hm] at hb
      exact absurd hb (hne m o hm hg (((hdom m).1 hd).resolve_right hm))
    · rw [Heap.get_set_ne hm] at hg
      rw [Heap.get_set_ne hm'] at hg'
      rw [hblk' m o hm] at hb
      rw [hblk' m' o' hm'] at hb'
      exact hH.inj m m' o o' b hg hg' (((hdom m).1 hd).resolve_right hm) (((hdom m').1 hd').resolve_right hm') hb hb'
  · intro m hd
    rw [List.length_set]
    rcases (hdom m).1 hd with h | rfl
    · exact hH.dom m h
    · exact hl
end
end Go.Sim

namespace Go.Sim
section
variable {P : Program} {w : World}

/-! ### a new object -/
def Ctx.new (C : Ctx) (l n : Nat) (w' : World) : Ctx where
  dom m := C.dom m ∨ m = l
  σ m := if m = l then some C.w.heap.size else C.σ m
  β m := if m = l then C.w.heap.size else C.β m
  len m := if m = l then n else C.len m
  own b := C.own b ∨ b = C.w.heap.size
  im := C.im
  hi := C.hi
  w := w'
theorem heap_push_ne {w : World} {o : Obj} {b : Nat} (h : b ≠ w.heap.size) : (w.heap.push o)[b]? = w.heap[b]? := by
  rw [Array.getElem?_push, if_neg h]
theorem Ext.new {C : Ctx} {l n : Nat} {w' : World} {o : Obj} (hl : ¬ C.dom l) (hhi : C.hi ≤ l) (hw : w'.heap = C.w.heap.push o) (hs : SameIO C.w w') : Ext C (C.new l n w') where
  same := hs
  hi := Nat.le_refl _
  fresh m h := h.elim .inl fun e => .inr (e ▸ hhi)
  dom m h := .inl h
  β m h := by
    have : m ≠ l := fun e => hl (e ▸ h)
    simp [Ctx.new, this]
  len m h := by
    have : m ≠ l := fun e => hl (e ▸ h)
    simp [Ctx.new, this]
  σ m h _ := by
    have : m ≠ l := fun e => hl (e ▸ h)
    simp [Ctx.new, this]
  im _ h := h
  old b hb _ := by show w'.heap[b]? = _; rw [hw]; exact heap_push_ne (by omega)
  imOld _ _ h := .inl h
  ownOld b hb h := h.resolve_right (by omega)
  size := by show C.w.heap.size ≤ w'.heap.size; rw [hw]; simp
  shape b s h := by
    have : b ≠ C.w.heap.size := by
      intro e
      subst e
      simp [World.shape?] at h
    show w'.shape? b = _
    simp only [World.shape?] at h ⊢
    rw [hw, heap_push_ne this]; exact h
/-- The object at l is new in the world; the heap lists it already. -/
theorem HRel.new {C : Ctx} {H : Heap} {l n : Nat} {w' : World} {o : Obj} {obj : AObj} (hH : HRel C H) (hg : H.get l = some obj) (hl : ¬ C.dom l) (hhi : C.hi ≤ l) (hw : w'.heap = C.w.heap.push o) (hs : SameIO C.w w')
    (hobj : ORel (C.new l n w') l obj) (hblk : blockOf (C.new l n w') l obj = some C.w.heap.size) : HRel (C.new l n w') H := by
  have hE := Ext.new (n := n) hl hhi hw hs
  have e : H.set l (some obj) = H := by
    apply List.ext_getElem?
    intro i
    have hlt := Heap.get_lt hg
    by_cases hi : i = l
    · subst hi
      rw [List.getElem?_set_self hlt]
      simp only [Heap.get] at hg
      rw [List.getElem?_eq_getElem hlt] at hg ⊢
      simp at hg
      rw [hg]
    · rw [List.getElem?_set_ne (fun e => hi e.symm)]
  rw [← e]
  refine hH.put (b' := C.w.heap.size) hE (Heap.get_lt hg) (fun m => Iff.rfl) (fun m hm => by simp [Ctx.new, hm]) (fun m hm => by simp [Ctx.new, hm]) (fun m hm => by simp [Ctx.new, hm])
    (fun b hb hne => by show w'.heap[b]? = _; rw [hw]; exact heap_push_ne hne) ?_ (fun b => Iff.rfl) ?_ hobj hblk
  · intro m o' hm hgm hd hb
    have := hH.lt _ (hH.own m o' _ hgm hd hb)
    omega
  · intro b hb
    show b < w'.heap.size
    rw [hw, Array.size_push]
    rcases hb with hb | hb
    · have := hH.lt b hb; omega
    · omega
theorem Heap.get_push {H : Heap} {o : Option AObj} : Heap.get (H ++ [o]) H.length = o := by simp [Heap.get]
theorem Heap.get_push_ne {H : Heap} {o : Option AObj} {l : Nat} (h : l ≠ H.length) : Heap.get (H ++ [o]) l = Heap.get H l := by
  simp only [Heap.get]
  rcases Nat.lt_or_ge l H.length with h1 | h1
  · rw [List.getElem?_append_left h1]
  · rw [List.getElem?_eq_none (by simp; omega), List.getElem?_eq_none h1]
/-- Listing an object that the context doesn't know changes nothing. -/
theorem HRel.list {C : Ctx} {H : Heap} (hH : HRel C H) (o : Option AObj) : HRel C (H ++ [o]) := by
  have hne : ∀ l, C.dom l → l ≠ H.length := fun l h e => by have := hH.dom l h; omega
  refine ⟨?_, ?_, ?_, hH.lt, ?_, by have := hH.hi; simp; omega⟩
  · intro l o' hg hd; rw [Heap.get_push_ne (hne l hd)] at hg; exact hH.obj l o' hg hd
  · intro l o' b hg hd; rw [Heap.get_push_ne (hne l hd)] at hg; exact hH.own l o' b hg hd
  · intro l l' o' o'' b hg hg' hd hd'
    rw [Heap.get_push_ne (hne l hd)] at hg
    rw [Heap.get_push_ne (hne l' hd')] at hg'
    exact hH.inj l l' o' o'' b hg hg' hd hd'
  · intro l hd; have := hH.dom l hd; simp; omega
def putE (d : Option Nat) (v : AV) (e : Env) : Env :=
  match d with
  | some t => (t, v) :: e
  | none => e
theorem SRel.put {C C' : Ctx} {e : Env} {H H' : Heap} {a : Act} {w' : World} {d : Option Nat} {v : AV} {x : Value} (hS : SRel C e H a w) (hE : Ext C C') (hH : HRel C' H') (hw : C'.w = w') (hv : Rel C' v x)
    (hd : ∀ t, d = some t → t < a.tmps.size) : SRel C' (putE d v e) H' (a.put d x) w' := by
  refine ⟨hw, hH, ?_, ?_⟩
  · intro t
    cases d with
    | none => exact Rel.mono hE _ _ (hS.env t)
    | some d =>
      simp only [putE, Env.get, Act.put]
      split
      · rename_i e; subst e
        have := hd d rfl
        simpa [Array.getD_eq_getD_getElem?, this] using hv
      · rename_i e
        have h1 := Rel.mono hE _ _ (hS.env t)
        have : (a.tmps.setIfInBounds d x).getD t undef = a.tmps.getD t undef := by
          simp [Array.getD_eq_getD_getElem?, Array.getElem?_setIfInBounds_ne e]
        rw [this]; exact h1
  · cases d <;> exact hS.defers

/-! ### operations that make memory -/
def elemAll (xs : List AV) : Prop := True
/-- the elements' width -/
def AV.width : AV → Option Nat
  | .any | .tuple _ => none
  | .agg cs => some cs.length
  | _ => some 1
mutual
/-- no reference to a mutable object -/
def AV.pureB : AV → Bool
  | .ptr _ _ | .mslice _ _ _ _ | .meptr _ _ _ _ _ | .map _ => false
  | .func _ first cap => pureAll first && pureAll cap
  | .iface _ v => v.pureB
  | .agg cs => pureAll cs
  | .tuple cs => pureAll cs
  | _ => true
def pureAll : List AV → Bool
  | [] => true
  | v :: vs => v.pureB && pureAll vs
end
mutual
theorem Rel.to_pure {C : Ctx} : ∀ (v : AV) (x : Value), v.pureB = true → Rel C v x → Rel C.pure v x
  | .any, _, _, _ => trivial
  | .bool _, _, _, h => h
  | .int _ _, _, _, h => h
  | .str _, _, _, h => h
  | .nilp, _, _, h => h
  | .cptr _ _, _, _, h => h
  | .nilslice, _, _, h => h
  | .zcap, _, _, h => h
  | .slice _ _, _, _, h => h
  | .nilmap, _, _, h => h
  | .cmap _ _, _, _, h => h
  | .nilfunc, _, _, h => h
  | .niliface, _, _, h => h
  | .func fn first cap, x, hp, h => by
    simp only [AV.pureB, Bool.and_eq_true] at hp
    obtain ⟨f, c, rfl, h1, h2⟩ := h
    exact ⟨f, c, rfl, RelAll.to_pure first _ hp.1 h1, RelAll.to_pure cap _ hp.2 h2⟩
  | .iface t v, x, hp, h => by
    obtain ⟨y, rfl, h1⟩ := h
    exact ⟨y, rfl, Rel.to_pure v y hp h1⟩
  | .agg cs, x, hp, h => by
    obtain ⟨vs, rfl, h1⟩ := h
    exact ⟨vs, rfl, RelAll.to_pure cs _ hp h1⟩
  | .tuple cs, x, hp, h => by
    obtain ⟨vs, rfl, h1⟩ := h
    exact ⟨vs, rfl, RelAll.to_pure cs _ hp h1⟩
  | .ptr _ _, _, hp, _ => by cases hp
  | .mslice _ _ _ _, _, hp, _ => by cases hp
  | .meptr _ _ _ _ _, _, hp, _ => by cases hp
  | .map _, _, hp, _ => by cases hp
theorem RelAll.to_pure {C : Ctx} : ∀ (vs : List AV) (xs : List Value), pureAll vs = true → RelAll C vs xs → RelAll C.pure vs xs
  | [], _, _, h => h
  | v :: vs, _, hp, h => by
    simp only [pureAll, Bool.and_eq_true] at hp
    obtain ⟨y, r, rfl, h1, h2⟩ := h
    exact ⟨y, r, rfl, Rel.to_pure v y hp.1 h1, RelAll.to_pure vs r hp.2 h2⟩
end
end
end Go.Sim

namespace Go.Sim
section
variable {P : Program} {w : World}
theorem setC_mid {α : Type} : ∀ (v pre mid post : List α), mid.length = v.length → setC (pre ++ mid ++ post) pre.length v = pre ++ v ++ post
  | [], pre, mid, post, h => by
    have : mid = [] := List.eq_nil_of_length_eq_zero h
    subst this; simp [setC]
  | x :: v, pre, [], post, h => by simp at h
  | x :: v, pre, y :: mid, post, h => by
    have e : (pre ++ y :: mid ++ post).set pre.length x = (pre ++ [x]) ++ mid ++ post := by simp
    have := setC_mid v (pre ++ [x]) mid post (by simpa using h)
    rw [setC, e]
    simpa using this
theorem fill_row (size : Nat) : ∀ (parts : List (Nat × Value)) (k : Nat) (pre rest : List Value), pre.length = k * size → rest.length = parts.length * size → parts.map (·.1) = List.range' k parts.length →
    (∀ p ∈ parts, p.2.cells.size = size) → ∃ cells', Instr.fill (fun i => some (i * size, size)) (pre ++ rest).toArray parts = some cells' ∧ cells'.toList = pre ++ (parts.map (fun p => p.2.cells.toList)).flatten
  | [], k, pre, rest, h1, h2, h3, h4 => by
    have : rest = [] := List.eq_nil_of_length_eq_zero (by simpa using h2)
    subst this
    exact ⟨_, rfl, by simp⟩
  | (i, v) :: parts, k, pre, rest, h1, h2, h3, h4 => by
    simp only [List.map_cons, List.length_cons, List.range'_succ, List.cons.injEq] at h3
    obtain ⟨rfl, h3⟩ := h3
    have hv : v.cells.size = size := h4 (i, v) (by simp)
    have hr : rest.length = parts.length * size + size := by rw [h2]; simp [Nat.add_mul]
    obtain ⟨mid, post, rfl, hmid⟩ : ∃ mid post, rest = mid ++ post ∧ mid.length = size := ⟨rest.take size, rest.drop size, by simp, by rw [List.length_take]; omega⟩
    have hset := foldl_zipIdx_set (i * size) v.cells.toList 0 (pre ++ (mid ++ post)).toArray
    simp only [Nat.add_zero] at hset
    rw [← h1] at hset
    have hm := setC_mid v.cells.toList pre mid post (by simp [hmid, hv])
    rw [List.append_assoc] at hm
    have hset' : (v.cells.zipIdx.foldl (fun (cs : Array Value) p => cs.setIfInBounds (i * size + p.2) p.1) (pre ++ (mid ++ post)).toArray) = ((pre ++ v.cells.toList) ++ post).toArray := by
      rw [← Array.foldl_toList, Array.toList_zipIdx]
      apply Array.toList_inj.1
      rw [h1] at hset
      rw [hset, ← h1]
      simpa using hm
    obtain ⟨cells', h5, h6⟩ := fill_row size parts (i + 1) (pre ++ v.cells.toList) post (by simp [h1, hv, Nat.add_mul]) (by simp at hr; omega) h3 (fun p hp => h4 p (by simp [hp]))
    refine ⟨cells', ?_, ?_⟩
    · simp only [Instr.fill]
      rw [if_neg (by simp [hv]; rw [h1]; omega)]
      rw [show (v.cells.zipIdx.foldl (fun (cs : Array Value) (x : Value × Nat) => match x with | (c, j) => cs.setIfInBounds (i * size + j) c) (pre ++ (mid ++ post)).toArray) = _ from hset']
      exact h5
    · rw [h6]; simp
end
end Go.Sim

namespace Go.Sim
section
variable {P : Program} {w : World}
def AV.cellsOne : AV → Bool
  | .agg cs => cs.all AV.one
  | v => v.one
/-- the elements of a literal: each of the width, none a reference -/
def partsOk (sz : Nat) : List AV → Prop
  | [] => True
  | x :: xs => x.width = some sz ∧ x.cellsOne = true ∧ x.pureB = true ∧ partsOk sz xs
def evA (P : Program) (ρ : Operand → AV) (o : Op) (loc : Nat) (k : AV → AObj → Prop) : Prop :=
  match o with
  | .alloc t => match allocInfo P t with
    | some zs => match arrN P t with
      | none => k (.ptr loc 0) (.box t zs)
      | some n => zs.length = n ∧ zs.all AV.one = true ∧ pureAll zs = true ∧ k (.meptr 1 loc n 0 0) (.row t 1 zs)
    | none => False
  | .box t x => elemCells (ρ x) fun cs => k (.ptr loc 0) (.box t cs)
  | .buildSlice t n parts => match elemSz P t with
    | some sz => n * sz ≤ 16777216 ∧ n = parts.size ∧ (n * sz = 0 ∨ sliceZero P t = true) ∧ parts.toList.map (·.1) = List.range' 0 parts.size ∧ partsOk sz (parts.toList.map fun p => ρ p.2) ∧
        k (.mslice sz loc 0 parts.size) (.row (elemTy P t) sz (parts.toList.map fun p => ρ p.2))
    | none => False
  | .makeMap t r => match mapKey P t, r.map ρ with
    | some _, none => k (.map loc) (.map [] [])
    | some _, some (.int _ _) => k (.map loc) (.map [] [])
    | _, _ => False
  | _ => False
where sliceZero (P : Program) (t : TypeId) : Bool := match P.underlying t with
  | some (.slice e) => match P.info? e with
    | some i => match i.zero with
      | some z => z.cells.size == i.size
      | none => false
    | none => false
  | _ => false
def Op.makes : Op → Bool
  | .alloc _ | .box _ _ | .buildSlice _ _ _ | .makeMap _ _ => true
  | _ => false
theorem width_cells {C : Ctx} {v : AV} {x : Value} {n : Nat} (h : Rel C v x) (hw : v.width = some n) : x.cells.size = n := by
  cases v <;> simp only [AV.width, Option.some.injEq] at hw <;> first | (cases hw; done) | skip
  case agg cs =>
    obtain ⟨vs, rfl, h2⟩ := h
    rw [← hw, ← relAll_length h2]; simp [Value.cells]
  all_goals rw [one_cells (h.one rfl), ← hw]; rfl
theorem one_all {C : Ctx} : ∀ {vs : List AV} {xs : List Value}, vs.all AV.one = true → RelAll C vs xs → ∀ x ∈ xs, x.one = true
  | [], _, _, h => by cases h; simp
  | v :: vs, _, h1, h => by
    obtain ⟨y, r, rfl, h2, h3⟩ := h
    simp only [List.all_cons, Bool.and_eq_true] at h1
    intro x hx
    rcases List.mem_cons.1 hx with rfl | hx
    · exact h2.one h1.1
    · exact one_all h1.2 h3 x hx
theorem cellsOne_cells {C : Ctx} {v : AV} {x : Value} (h : Rel C v x) (h1 : v.cellsOne = true) : ∀ c ∈ x.cells.toList, c.one = true := by
  cases v <;> first | (simp [AV.cellsOne, AV.one] at h1; done) | skip
  case agg cs => obtain ⟨vs, rfl, h2⟩ := h; exact one_all h1 h2
  all_goals
    have h2 := h.one rfl
    rw [one_cells h2]
    simpa using h2
theorem rowAt_flatten {w : World} {sz b : Nat} : ∀ (vs : List Value) (o : Nat), (∀ v ∈ vs, v.cells.size = sz ∧ ∀ c ∈ v.cells.toList, c.one = true) → CellsAt w b o (vs.map (·.cells.toList)).flatten → RowAt w sz b o vs
  | [], o, h, hc => fun j v hj => by simp at hj
  | u :: vs, o, h, hc => by
    have hu : u.cells.size = sz := (h u (by simp)).1
    have ih := rowAt_flatten vs (o + sz) (fun v hv => h v (by simp [hv])) (fun j v hj => by
      have := hc (sz + j) v (by
        simp only [List.map_cons, List.flatten_cons]
        rw [List.getElem?_append_right (by simp [hu])]
        simpa [hu] using hj)
      rwa [← Nat.add_assoc] at this)
    intro j v hj
    cases j with
    | zero =>
      simp only [List.getElem?_cons_zero, Option.some.injEq] at hj
      subst hj
      refine ⟨hu, (h u (by simp)).2, fun i x hi => ?_⟩
      have := hc i x (by
        simp only [List.map_cons, List.flatten_cons]
        rw [List.getElem?_append_left]
        · exact hi
        · exact (List.getElem?_eq_some_iff.1 hi).1)
      simpa using this
    | succ j =>
      simp only [List.getElem?_cons_succ] at hj
      obtain ⟨h1, h1', h2⟩ := ih j v hj
      refine ⟨h1, h1', fun i x hi => ?_⟩
      have := h2 i x hi
      rw [show o + (j + 1) * sz = o + sz + j * sz from by rw [Nat.add_mul]; omega]
      exact this
theorem cellsAt_new {w w' : World} {c : Array Value} {e : TypeId} {fz : Nat × Nat} (h : w'.heap = w.heap.push (.cells c e fz)) : CellsAt w' w.heap.size 0 c.toList := by
  intro j v hj
  simp only [World.cell?, h, Nat.zero_add]
  simp only [Array.getElem?_push_size]
  simpa using hj
theorem partsOk_all {C : Ctx} {sz : Nat} : ∀ {xs : List AV} {vs : List Value}, partsOk sz xs → RelAll C xs vs → RelAll C.pure xs vs ∧ ∀ v ∈ vs, v.cells.size = sz ∧ ∀ c ∈ v.cells.toList, c.one = true
  | [], _, _, h => by cases h; exact ⟨rfl, by simp⟩
  | x :: xs, _, hp, h => by
    obtain ⟨y, r, rfl, h1, h2⟩ := h
    obtain ⟨p1, p0, p2, p3⟩ := hp
    obtain ⟨k1, k2⟩ := partsOk_all p3 h2
    refine ⟨⟨y, r, rfl, h1.to_pure _ _ p2, k1⟩, ?_⟩
    intro v hv
    rcases List.mem_cons.1 hv with rfl | hv
    · exact ⟨width_cells h1 p1, cellsOne_cells h1 p0⟩
    · exact k2 v hv
/-- What an operation that makes memory comes to: a new block, that is the object at l. -/
theorem new_heap (C : Ctx) (l n : Nat) (ob : Obj) : (C.new l n (C.w.alloc ob)).w.heap[(C.new l n (C.w.alloc ob)).β l]? = some ob := by
  show (C.w.heap.push ob)[if l = l then C.w.heap.size else C.β l]? = some ob
  rw [if_pos rfl]; exact Array.getElem?_push_size
theorem new_heap' (C : Ctx) (l n : Nat) (ob : Obj) : (C.new l n (C.w.alloc ob)).w.heap[C.w.heap.size]? = some ob := Array.getElem?_push_size
theorem new_β (C : Ctx) (l n : Nat) (w' : World) : (C.new l n w').β l = C.w.heap.size := if_pos rfl
theorem new_σ (C : Ctx) (l n : Nat) (w' : World) : (C.new l n w').σ l = some C.w.heap.size := if_pos rfl
theorem new_len (C : Ctx) (l n : Nat) (w' : World) : (C.new l n w').len l = n := if_pos rfl
/-- a slice literal has no room behind it -/
def litX (o : Op) (x : Value) : Prop := match o with
  | .buildSlice _ n _ => ∃ a, x = .slice a n n
  | _ => True
theorem evA_sound' {C : Ctx} {e : Env} {H : Heap} {a : Act} {o : Oper} {l : Nat} {k : AV → AObj → Prop} (hS : SRel C e H a w) (h : evA P (ope e) o.op l k) :
    ∃ v obj x ob n, k v obj ∧ (execOp a.eval o).run P w = .ok (.value x) (w.alloc ob) ∧ litX o.op x ∧
      ∀ C', C' = C.new l n (w.alloc ob) → Ext C C' → Rel C' v x ∧ ORel C' l obj ∧ blockOf C' l obj = some w.heap.size := by
  have hW := hS.world
  subst hW
  unfold evA at h
  split at h <;> first | exact h.elim | skip
  · rename_i t ho
    split at h <;> first | exact h.elim | skip
    rename_i zs hz
    unfold allocInfo at hz
    cases hi : P.info? t with
    | none => simp [hi] at hz
    | some i =>
      cases hzz : i.zero with
      | none => simp [hi, hzz] at hz
      | some z =>
        simp only [hi, hzz, Option.bind_some, Option.map_some, Option.some.injEq] at hz
        subst hz
        have hrun : (execOp a.eval o).run P C.w = .ok (.value (.pointer (some ⟨C.w.heap.size, 0, none⟩))) (C.w.alloc (.cells z.cells t (0, 0))) := by
          simp [execOp, ho, Instr.alloc, zeroValue, run_typeInfo' hi, hzz, newVar, newRow]
        split at h
        rotate_left
        · obtain ⟨hln, h1, hpu, h⟩ := h
          have hzr := zeroCells_rel C z
          have hzl := relAll_length hzr
          rw [Array.length_toList] at hzl
          refine ⟨_, _, _, .cells z.cells t (0, 0), (zeroCells' z).length, h, hrun, by rw [ho]; trivial, ?_⟩
          rintro C' rfl hE
          have hh := new_heap' C l (zeroCells' z).length (.cells z.cells t (0, 0))
          have hones := one_all h1 hzr
          have hvs : ∀ v ∈ z.cells.toList, v.cells.size = 1 ∧ ∀ c ∈ v.cells.toList, c.one = true := by
            intro v hv
            have := one_cells (hones v hv)
            rw [this]; simp [hones v hv]
          refine ⟨⟨.inr rfl, by rw [new_len]; omega, C.w.heap.size, 0, rfl, fun _ => ⟨by rw [new_σ], rfl⟩⟩, ⟨by rw [new_len], .inr ⟨C.w.heap.size, z.cells, (0, 0), z.cells.toList, new_σ .., hh, zeroCells_rel _ z, ?_, by omega, ?_⟩⟩, by simp only [blockOf, new_σ]⟩
          · refine rowAt_flatten _ 0 hvs ?_
            have hfl : ∀ l : List Value, (∀ v ∈ l, v.one = true) → (l.map (·.cells.toList)).flatten = l := by
              intro l
              induction l with
              | nil => intro _; rfl
              | cons v l ih =>
                intro hl
                simp only [List.map_cons, List.flatten_cons, ih fun x hx => hl x (by simp [hx]), one_cells (hl v (by simp))]
                rfl
            rw [hfl _ hones]
            exact cellsAt_new (w := C.w) (w' := C.w.alloc (.cells z.cells t (0, 0))) rfl
          · intro o' _
            simp only [World.frozen?, hh]
            simp
        refine ⟨_, _, .pointer (some ⟨C.w.heap.size, 0, none⟩), .cells z.cells t (0, 0), 0, h, hrun, by rw [ho]; trivial, ?_⟩
        · rintro C' rfl hE
          exact ⟨⟨.inr rfl, by rw [new_β]⟩, ⟨z.cells, new_heap C l 0 _, zeroCells_rel _ z⟩, by simp only [blockOf, new_β]⟩
  · rename_i t x ho
    obtain ⟨cs, hk, hcs⟩ := elemCells_rel (rel_ope hS x) h
    refine ⟨_, _, .pointer (some ⟨C.w.heap.size, 0, none⟩), .cells (a.eval x).cells t (0, 0), 0, hk, ?_, by rw [ho]; trivial, ?_⟩
    · simp [execOp, ho, Instr.box, newVar, newRow]
    · rintro C' rfl hE
      exact ⟨⟨.inr rfl, by rw [new_β]⟩, ⟨(a.eval x).cells, new_heap C l 0 _, RelAll.mono hE _ _ hcs⟩, by simp only [blockOf, new_β]⟩
  · rename_i t n parts ho
    split at h <;> first | exact h.elim | skip
    rename_i sz hes
    obtain ⟨hsz, rfl, hz, hix, hp, h⟩ := h
    obtain ⟨et, i, hu, hi, rfl⟩ := elemSz_some hes
    have hrel : RelAll C (parts.toList.map fun p => ope e p.2) (parts.toList.map fun p => a.eval p.2) := by
      have := relAll_ope hS (parts.toList.map (·.2))
      simpa [List.map_map, Function.comp_def] using this
    obtain ⟨hpr, hpw⟩ := partsOk_all hp hrel
    let zs : Array Value := if parts.size * i.size = 0 then #[] else (i.zero.getD undef).cells
    obtain ⟨cells, hf, hcl⟩ := fill_row i.size (parts.toList.map fun p => (p.1, a.eval p.2)) 0 [] ((Array.range (parts.size * i.size)).map (zs[· % zs.size]!)).toList (by simp) (by simp) (by simpa [List.map_map, Function.comp_def] using hix)
      (fun p hp' => by
        simp only [List.mem_map] at hp'
        obtain ⟨q, hq, rfl⟩ := hp'
        exact (hpw _ (List.mem_map.2 ⟨q, hq, rfl⟩)).1)
    simp only [List.nil_append, Array.toArray_toList] at hf hcl
    refine ⟨_, _, .slice (some ⟨C.w.heap.size, 0, none⟩) parts.size parts.size, .cells cells et (0, 0), parts.size, h, ?_, by rw [ho]; exact ⟨_, rfl⟩, ?_⟩
    · have hf' : Instr.fill (fun j => some (j * i.size, i.size)) ((Array.range (parts.size * i.size)).map (zs[· % zs.size]!)) ((parts.map fun p => (p.1, a.eval p.2)).toList) = some cells := by
        simpa using hf
      have h16 : ¬ (2 ^ 24 < parts.size * i.size) := by omega
      have hb : (Instr.buildSlice t parts.size (parts.map fun p => (p.1, a.eval p.2))).run P C.w = .ok (.slice (some ⟨C.w.heap.size, 0, none⟩) parts.size parts.size) (C.w.alloc (.cells cells et (0, 0))) := by
        by_cases h0 : parts.size * i.size = 0
        · have hz0 : zs = #[] := by simp [zs, h0]
          rw [hz0] at hf'
          simp only [Instr.buildSlice, Sem.run_bind, run_underlying hu, Result.andThen_ok, sizeOf, run_typeInfo' hi, Sem.run_pure, gt_iff_lt, if_neg h16, if_pos h0, hf']
          simp [newRow]
        · rcases hz with hz | hz
          · exact absurd hz h0
          · unfold evA.sliceZero at hz
            simp only [hu, hi] at hz
            cases hzz : i.zero with
            | none => simp [hzz] at hz
            | some z =>
              have hz0 : zs = z.cells := by simp [zs, h0, hzz]
              rw [hz0] at hf'
              simp only [Instr.buildSlice, Sem.run_bind, run_underlying hu, Result.andThen_ok, sizeOf, run_typeInfo' hi, Sem.run_pure, gt_iff_lt, if_neg h16, if_neg h0, zeroValue, hzz, hf']
              simp [newRow]
      have hmap : (Array.map (fun x => (x.1, a.eval x.2)) parts) = parts.map fun p => (p.1, a.eval p.2) := rfl
      simp only [execOp, ho, Sem.run_bind, hb, Result.andThen_ok]
      rfl
    · rintro C' rfl hE
      have hh := new_heap' C l parts.size (.cells cells et (0, 0))
      have hsh : (C.new l parts.size (C.w.alloc (.cells cells et (0, 0)))).w.shape? C.w.heap.size = some (et, cells.size) := by
        simp only [World.shape?, hh]
      have hsize : cells.size = parts.size * i.size := by
        rw [← Array.length_toList, hcl]
        have : ∀ (l : List (Nat × Operand)), (∀ q ∈ l, (a.eval q.2).cells.size = i.size) → ((l.map fun p => (p.1, a.eval p.2)).map fun p => p.2.cells.toList).flatten.length = l.length * i.size := by
          intro l
          induction l with
          | nil => intro _; simp
          | cons q l ih =>
            intro hq
            have h1 := hq q (by simp)
            have h2 := ih fun q' hq' => hq q' (by simp [hq'])
            simp only [List.map_cons, List.flatten_cons, List.length_append, h2, Array.length_toList, h1, List.length_cons]
            rw [Nat.add_mul]; omega
        have := this parts.toList fun q hq => (hpw _ (List.mem_map.2 ⟨q, hq, rfl⟩)).1
        simpa using this
      refine ⟨⟨.inr rfl, by rw [new_len]; omega, _, _, rfl, Nat.le_refl _, fun _ => .inr ⟨C.w.heap.size, et, cells.size, new_σ .., by simp, hsh, ?_⟩⟩, ⟨by rw [new_len]; simp, .inr ⟨C.w.heap.size, cells, (0, 0), parts.toList.map fun p => a.eval p.2, new_σ .., (by rw [elemTy_of hu]; exact hh), RelAll.mono hE.pure _ _ hpr, ?_, ?_, ?_⟩⟩, by simp only [blockOf, new_σ]⟩
      · rw [hsize]; simp
      · refine rowAt_flatten _ 0 hpw ?_
        have := cellsAt_new (w := C.w) (w' := C.w.alloc (.cells cells et (0, 0))) rfl
        rw [hcl] at this
        simpa [List.map_map, Function.comp_def, Ctx.new] using this
      · rw [hsize]; simp
      · intro o' _
        simp only [World.frozen?, hh]
        simp
  · rename_i t r ho
    have hmk : ∀ rv : Option Value, (rv = none ∨ ∃ kd n, rv = some (.int kd n)) → (∃ kk, mapKey P t = some kk) → (Instr.makeMap t rv).run P C.w = .ok (.map (some C.w.heap.size)) (C.w.alloc (.map #[] 0)) := by
      rintro rv hr ⟨kk, hkk⟩
      have hu : ∃ key elem, P.underlying t = some (.map key elem) := by
        unfold mapKey at hkk
        split at hkk <;> first | (cases hkk; done) | exact ⟨_, _, by assumption⟩
      obtain ⟨key, elem, hu⟩ := hu
      rcases hr with rfl | ⟨kd, n, rfl⟩
      · simp [Instr.makeMap]
      · simp [Instr.makeMap, run_underlying hu, asInt, asIntOf]
    have fin : k (.map l) (.map [] []) → (a.eval <$> r = none ∨ ∃ kd n, a.eval <$> r = some (.int kd n)) → (∃ kk, mapKey P t = some kk) → ∃ v obj x ob n, k v obj ∧ (execOp a.eval o).run P C.w = .ok (.value x) (C.w.alloc ob) ∧ litX o.op x ∧
      ∀ C', C' = C.new l n (C.w.alloc ob) → Ext C C' → Rel C' v x ∧ ORel C' l obj ∧ blockOf C' l obj = some C.w.heap.size := by
      intro hk hr hkk
      refine ⟨_, _, .map (some C.w.heap.size), .map #[] 0, 0, hk, ?_, by rw [ho]; trivial, ?_⟩
      · have := hmk (r.map a.eval) hr hkk
        simp [execOp, ho, this]
      · rintro C' rfl hE
        exact ⟨⟨.inr rfl, by rw [new_β]⟩, ⟨#[], 0, new_heap C l 0 _, rfl, rfl⟩, by simp only [blockOf, new_β]⟩
    split at h <;> first | exact h.elim | skip
    · rename_i kk hkk hr
      refine fin h (.inl ?_) ⟨_, hkk⟩
      cases r with
      | none => rfl
      | some r => cases hr
    · rename_i kk kd n hkk hr
      refine fin h (.inr ?_) ⟨_, hkk⟩
      cases r with
      | none => cases hr
      | some r =>
        simp only [Option.map_some, Option.some.injEq] at hr
        have h1 := rel_ope hS r
        rw [hr] at h1
        simp only [Rel] at h1
        exact ⟨kd, n, by show some (a.eval r) = _; rw [h1]⟩
theorem evA_sound {C : Ctx} {e : Env} {H : Heap} {a : Act} {o : Oper} {l : Nat} {k : AV → AObj → Prop} (hS : SRel C e H a w) (h : evA P (ope e) o.op l k) :
    ∃ v obj x ob n, k v obj ∧ (execOp a.eval o).run P w = .ok (.value x) (w.alloc ob) ∧
      ∀ C', C' = C.new l n (w.alloc ob) → Ext C C' → Rel C' v x ∧ ORel C' l obj ∧ blockOf C' l obj = some w.heap.size := by
  obtain ⟨v, obj, x, ob, n, h1, h2, _, h3⟩ := evA_sound' hS h
  exact ⟨v, obj, x, ob, n, h1, h2, h3⟩
end
end Go.Sim

namespace Go.Sim
section
variable {P : Program} {w : World}
/-! ### stores -/
def reElem (old : AV) (cs : List AV) : AV :=
  match old, cs with
  | .agg _, cs => .agg cs
  | _, [c] => c
  | _, _ => .any
def tSize (P : Program) (t : TypeId) : Option Nat := (P.info? t).map (·.size)
def evStore (P : Program) (H : Heap) (t : TypeId) (p x : AV) (k : Heap → Prop) : Prop :=
  match p with
  | .ptr l off => match H.get l with
    | some (.box tg cs) => elemCells x fun vs => tSize P t = some vs.length ∧ vs.all AV.one = true ∧ off + vs.length ≤ cs.length ∧ k (H.set l (some (.box tg (setC cs off vs))))
    | _ => False
  | .meptr sz l ver i off => match H.get l with
    | some (.row tg sz' xs) => sz' = sz ∧ ver = xs.length ∧ i < xs.length ∧ elemCells x fun vs => tSize P t = some vs.length ∧ vs.all AV.one = true ∧ pureAll vs = true ∧
        elemCells (xs.getD i .any) fun cs => off + vs.length ≤ cs.length ∧ k (H.set l (some (.row tg sz (xs.set i (reElem (xs.getD i .any) (setC cs off vs))))))
    | _ => False
  | _ => False
theorem run_storeAt {t : TypeId} {b o : Nat} {x : Value} {cs : Array Value} {e : TypeId} {fz : Nat × Nat} (ht : tSize P t = some x.cells.size) (h : w.heap[b]? = some (.cells cs e fz))
    (hf : ∀ j, j < cs.size → w.frozen? ⟨b, j, none⟩ = false) (hl : o + x.cells.size ≤ cs.size) (h1 : ∀ v ∈ x.cells.toList, v.one = true) :
    (Instr.storeAt t (.pointer (some ⟨b, o, none⟩)) x).run P w = .ok () (w.setCells b o x.cells.toList) := by
  unfold tSize at ht
  cases hi : P.info? t with
  | none => simp [hi] at ht
  | some i =>
    simp only [hi, Option.map_some, Option.some.injEq] at ht
    have hs := run_storeCells (P := P) h hf (vs := x.cells.toList) (o := o) (by simpa using hl) h1
    simp [Instr.storeAt, Instr.sureAddr, storeVar, sizeOf, run_typeInfo' hi, ht, hs]
/-- A store into an object's own block. -/
theorem ext_world {C : Ctx} {w' : World} {b : Nat} (hown : C.own b) (hsize : w'.heap.size = C.w.heap.size) (hne : ∀ b', b' ≠ b → w'.heap[b']? = C.w.heap[b']?) (hsh : w'.shape? b = C.w.shape? b) (hs : SameIO C.w w') : Ext C { C with w := w' } where
  same := hs
  hi := Nat.le_refl _
  fresh _ h := .inl h
  dom _ h := h
  β _ _ := rfl
  len _ _ := Nat.le_refl _
  σ _ _ _ := rfl
  im _ h := h
  old b' hb h := hne _ fun e => h (e ▸ hown)
  imOld _ _ h := .inl h
  ownOld _ _ h := h
  size := by show C.w.heap.size ≤ w'.heap.size; omega
  shape b' s h := by
    show w'.shape? b' = _
    by_cases e : b' = b
    · rw [e, hsh, ← e]; exact h
    · simp only [World.shape?] at h ⊢; rw [hne b' e]; exact h
theorem shape_setCells {w : World} {b o : Nat} {vs : List Value} {cs : Array Value} {e : TypeId} {fz : Nat × Nat} (h : w.heap[b]? = some (.cells cs e fz)) : (w.setCells b o vs).shape? b = w.shape? b := by
  obtain ⟨cs', h1, h2⟩ := heap_setCells_at vs o h
  have : cs'.size = cs.size := by rw [← Array.length_toList, h2, length_setC, Array.length_toList]
  simp only [World.shape?, h1, h, this]
theorem HRel.store {C : Ctx} {H : Heap} {l : Nat} {obj obj' : AObj} {b o : Nat} {vs : List Value} {cs : Array Value} {e : TypeId} {fz : Nat × Nat} (hH : HRel C H) (hg : H.get l = some obj) (hd : C.dom l) (hb : blockOf C l obj = some b) (hb' : blockOf C l obj' = some b)
    (hh : C.w.heap[b]? = some (.cells cs e fz)) (hobj : Ext C { C with w := C.w.setCells b o vs } → ORel { C with w := C.w.setCells b o vs } l obj') :
    Ext C { C with w := C.w.setCells b o vs } ∧ HRel { C with w := C.w.setCells b o vs } (H.set l (some obj')) := by
  have hown := hH.own l obj b hg hd hb
  have hE : Ext C { C with w := C.w.setCells b o vs } := ext_world hown (size_setCells ..) (fun b' h => heap_setCells_ne vs o h) (shape_setCells hh) (same_setCells ..)
  refine ⟨hE, hH.put (b' := b) hE (Heap.get_lt hg) (fun m => ⟨.inl, fun h => h.elim id (fun e => e ▸ hd)⟩) (fun _ _ => rfl) (fun _ _ => rfl) (fun _ _ => rfl) (fun b1 _ hne => heap_setCells_ne vs o hne) ?_ (fun b1 => ⟨.inl, fun h => h.elim id (fun e => e ▸ hown)⟩) ?_ (hobj hE) ?_⟩
  · intro m o' hm hgm hdm hbm
    exact hm (hH.inj m l o' obj b hgm hg hdm hd hbm hb)
  · intro b1 h1
    show b1 < (C.w.setCells b o vs).heap.size
    rw [size_setCells]; exact hH.lt b1 h1
  · cases obj' <;> exact hb'
/-- the element behind a store into some of its cells -/
theorem reElem_rel {C : Ctx} {v : AV} {y : Value} {cs vs : List AV} {ys : List Value} {off : Nat} (h : Rel C v y) (hcs : v = .agg cs ∨ (v.one = true ∧ (∀ c, v ≠ .agg c) ∧ cs = [v])) (hr : RelAll C vs ys) (h1 : ∀ x ∈ ys, x.one = true) (hfit : off + vs.length ≤ cs.length) :
    ∃ ny, Rel C (reElem v (setC cs off vs)) ny ∧ ny.cells.toList = setC y.cells.toList off ys := by
  rcases hcs with rfl | ⟨hne, hna, rfl⟩
  · obtain ⟨ws, rfl, hw⟩ := h
    exact ⟨.agg (setC ws.toList off ys).toArray, ⟨_, rfl, by simpa using relAll_setC off hr hw⟩, by simp [Value.cells]⟩
  · have hy := one_cells (h.one hne)
    cases vs with
    | nil =>
      cases hr
      refine ⟨y, ?_, by simp [setC, hy]⟩
      have : reElem v (setC [v] off []) = v := by simp only [setC]; unfold reElem; split <;> simp_all
      rw [this]; exact h
    | cons u vs =>
      obtain ⟨x, r, rfl, k1, k2⟩ := hr
      simp at hfit
      have : vs = [] := List.eq_nil_of_length_eq_zero (by omega)
      subst this
      cases k2
      have : off = 0 := by omega
      subst this
      refine ⟨x, ?_, ?_⟩
      · have : reElem v (setC [v] 0 [u]) = u := by simp only [setC, List.set_cons_zero]; unfold reElem; split <;> simp_all
        rw [this]; exact k1
      · have := one_cells (h1 x (by simp))
        simp [setC, hy, this]
theorem setC_all {α : Type} {p : α → Prop} {cs vs : List α} {o : Nat} (h : ∀ x ∈ cs, p x) (h' : ∀ x ∈ vs, p x) (hl : o + vs.length ≤ cs.length) : ∀ x ∈ setC cs o vs, p x := by
  intro x hx
  obtain ⟨i, hi⟩ := List.getElem?_of_mem hx
  rw [get_setC _ _ _ _ hl] at hi
  split at hi
  · exact h' x (List.mem_of_getElem? hi)
  · exact h x (List.mem_of_getElem? hi)
theorem elemCells_cases {v : AV} {k : List AV → Prop} (h : elemCells v k) : ∃ cs, k cs ∧ (v = .agg cs ∨ (v.one = true ∧ (∀ c, v ≠ .agg c) ∧ cs = [v])) := by
  cases v <;> first | exact h.elim | exact ⟨_, h, .inl rfl⟩ | exact ⟨_, h, .inr ⟨rfl, by simp, rfl⟩⟩
theorem evStore_sound {C : Ctx} {H : Heap} {t : TypeId} {p x : AV} {pv xv : Value} {k : Heap → Prop} (hH : HRel C H) (hp : Rel C p pv) (hx : Rel C x xv) (h : evStore P H t p x k) :
    ∃ H' w', k H' ∧ (Instr.storeAt t pv xv).run P C.w = .ok () w' ∧ Ext C { C with w := w' } ∧ HRel { C with w := w' } H' := by
  cases p <;> first | exact h.elim | skip
  case ptr l off =>
    simp only [evStore] at h
    split at h <;> first | exact h.elim | skip
    rename_i tg cs hg
    obtain ⟨hd, rfl⟩ := hp
    obtain ⟨vs, ⟨h1, h2, h3, hk⟩, hr⟩ := elemCells_rel hx h
    obtain ⟨ws, hh, hrw⟩ := hH.obj l _ hg hd
    have hlv := relAll_length hr
    have hlw := relAll_length hrw
    rw [Array.length_toList] at hlv hlw
    obtain ⟨cs', hc1, hc2⟩ := heap_setCells_at xv.cells.toList off hh
    have hst := hH.store (o := off) (vs := xv.cells.toList) (obj' := .box tg (setC cs off vs)) hg hd rfl rfl hh (fun hE => ⟨cs', hc1, by
      rw [hc2]
      exact relAll_setC off (RelAll.mono hE _ _ hr) (RelAll.mono hE _ _ hrw)⟩)
    refine ⟨_, _, hk, ?_, hst.1, hst.2⟩
    exact run_storeAt (by rw [h1, hlv]) hh (fun j hj => by simp [World.frozen?, hh]) (by omega) (one_all h2 hr)
  case meptr sz l ver i off =>
    simp only [evStore] at h
    split at h <;> first | exact h.elim | skip
    rename_i tg sz' xs hg
    obtain ⟨rfl, rfl, hi, h⟩ := h
    obtain ⟨hd, hle, b, o, rfl, hv⟩ := hp
    obtain ⟨hlen, ho⟩ := hH.obj l _ hg hd
    obtain ⟨hσ, rfl⟩ := hv hlen.symm
    obtain ⟨vs, ⟨h1, h2, h3, h⟩, hr⟩ := elemCells_rel hx h
    rcases ho with ⟨ho, _⟩ | ⟨b', ws, fz, es, hb', hh, hre, hrow, hsz, hfz⟩
    · rw [hσ] at ho; cases ho
    have : b' = b := by rw [hσ] at hb'; cases hb'; rfl
    subst this
    obtain ⟨y, hy, hrel⟩ := relAll_get hre i (xs.getD i .any) (by simp [List.getD_eq_getElem?_getD, List.getElem?_eq_getElem hi])
    obtain ⟨hysz, hy1, hyc⟩ := hrow i y hy
    obtain ⟨cs, ⟨h4, hk⟩, hcase⟩ := elemCells_cases h
    have hrc : RelAll C.pure cs y.cells.toList := by
      rcases hcase with hc | ⟨hone, hna, hc⟩
      · rw [hc] at hrel; obtain ⟨vs', rfl, h2⟩ := hrel; exact h2
      · rw [hc]
        rw [one_cells (hrel.one hone)]
        exact ⟨_, [], rfl, hrel, rfl⟩
    have hlv := relAll_length hr
    have hlc := relAll_length hrc
    have hle' := relAll_length hre
    rw [Array.length_toList] at hlv hlc
    have hfit : (i + 1) * sz' ≤ ws.size := Nat.le_trans (Nat.mul_le_mul_right _ hi) hsz
    have hin : i * sz' + off + xv.cells.size ≤ ws.size := by
      have : (i + 1) * sz' = i * sz' + sz' := by rw [Nat.add_mul]; omega
      omega
    obtain ⟨ws', hc1, hc2⟩ := heap_setCells_at xv.cells.toList (i * sz' + off) hh
    -- the element as it is then
    obtain ⟨ny, hny, hnc⟩ := reElem_rel (off := off) hrel hcase (hr.to_pure _ _ h3) (one_all h2 hr) h4
    have hst := hH.store (o := i * sz' + off) (vs := xv.cells.toList) (obj' := .row tg sz' (xs.set i (reElem (xs.getD i .any) (setC cs off vs)))) hg hd hσ hσ hh (fun hE => by
      refine ⟨by rw [List.length_set]; exact hlen, .inr ⟨b', ws', fz, es.set i ny, hσ, hc1, relAll_set i (RelAll.mono hE.pure _ _ hre) (Rel.mono hE.pure _ _ hny), ?_, ?_, ?_⟩⟩
      · intro j v hj
        rw [List.getElem?_set] at hj
        have hcell : ∀ o, (C.w.setCells b' (i * sz' + off) xv.cells.toList).cell? ⟨b', o, none⟩ = (setC ws.toList (i * sz' + off) xv.cells.toList)[o]? := by
          intro o
          simp only [World.cell?, hc1, ← hc2, Array.getElem?_toList]
          simp
        have hold : ∀ o, C.w.cell? ⟨b', o, none⟩ = ws.toList[o]? := by
          intro o
          simp only [World.cell?, hh, Array.getElem?_toList]
          simp
        split at hj
        · rename_i hij
          subst hij
          split at hj <;> first | (cases hj; done) | skip
          simp only [Option.some.injEq] at hj
          subst hj
          refine ⟨by rw [← Array.length_toList, hnc, length_setC, Array.length_toList, hysz], (by rw [hnc]; exact setC_all hy1 (one_all h2 hr) (by simp; omega)), ?_⟩
          intro t x ht
          rw [hnc] at ht
          rw [hcell, get_setC _ _ _ _ (by simp; omega)]
          rw [get_setC _ _ _ _ (by simp; omega)] at ht
          have hcx := fun h => hyc t x h
          simp only [Nat.zero_add] at hcx ⊢
          split at ht
          · rename_i h5
            rw [if_pos (by omega), show i * sz' + t - (i * sz' + off) = t - off from by omega]; exact ht
          · rename_i h5
            rw [if_neg (by omega), ← hold]; exact hcx ht
        · rename_i hij
          obtain ⟨k1, k1', k2⟩ := hrow j v hj
          refine ⟨k1, k1', fun t x ht => ?_⟩
          have k3 := k2 t x ht
          have ht' : t < sz' := by
            have := (List.getElem?_eq_some_iff.1 ht).1
            rw [Array.length_toList, k1] at this; exact this
          rw [hcell, get_setC _ _ _ _ (by simp; omega), if_neg, ← hold]
          · exact k3
          · rintro ⟨k4, k5⟩
            rw [Array.length_toList] at k5
            rcases Nat.lt_or_gt_of_ne hij with h6 | h6
            · have : (i + 1) * sz' ≤ j * sz' := Nat.mul_le_mul_right _ h6
              rw [Nat.add_mul] at this
              omega
            · have : (j + 1) * sz' ≤ i * sz' := Nat.mul_le_mul_right _ h6
              rw [Nat.add_mul] at this
              omega
      · rw [List.length_set]
        have : ws'.size = ws.size := by rw [← Array.length_toList, hc2, length_setC, Array.length_toList]
        rw [this]; exact hsz
      · intro o ho
        have : ws'.size = ws.size := by rw [← Array.length_toList, hc2, length_setC, Array.length_toList]
        rw [this] at ho
        have := hfz o ho
        simp only [World.frozen?, hh] at this
        simp only [World.frozen?, hc1]; exact this)
    refine ⟨_, _, hk, ?_, hst.1, hst.2⟩
    exact run_storeAt (by rw [h1, hlv]) hh hfz hin (one_all h2 hr)
/-! ### maps that are written -/
def evMapUpdate (key : Option AV) (H : Heap) (m x v : AV) (k : Heap → Prop) : Prop :=
  match key, m with
  | some kk, .map l => match H.get l with
    | some (.map ks vs) => keyFits kk x = true ∧ match aFind x ks vs 0 with
      | some (some (j, _)) => k (H.set l (some (.map ks (vs.set j v))))
      | some none => k (H.set l (some (.map (ks ++ [x]) (vs ++ [v]))))
      | none => False
    | _ => False
  | _, _ => False
theorem HRel.mapSet {C : Ctx} {H : Heap} {l : Nat} {ks vs ks' vs' : List AV} {es es' : Array MapEntry} {c c' : Nat} (hH : HRel C H) (hg : H.get l = some (.map ks vs)) (hd : C.dom l) (hh : C.w.heap[C.β l]? = some (.map es c))
    (hk : RelAll C ks' (es'.toList.map (·.key))) (hv : RelAll C vs' (es'.toList.map (·.val))) :
    Ext C { C with w := { C.w with heap := C.w.heap.setIfInBounds (C.β l) (.map es' c') } } ∧ HRel { C with w := { C.w with heap := C.w.heap.setIfInBounds (C.β l) (.map es' c') } } (H.set l (some (.map ks' vs'))) := by
  have hown := hH.own l _ (C.β l) hg hd rfl
  have hlt := hH.lt _ hown
  have hne : ∀ b', b' ≠ C.β l → (C.w.heap.setIfInBounds (C.β l) (.map es' c'))[b']? = C.w.heap[b']? := fun b' h => by rw [Array.getElem?_setIfInBounds_ne (Ne.symm h)]
  have hE : Ext C { C with w := { C.w with heap := C.w.heap.setIfInBounds (C.β l) (.map es' c') } } := ext_world hown (by simp) hne (by simp only [World.shape?, hh]; simp [hlt]) ⟨rfl, rfl, rfl⟩
  refine ⟨hE, hH.put (b' := C.β l) hE (Heap.get_lt hg) (fun m => ⟨.inl, fun h => h.elim id (fun e => e ▸ hd)⟩) (fun _ _ => rfl) (fun _ _ => rfl) (fun _ _ => rfl) (fun b1 _ hn => hne b1 hn) ?_ (fun b1 => ⟨.inl, fun h => h.elim id (fun e => e ▸ hown)⟩) ?_ ?_ rfl⟩
  · intro m o' hm hgm hdm hbm
    exact hm (hH.inj m l o' _ _ hgm hg hdm hd hbm rfl)
  · intro b1 h1
    show b1 < (C.w.heap.setIfInBounds (C.β l) (.map es' c')).size
    rw [Array.size_setIfInBounds]; exact hH.lt b1 h1
  · exact ⟨es', c', by show (C.w.heap.setIfInBounds (C.β l) (.map es' c'))[C.β l]? = _; simp [hlt], RelAll.mono hE _ _ hk, RelAll.mono hE _ _ hv⟩
theorem evMapUpdate_sound {C : Ctx} {H : Heap} {t : TypeId} {m x v : AV} {mv xv vv : Value} {k : Heap → Prop} (hH : HRel C H) (hm : Rel C m mv) (hx : Rel C x xv) (hv : Rel C v vv) (h : evMapUpdate (mapKey P t) H m x v k) :
    ∃ H' w', k H' ∧ (Instr.mapUpdate t mv xv vv).run P C.w = .ok () w' ∧ Ext C { C with w := w' } ∧ HRel { C with w := w' } H' := by
  unfold evMapUpdate at h
  split at h <;> first | exact h.elim | skip
  rename_i kk l hkk
  split at h <;> first | exact h.elim | skip
  rename_i ks vs hg
  obtain ⟨hfit, h⟩ := h
  obtain ⟨hd, rfl⟩ := hm
  obtain ⟨key, elem, d, K, hu, hkd, hK, hKx, hint⟩ := mapKey_spec hkk hfit
  have hkey := isKey_of hx hKx hK hint
  obtain ⟨es, c, hh, hks, hvs⟩ := hH.obj l _ hg hd
  have hck := MapKept.run_checkKey (P := P) (w := C.w) hkd hkey false 9999
  have hset := fun o => MapKept.run_setObj_map (P := P) o hh
  split at h
  · rename_i j v0 hf
    rcases find_sound hK hx hKx es.toList 0 hks hvs hf with ⟨h1, _⟩ | ⟨j', v', y, h1, h2, h3, h4, h5⟩
    · cases h1
    · simp only [Option.some.injEq, Prod.mk.injEq, Nat.zero_add] at h1
      obtain ⟨rfl, rfl⟩ := h1
      rw [Nat.zero_add] at h2
      have hfk := MapKept.run_findKey (P := P) (w := C.w) hkd h2
      have hj : ∃ e0, es[j]? = some e0 := ⟨_, Array.getElem?_eq_getElem (by simpa using h5)⟩
      obtain ⟨e0, he0⟩ := hj
      have hkeq : e0.key = xv := by
        obtain ⟨xv', hx1, hx2⟩ := relAll_get hks j x h4
        have hx3 : e0.key = xv' := by
          rw [List.getElem?_map, Array.getElem?_toList, he0] at hx1
          simpa using hx1
        rw [hx3]
        cases x <;> first | (cases K <;> cases hKx; done) | (simp only [Rel] at hx hx2; rw [hx, hx2])
      have hmod : es.modify j (fun e => { e with key := xv, val := vv }) = es.modify j (fun e => { e with val := vv }) := by
        apply Array.ext_getElem?
        intro i
        rw [Array.getElem?_modify, Array.getElem?_modify]
        by_cases e : j = i
        · subst e
          simp [he0, hkeq]
        · simp [e]
      refine ⟨_, { C.w with heap := C.w.heap.setIfInBounds (C.β l) (.map (es.modify j fun e => { e with val := vv }) c) }, h, ?_, hH.mapSet hg hd hh ?_ ?_⟩
      · simp only [Instr.mapUpdate, Sem.run_bind, run_underlying hu, Result.andThen_ok, MapKept.run_getObj_map hh, hck, hfk, he0, Option.map_some, Option.getD_some, hkeq, MapKept.run_keyThatStays hkey, hset, hmod]
      · have : (es.modify j fun e => { e with val := vv }).toList.map (·.key) = es.toList.map (·.key) := by
          apply List.ext_getElem?
          intro i
          simp only [List.getElem?_map, Array.getElem?_toList, Array.getElem?_modify]
          by_cases e : j = i
          · subst e; simp [he0]
          · simp [e]
        rw [this]; exact hks
      · have : (es.modify j fun e => { e with val := vv }).toList.map (·.val) = (es.toList.map (·.val)).set j vv := by
          apply List.ext_getElem?
          intro i
          simp only [List.getElem?_map, Array.getElem?_toList, Array.getElem?_modify, List.getElem?_set]
          by_cases e : j = i
          · subst e; simp [he0]; simpa using h5
          · simp [e]
        rw [this]; exact relAll_set j hvs hv
  · rename_i hf
    rcases find_sound hK hx hKx es.toList 0 hks hvs hf with ⟨_, h2⟩ | ⟨j', v', y, h1, _⟩
    · have hfk := MapKept.run_findKey (P := P) (w := C.w) hkd h2
      refine ⟨_, { C.w with heap := C.w.heap.setIfInBounds (C.β l) (.map (es.push { key := xv, val := vv, born := c }) (c + 1)) }, h, ?_, hH.mapSet hg hd hh ?_ ?_⟩
      · simp only [Instr.mapUpdate, Sem.run_bind, run_underlying hu, Result.andThen_ok, MapKept.run_getObj_map hh, hck, hfk, hset]
      · rw [Array.toList_push, List.map_append]
        exact relAll_append hks ⟨xv, [], rfl, hx, rfl⟩
      · rw [Array.toList_push, List.map_append]
        exact relAll_append hvs ⟨vv, [], rfl, hv, rfl⟩
    · cases h1
  · exact h.elim
end
end Go.Sim

namespace Go.Sim
section
variable {P : Program} {w : World}
/-! ### append -/
def tBytes (P : Program) (t : TypeId) : Option Nat :=
  match P.underlying t with
  | some (.slice e) => match P.info? e with
    | some i => match i.zero with
      | some z => if z.cells.size = i.size then some i.bytes else none
      | none => none
    | none => none
  | _ => none
/-- what is appended: 1: a string's bytes, 2: a slice's elements -/
def srcOf (H : Heap) (kd : Nat) (x : AV) : Option (Nat × List AV) :=
  match kd, x with
  | 1, .str s => some (1, s.map enc8)
  | 2, x => elemsOf H x
  | _, _ => none
def evAppend (P : Program) (H : Heap) (loc : Nat) (t tx : TypeId) (b x : AV) (k : AV → Heap → Prop) : Prop :=
  match elemSz P t, tBytes P t, srcOf H (lenKind P tx) x with
  | some sz, some bytes, some (szx, ys) => 0 < bytes ∧ (szx = sz ∨ ys = []) ∧
    match b with
    | .nilslice | .zcap => ys.length * bytes ≤ 140737488355328 ∧ k (.mslice sz loc 0 ys.length) (H ++ [some (.row (elemTy P t) sz ys)])
    | .mslice sz' l i n => match H.get l with
      | some (.row tg sz2 xs) => tg = elemTy P t ∧ sz' = sz ∧ sz2 = sz ∧ i = 0 ∧ n = xs.length ∧ (xs.length + ys.length) * bytes ≤ 140737488355328 ∧
          k (.mslice sz l 0 (xs.length + ys.length)) (H.set l (some (.row tg sz (xs ++ ys))))
      | _ => False
    | _ => False
  | _, _, _ => False
theorem rowAt_cells {w : World} {sz b : Nat} : ∀ (vs : List Value) (o : Nat), RowAt w sz b o vs → CellsAt w b o (vs.map (·.cells.toList)).flatten
  | [], o, h => fun j v hj => by simp at hj
  | u :: vs, o, h => by
    obtain ⟨h1, _, h3⟩ := h 0 u rfl
    have h1' : u.cells.toList.length = sz := by rw [Array.length_toList]; exact h1
    have ih := rowAt_cells vs (o + sz) (fun j v hj => by
      have := h (j + 1) v (by simpa using hj)
      refine ⟨this.1, this.2.1, ?_⟩
      have k := this.2.2
      rw [show o + (j + 1) * sz = o + sz + j * sz from by rw [Nat.add_mul]; omega] at k
      exact k)
    intro j v hj
    simp only [List.map_cons, List.flatten_cons] at hj
    rcases Nat.lt_or_ge j sz with hjs | hjs
    · rw [List.getElem?_append_left (by omega)] at hj
      have := h3 j v hj
      simpa using this
    · rw [List.getElem?_append_right (by omega), h1'] at hj
      have := ih (j - sz) v hj
      rw [show o + sz + (j - sz) = o + j from by omega] at this
      exact this
theorem length_cells {sz : Nat} : ∀ (vs : List Value), (∀ v ∈ vs, v.cells.size = sz) → (vs.map (·.cells.toList)).flatten.length = vs.length * sz
  | [], _ => by simp
  | u :: vs, h => by
    have h1 := h u (by simp)
    have ih := length_cells vs fun v hv => h v (by simp [hv])
    simp only [List.map_cons, List.flatten_cons, List.length_append, ih, Array.length_toList, h1, List.length_cons]
    rw [Nat.add_mul]; omega
theorem rowAt_sizes {w : World} {sz b o : Nat} {vs : List Value} (h : RowAt w sz b o vs) : ∀ v ∈ vs, v.cells.size = sz ∧ ∀ c ∈ v.cells.toList, c.one = true := by
  intro v hv
  obtain ⟨j, hj⟩ := List.getElem?_of_mem hv
  exact ⟨(h j v hj).1, (h j v hj).2.1⟩
theorem flat_one {vs : List Value} {sz : Nat} (h : ∀ v ∈ vs, v.cells.size = sz ∧ ∀ c ∈ v.cells.toList, c.one = true) : ∀ c ∈ (vs.map (·.cells.toList)).flatten, c.one = true := by
  intro c hc
  obtain ⟨l, hl, hcl⟩ := List.mem_flatten.1 hc
  obtain ⟨v, hv, rfl⟩ := List.mem_map.1 hl
  exact (h v hv).2 c hcl
/-- the source's cells as the machine reads them -/
theorem src_rel {C : Ctx} {H : Heap} {tx : TypeId} {x : AV} {xv : Value} {szx sz : Nat} {ys : List AV} (hH : HRel C H) (hx : Rel C x xv) (h : srcOf H (lenKind P tx) x = some (szx, ys)) (hsz : szx = sz ∨ ys = []) :
    ∃ vs d, P.underlying tx = some d ∧ (∀ k, d ≠ .int k) ∧ RelAll C.pure ys vs ∧ (∀ v ∈ vs, v.cells.size = sz ∧ ∀ c ∈ v.cells.toList, c.one = true) ∧ (∀ w' : World, (Builtin.lenOf xv).run P w' = .ok ys.length w') ∧
      ∀ w' : World, (∀ b : Nat, C.w.heap[b]? = w'.heap[b]?) → (Builtin.firstCells sz ys.length xv).run P w' = .ok (vs.map (·.cells.toList)).flatten.toArray w' := by
  unfold srcOf at h
  split at h <;> first | (cases h; done) | skip
  · rename_i s hk
    unfold lenKind at hk
    split at hk <;> first | (cases hk; done) | skip
    rename_i hu
    simp only [Option.some.injEq, Prod.mk.injEq] at h
    obtain ⟨rfl, rfl⟩ := h
    simp only [Rel] at hx
    subst hx
    have hr : ∀ (s : List UInt8), RelAll C.pure (s.map enc8) (s.map fun b => .int .u8 b.toNat) := by
      intro s
      induction s with
      | nil => rfl
      | cons b s ih => exact ⟨_, _, rfl, rfl, ih⟩
    refine ⟨s.map fun b => .int .u8 b.toNat, _, hu, by simp, hr s, ?_, ?_, ?_⟩
    · intro v hv
      obtain ⟨b, hb, rfl⟩ := List.mem_map.1 hv
      rcases hsz with rfl | hn
      · exact ⟨rfl, by simp [Value.cells, Value.one]⟩
      · have : s = [] := by simpa using hn
        subst this; simp at hb
    · intro w'
      simp [Builtin.lenOf, size_mk]
    · intro w' _
      have hfl : ∀ (s : List UInt8), ((s.map fun b => (Value.int .u8 b.toNat)).map (·.cells.toList)).flatten = s.map fun b => .int .u8 b.toNat := by
        intro s
        induction s with
        | nil => rfl
        | cons b s ih => simp only [List.map_cons, List.flatten_cons, ih]; rfl
      rw [hfl]
      have he : (⟨s.toArray⟩ : ByteArray).extract 0 (s.map enc8).length = ⟨s.toArray⟩ := by
        rw [Lib.extract_eq]; simp
      simp only [Builtin.firstCells, he, Sem.run_pure]
      simp
  · rename_i hk
    unfold lenKind at hk
    split at hk <;> first | (cases hk; done) | skip
    rename_i e hu
    obtain ⟨a, cap, rfl, hc, hr⟩ := elemsOf_rel hH hx h
    rcases hr with rfl | ⟨b, o, vs, rfl, hra, hrow⟩
    · refine ⟨[], _, hu, by simp, rfl, by simp, fun w' => rfl, fun w' _ => ?_⟩
      cases a <;> simp [Builtin.firstCells, loadCells, loadCellsFrom]
    · rcases hsz with rfl | rfl
      · have hs := rowAt_sizes hrow
        refine ⟨vs, _, hu, by simp, hra, hs, fun w' => rfl, fun w' hw' => ?_⟩
        have hl : (vs.map (·.cells.toList)).flatten.length = ys.length * szx := by
          rw [length_cells vs fun v hv => (hs v hv).1, relAll_length hra]
        have := run_loadCells_list (P := P) w' ⟨b, o, none⟩ (vs.map (·.cells.toList)).flatten (fun j v hj => by
          rw [addr_add, cell_of_heap (hw' b).symm]
          exact rowAt_cells vs o hrow j v hj)
        rw [hl] at this
        simp only [Builtin.firstCells, this]
      · cases hra
        exact ⟨[], _, hu, by simp, rfl, by simp, fun w' => rfl, fun w' _ => by simp [Builtin.firstCells, loadCells, loadCellsFrom]⟩
end
end Go.Sim

namespace Go.Sim
section
variable {P : Program} {w : World}
def Ctx.reloc (C : Ctx) (l b' n : Nat) (w' : World) : Ctx where
  dom m := C.dom m ∨ m = l
  σ m := if m = l then some b' else C.σ m
  β := C.β
  len m := if m = l then n else C.len m
  own b := C.own b ∨ b = b'
  im := C.im
  hi := C.hi
  w := w'
theorem Ext.reloc {C : Ctx} {l b' n : Nat} {w' : World} (hhi : C.dom l ∨ C.hi ≤ l) (hlen : C.dom l → C.len l < n) (hheap : ∀ b, b < C.w.heap.size → b ≠ b' → w'.heap[b]? = C.w.heap[b]?) (hsize : C.w.heap.size ≤ w'.heap.size)
    (hshape : ∀ s, C.w.shape? b' = some s → w'.shape? b' = some s) (hnb : C.own b' ∨ C.w.heap.size ≤ b') (hs : SameIO C.w w') : Ext C (C.reloc l b' n w') where
  same := hs
  hi := Nat.le_refl _
  fresh m h := h.elim .inl fun e => e ▸ hhi
  dom m h := .inl h
  β m h := rfl
  len m h := by
    show C.len m ≤ if m = l then n else C.len m
    split
    · rename_i e; have := hlen (e ▸ h); rw [e]; omega
    · exact Nat.le_refl _
  σ m h e := by
    have e' : (if m = l then n else C.len m) = C.len m := e
    show (if m = l then some b' else C.σ m) = C.σ m
    split
    · rename_i em
      subst em
      rw [if_pos rfl] at e'
      have := hlen h
      omega
    · rfl
  im _ h := h
  old b hb h := hheap b hb fun e => hnb.elim (fun k => h (e ▸ k)) (fun k => by omega)
  imOld _ _ h := .inl h
  ownOld b hb h := h.elim id fun e => hnb.elim (fun k => e ▸ k) (fun k => by omega)
  size := hsize
  shape b s h := by
    show w'.shape? b = some s
    by_cases e : b = b'
    · rw [e] at h ⊢; exact hshape s h
    · have hb : b < C.w.heap.size := by
        rcases Nat.lt_or_ge b C.w.heap.size with h1 | h1
        · exact h1
        · simp [World.shape?, h1] at h
      simp only [World.shape?, hheap b hb e] at h ⊢; exact h
theorem HRel.reloc {C : Ctx} {H : Heap} {l b' n sz : Nat} {tg : TypeId} {w' : World} {zs : List AV} (hH : HRel C H) (hl : l < H.length) (hE : Ext C (C.reloc l b' n w')) (hheap : ∀ b, b < C.w.heap.size → b ≠ b' → w'.heap[b]? = C.w.heap[b]?)
    (hne : ∀ m o, m ≠ l → H.get m = some o → C.dom m → blockOf C m o ≠ some b') (hlt : b' < w'.heap.size) (hsize : C.w.heap.size ≤ w'.heap.size) (hobj : ORel (C.reloc l b' n w') l (.row tg sz zs)) :
    HRel (C.reloc l b' n w') (H.set l (some (.row tg sz zs))) := by
  refine hH.put (b' := b') hE hl (fun _ => Iff.rfl) (fun _ _ => rfl) (fun m hm => if_neg hm) (fun m hm => if_neg hm) (fun b hb hne' => hheap b (hH.lt b hb) hne') hne (fun _ => Iff.rfl) ?_ hobj ?_
  · intro b hb
    rcases hb with hb | hb
    · exact Nat.lt_of_lt_of_le (hH.lt b hb) hsize
    · rw [hb]; exact hlt
  · show (if l = l then some b' else C.σ l) = some b'
    rw [if_pos rfl]

/-- the run of an append that must grow -/
theorem run_append_grow {t tx ty e : TypeId} {d : TypeDesc} {i : TypeInfo} {z : Value} {base : Option Addr} {n m cap : Nat} {xv : Value} {old new : Array Value}
    (hu : P.underlying t = some (.slice e)) (hi : P.info? e = some i) (hz : i.zero = some z) (htx : P.underlying tx = some d) (hd : ∀ k, d ≠ .int k) (hb : 0 < i.bytes)
    (hlen : (Builtin.lenOf xv).run P w = .ok m w) (hg : ¬ n + m ≤ cap) (hfit : (n + m) * i.bytes ≤ 140737488355328)
    (hold : ∀ w' : World, (∀ b : Nat, w.heap[b]? = w'.heap[b]?) → (Builtin.firstCells i.size n (.slice base n cap)).run P w' = .ok old w')
    (hnew : ∀ w' : World, (∀ b : Nat, w.heap[b]? = w'.heap[b]?) → (Builtin.firstCells i.size m xv).run P w' = .ok new w') :
    ∃ nc rest, n + m ≤ nc ∧ rest = Builtin.zeroCells z.cells (nc - (n + m)) ∧
      (Builtin.append_ #[t, tx] ty #[.slice base n cap, xv]).run P w = .ok (.slice (some ⟨w.heap.size, 0, none⟩) (n + m) nc) (w.drew.alloc (.cells (old ++ new ++ rest) e)) := by
  have hnc : Builtin.nextslicecap (n + m) cap * i.bytes ≤ 2 ^ 48 := growslice_fits (by omega) hfit
  let nc := (n + m) + w.tape w.drawn (.appendCap (n + m) cap e) % (2 ^ 63 - (n + m))
  refine ⟨nc, _, Nat.le_add_right _ _, rfl, ?_⟩
  have hnc' : ¬ (2 ^ 48 < Builtin.nextslicecap (n + m) cap * i.bytes) := by omega
  have hb0 : ¬ (i.bytes = 0) := by omega
  have hch : (choose (.appendCap (n + m) cap e)).run P w = .ok nc w.drew := by
    rfl
  have hroom : ∀ k w', (askRoom k).run P w' = .ok () w' := by
    intro k w'; unfold askRoom; split <;> rfl
  have ho := hold w.drew (fun _ => rfl)
  have hn := hnew w.drew (fun _ => rfl)
  cases d <;> first | (exact absurd rfl (hd _)) | skip
  all_goals
    simp only [Builtin.append_, List.getElem?_toArray, List.getElem?_cons_zero, List.getElem?_cons_succ, Sem.run_bind, run_underlying hu, Result.andThen_ok, sizeOf, run_typeInfo' hi, Sem.run_pure, run_underlying htx, Bool.false_eq_true, if_false, hlen, if_neg hg, Bool.not_false, if_true, hb0, false_or, and_false, gt_iff_lt, if_neg hnc', hch, hroom, ho, hn, zeroValue, hz]
    simp [newRow]
    try rfl
theorem run_append_fits {t tx ty e : TypeId} {d : TypeDesc} {i : TypeInfo} {base : Option Addr} {n m cap : Nat} {xv : Value} {new : Array Value} {w' : World}
    (hu : P.underlying t = some (.slice e)) (hi : P.info? e = some i) (htx : P.underlying tx = some d) (hd : ∀ k, d ≠ .int k)
    (hlen : (Builtin.lenOf xv).run P w = .ok m w) (hg : n + m ≤ cap) (hnew : (Builtin.firstCells i.size m xv).run P w = .ok new w)
    (hst : ∀ a, base = some a → (storeCells (a.add (n * i.size)) new.toList).run P w = .ok () w') (hnone : base = none → w' = w) :
    (Builtin.append_ #[t, tx] ty #[.slice base n cap, xv]).run P w = .ok (.slice base (n + m) cap) w' := by
  have hz0 : ∀ w : World, (match d with | .int _ => true | _ => false) = false := by cases d <;> first | (exact fun _ => rfl) | exact absurd rfl (hd _)
  cases d <;> first | (exact absurd rfl (hd _)) | skip
  all_goals
    simp only [Builtin.append_, List.getElem?_toArray, List.getElem?_cons_zero, List.getElem?_cons_succ, Sem.run_bind, run_underlying hu, Result.andThen_ok, sizeOf, run_typeInfo' hi, Sem.run_pure, run_underlying htx, Bool.false_eq_true, if_false, hlen, if_pos hg, Bool.not_false, if_true, hnew]
    cases base with
    | none => simp [hnone rfl]
    | some a => simp [hst a rfl]
end
end Go.Sim

namespace Go.Sim
section
variable {P : Program} {w : World}
theorem tBytes_some {t : TypeId} {n : Nat} (h : tBytes P t = some n) : ∃ e i z, P.underlying t = some (.slice e) ∧ P.info? e = some i ∧ i.zero = some z ∧ z.cells.size = i.size ∧ i.bytes = n := by
  unfold tBytes at h
  split at h <;> try (cases h; done)
  rename_i e he
  split at h <;> try (cases h; done)
  rename_i i hi
  split at h <;> try (cases h; done)
  rename_i z hz
  split at h <;> try (cases h; done)
  rename_i hzs
  cases h
  exact ⟨e, i, z, he, hi, hz, hzs, rfl⟩
theorem size_zeroCells (z : Array Value) (n : Nat) : (Builtin.zeroCells z n).size = n * z.size := by simp [Builtin.zeroCells]
/-- an unrealized row is listed -/
def Ctx.unreal (C : Ctx) (l : Nat) : Ctx where
  dom m := C.dom m ∨ m = l
  σ m := if m = l then none else C.σ m
  β := C.β
  len m := if m = l then 0 else C.len m
  own := C.own
  im := C.im
  hi := C.hi
  w := C.w
theorem Ext.unreal {C : Ctx} {l : Nat} (hl : ¬ C.dom l) (hhi : C.hi ≤ l) : Ext C (C.unreal l) where
  dom m h := .inl h
  β m h := rfl
  len m h := by
    have : m ≠ l := fun e => hl (e ▸ h)
    simp [Ctx.unreal, this]
  σ m h _ := by
    have : m ≠ l := fun e => hl (e ▸ h)
    simp [Ctx.unreal, this]
  im _ h := h
  old _ _ _ := rfl
  imOld _ _ h := .inl h
  ownOld _ _ h := h
  size := Nat.le_refl _
  shape b s h := h
  same := SameIO.refl _
  hi := Nat.le_refl _
  fresh m h := h.elim .inl fun e => .inr (e ▸ hhi)
theorem HRel.unreal {C : Ctx} {H : Heap} {l sz : Nat} {tg : TypeId} (hH : HRel C H) (hg : H.get l = some (.row tg sz [])) (hl : ¬ C.dom l) (hhi : C.hi ≤ l) : HRel (C.unreal l) H := by
  have hE := Ext.unreal hl hhi
  have hne : ∀ m, C.dom m → m ≠ l := fun m h e => hl (e ▸ h)
  have hblk : ∀ m o, m ≠ l → blockOf (C.unreal l) m o = blockOf C m o := by
    intro m o hm
    cases o <;> simp [blockOf, Ctx.unreal, hm]
  have hbl : ∀ o b, H.get l = some o → blockOf (C.unreal l) l o ≠ some b := by
    intro o b ho
    rw [hg] at ho; cases ho
    simp [blockOf, Ctx.unreal]
  refine ⟨?_, ?_, ?_, hH.lt, ?_, hH.hi⟩
  · intro m o hgm hd
    by_cases hm : m = l
    · subst hm
      rw [hg] at hgm; cases hgm
      exact ⟨by simp [Ctx.unreal], .inl ⟨by simp [Ctx.unreal], rfl⟩⟩
    · exact (hH.obj m o hgm (hd.resolve_right hm)).mono hE rfl (if_neg hm) (if_neg hm) fun _ _ => rfl
  · intro m o b hgm hd hb
    by_cases hm : m = l
    · subst hm; exact absurd hb (hbl _ _ hgm)
    · rw [hblk m o hm] at hb; exact hH.own m o b hgm (hd.resolve_right hm) hb
  · intro m m' o o' b hgm hgm' hd hd' hb hb'
    by_cases hm : m = l
    · subst hm; exact absurd hb (hbl _ _ hgm)
    · by_cases hm' : m' = l
      · subst hm'; exact absurd hb' (hbl _ _ hgm')
      · rw [hblk m o hm] at hb
        rw [hblk m' o' hm'] at hb'
        exact hH.inj m m' o o' b hgm hgm' (hd.resolve_right hm) (hd'.resolve_right hm') hb hb'
  · intro m hd
    rcases hd with hd | rfl
    · exact hH.dom m hd
    · exact Heap.get_lt hg
theorem relAll_enough {C : Ctx} : True := trivial
/-- a row in a new block, behind draws -/
theorem reloc_new {C : Ctx} {H : Heap} {l n sz nc : Nat} {w' : World} {zs : List AV} {vs : List Value} {rest : Array Value} {e : TypeId} (hH : HRel C H) (hl : l < H.length) (hhi : C.dom l ∨ C.hi ≤ l) (hlen : C.dom l → C.len l < n) (hzs : zs.length = n)
    (hw : w'.heap = C.w.heap.push (.cells ((vs.map (·.cells.toList)).flatten.toArray ++ rest) e (0, 0))) (hr : RelAll C.pure zs vs) (hvs : ∀ v ∈ vs, v.cells.size = sz ∧ ∀ c ∈ v.cells.toList, c.one = true) (hnc : n ≤ nc) (hrest : n * sz + rest.size = nc * sz) (hs : SameIO C.w w') :
    Ext C (C.reloc l C.w.heap.size n w') ∧ HRel (C.reloc l C.w.heap.size n w') (H.set l (some (.row e sz zs))) ∧ Rel (C.reloc l C.w.heap.size n w') (.mslice sz l 0 n) (.slice (some ⟨C.w.heap.size, 0, none⟩) n nc) := by
  have hheap : ∀ b, b < C.w.heap.size → b ≠ C.w.heap.size → w'.heap[b]? = C.w.heap[b]? := fun b hb _ => by rw [hw]; exact heap_push_ne (by omega)
  have hsz' : w'.heap.size = C.w.heap.size + 1 := by rw [hw]; simp
  have hnew : w'.heap[C.w.heap.size]? = some (.cells ((vs.map (·.cells.toList)).flatten.toArray ++ rest) e (0, 0)) := by rw [hw]; exact Array.getElem?_push_size
  have hE : Ext C (C.reloc l C.w.heap.size n w') := Ext.reloc hhi hlen hheap (by omega) (fun s h => by simp [World.shape?] at h) (.inr (Nat.le_refl _)) hs
  have hlc := length_cells vs fun v hv => (hvs v hv).1
  have hlv := relAll_length hr
  have hcs : ((vs.map (·.cells.toList)).flatten.toArray ++ rest).size = nc * sz := by
    rw [Array.size_append, List.size_toArray, hlc, hlv, hzs]; exact hrest
  refine ⟨hE, hH.reloc hl hE hheap (fun m o hm hg hd hb => ?_) (by omega) (by omega) ?_, ?_⟩
  · have := hH.lt _ (hH.own m o _ hg hd hb); omega
  · refine ⟨by show (if l = l then n else _) = _; rw [if_pos rfl, hzs], .inr ⟨C.w.heap.size, _, (0, 0), vs, if_pos rfl, hnew, RelAll.mono hE.pure _ _ hr, ?_, ?_, ?_⟩⟩
    · refine rowAt_flatten vs 0 hvs ?_
      intro j v hj
      have hjl := (List.getElem?_eq_some_iff.1 hj).1
      show w'.cell? _ = _
      simp only [World.cell?, hnew, Nat.zero_add]
      rw [Array.getElem?_append_left (by simpa using hjl)]
      simpa using hj
    · rw [hcs, hzs]; exact Nat.mul_le_mul_right _ hnc
    · intro o _
      show w'.frozen? _ = false
      simp [World.frozen?, hnew]
  · refine ⟨.inr rfl, by show 0 + n ≤ (if l = l then n else _); rw [if_pos rfl]; omega, _, _, rfl, hnc, fun _ => .inr ⟨C.w.heap.size, e, nc * sz, if_pos rfl, by simp, ?_, by simp⟩⟩
    show w'.shape? _ = _
    simp only [World.shape?, hnew, hcs]
set_option maxHeartbeats 400000 in
theorem evAppend_sound {C : Ctx} {H : Heap} {t tx ty : TypeId} {b x : AV} {bv xv : Value} {k : AV → Heap → Prop} (hH : HRel C H) (hb : Rel C b bv) (hx : Rel C x xv) (h : evAppend P H H.length t tx b x k) :
    ∃ v H' y w' C', k v H' ∧ (Builtin.append_ #[t, tx] ty #[bv, xv]).run P C.w = .ok y w' ∧ C'.w = w' ∧ Ext C C' ∧ HRel C' H' ∧ Rel C' v y := by
  unfold evAppend at h
  split at h <;> first | exact h.elim | skip
  rename_i sz bytes szx ys hes hby hsrc
  obtain ⟨hb0, hszy, h⟩ := h
  obtain ⟨e, i, z, hu, hi, hz, hzs, rfl⟩ := tBytes_some hby
  obtain ⟨e', i', hu', hi', rfl⟩ := elemSz_some hes
  have : e' = e := by rw [hu] at hu'; cases hu'; rfl
  subst this
  have : i' = i := by rw [hi] at hi'; cases hi'; rfl
  subst this
  have hty := elemTy_of hu
  rw [hty] at h
  obtain ⟨vs, d, htx, hd, hry, hvs, hlen, hnew⟩ := src_rel (P := P) (sz := i'.size) hH hx hsrc hszy
  have hn0 : ¬ C.dom H.length := fun h => by have := hH.dom _ h; omega
  have hlv := relAll_length hry
  have hlc := length_cells vs fun v hv => (hvs v hv).1
  -- a base without room
  have base0 : ∀ a, bv = .slice a 0 0 → ys.length * i'.bytes ≤ 140737488355328 ∧ k (.mslice i'.size H.length 0 ys.length) (H ++ [some (.row e' i'.size ys)]) →
      ∃ v H' y w' C', k v H' ∧ (Builtin.append_ #[t, tx] ty #[bv, xv]).run P C.w = .ok y w' ∧ C'.w = w' ∧ Ext C C' ∧ HRel C' H' ∧ Rel C' v y := by
    rintro a rfl ⟨hfit, hk⟩
    cases ys with
    | nil =>
      cases hry
      have hrun := run_append_fits (P := P) (w := C.w) (w' := C.w) (ty := ty) (base := a) (n := 0) (m := 0) (cap := 0) hu hi htx hd (hlen C.w) (Nat.le_refl _) (hnew C.w fun _ => rfl) (fun a' _ => rfl) (fun _ => rfl)
      refine ⟨_, _, _, C.w, C.unreal H.length, hk, hrun, rfl, Ext.unreal hn0 hH.hi, (hH.list _).unreal Heap.get_push hn0 hH.hi, .inr rfl, ?_, a, 0, rfl, Nat.le_refl _, fun _ => .inl ⟨if_pos rfl, rfl, rfl⟩⟩
      show 0 + 0 ≤ (if H.length = H.length then 0 else C.len H.length)
      simp
    | cons y0 ys0 =>
      obtain ⟨nc, rest, hnc, hrest, hrun⟩ := run_append_grow (P := P) (w := C.w) (ty := ty) (base := a) (n := 0) (m := (y0 :: ys0).length) (cap := 0) (old := #[]) hu hi hz htx hd hb0 (hlen C.w) (by simp) (by simpa using hfit)
        (fun w' _ => by cases a <;> simp [Builtin.firstCells, loadCells, loadCellsFrom]) hnew
      have hre := reloc_new (C := C) (H := H ++ [none]) (l := H.length) (n := (y0 :: ys0).length) (sz := i'.size) (nc := nc) (w' := C.w.drew.alloc (.cells (#[] ++ (vs.map (·.cells.toList)).flatten.toArray ++ rest) e')) (rest := rest) (e := e') (hH.list none) (by simp) (.inr hH.hi) (fun h => absurd h hn0) rfl
        (by show C.w.drew.heap.push _ = _; rw [Array.empty_append]; rfl) hry hvs (by omega) (by rw [hrest, size_zeroCells, hzs, Nat.zero_add, ← Nat.add_mul]; congr 1; omega) ⟨rfl, rfl, rfl⟩
      have hset : (H ++ [none]).set H.length (some (.row e' i'.size (y0 :: ys0))) = H ++ [some (.row e' i'.size (y0 :: ys0))] := by
        rw [List.set_append_right _ _ (Nat.le_refl _)]; simp
      rw [hset] at hre
      rw [Nat.zero_add] at hrun
      exact ⟨_, _, _, _, _, hk, hrun, rfl, hre.1, hre.2.1, hre.2.2⟩
  split at h
  · simp only [Rel] at hb
    exact base0 _ hb h
  · obtain ⟨a, rfl⟩ := hb
    exact base0 a rfl h
  · rename_i sz' l i0 n
    split at h <;> first | exact h.elim | skip
    rename_i tg sz2 xs hg
    obtain ⟨htg, rfl, rfl, rfl, rfl, hfit, hk⟩ := h
    subst htg
    obtain ⟨hd0, hle, a, cap, rfl, hnc, hc⟩ := hb
    obtain ⟨hl, ho⟩ := hH.obj l _ hg hd0
    have hlt := Heap.get_lt hg
    cases hys : ys with
    | nil =>
      subst hys
      cases hry
      have hrun := run_append_fits (P := P) (w := C.w) (w' := C.w) (ty := ty) (base := a) (n := xs.length) (m := 0) (cap := cap) hu hi htx hd (hlen C.w) hnc (hnew C.w fun _ => rfl) (fun a' _ => rfl) (fun _ => rfl)
      have hset : H.set l (some (.row tg i'.size (xs ++ []))) = H := by
        rw [List.append_nil]
        apply List.ext_getElem?
        intro j
        by_cases hj : j = l
        · subst hj
          rw [List.getElem?_set_self hlt]
          simp only [Heap.get] at hg
          rw [List.getElem?_eq_getElem hlt] at hg ⊢
          simp at hg
          rw [hg]
        · rw [List.getElem?_set_ne (fun e => hj e.symm)]
      rw [hset] at hk
      exact ⟨_, _, _, _, C, hk, hrun, rfl, Ext.refl C, hH, hd0, hle, a, cap, rfl, hnc, hc⟩
    | cons y0 ys0 =>
      have hm : 0 < ys.length := by rw [hys]; simp
      clear hys
      rw [Nat.zero_add] at hc
      by_cases hfits : xs.length + ys.length ≤ cap
      · -- in place
        rcases hc hl.symm with ⟨_, h2, _⟩ | ⟨b, eb, mb, hσ, ha, hsh, hroom⟩
        · omega
        rw [Nat.zero_mul] at ha
        subst ha
        rcases ho with ⟨ho, _⟩ | ⟨b', ws, fz, es, hσ', hh, hrx, hrow, hsz, hfz⟩
        · rw [hσ] at ho; cases ho
        have : b' = b := by rw [hσ] at hσ'; cases hσ'; rfl
        subst this
        simp only [Nat.zero_add, Nat.zero_mul] at hroom hrow hsh
        have hmb : mb = ws.size := by simp only [World.shape?, hh] at hsh; cases hsh; rfl
        subst hmb
        have hlx := relAll_length hrx
        have hrs := rowAt_sizes hrow
        have hadd : (xs.length + ys.length) * i'.size ≤ ws.size := Nat.le_trans (Nat.mul_le_mul_right _ hfits) hroom
        rw [Nat.add_mul] at hadd
        have hst : (storeCells ⟨b', xs.length * i'.size, none⟩ (vs.map (·.cells.toList)).flatten).run P C.w = .ok () (C.w.setCells b' (xs.length * i'.size) (vs.map (·.cells.toList)).flatten) :=
          run_storeCells hh hfz (by rw [hlc, hlv]; exact hadd) (flat_one hvs)
        have hrun := run_append_fits (P := P) (w := C.w) (w' := C.w.setCells b' (xs.length * i'.size) (vs.map (·.cells.toList)).flatten) (ty := ty) (base := some ⟨b', 0, none⟩) (n := xs.length) (m := ys.length) (cap := cap) hu hi htx hd (hlen C.w) hfits (hnew C.w fun _ => rfl)
          (fun a' ha' => by cases ha'; rw [addr_add, Nat.zero_add]; exact hst) (fun h => by cases h)
        obtain ⟨ws', hc1, hc2⟩ := heap_setCells_at (vs.map (·.cells.toList)).flatten (xs.length * i'.size) hh
        have hws' : ws'.size = ws.size := by rw [← Array.length_toList, hc2, length_setC, Array.length_toList]
        have hheap : ∀ b1, b1 < C.w.heap.size → b1 ≠ b' → (C.w.setCells b' (xs.length * i'.size) (vs.map (·.cells.toList)).flatten).heap[b1]? = C.w.heap[b1]? := fun b1 _ hne => heap_setCells_ne _ _ hne
        have hown := hH.own l _ b' hg hd0 hσ
        have hE : Ext C (C.reloc l b' (xs.length + ys.length) (C.w.setCells b' (xs.length * i'.size) (vs.map (·.cells.toList)).flatten)) :=
          Ext.reloc (.inl hd0) (fun _ => by omega) hheap (by rw [size_setCells]; omega) (fun s hs => by rw [shape_setCells hh]; exact hs) (.inl hown) (same_setCells ..)
        have hcellIn : CellsAt (C.w.setCells b' (xs.length * i'.size) (vs.map (·.cells.toList)).flatten) b' 0 ((es.map (·.cells.toList)).flatten ++ (vs.map (·.cells.toList)).flatten) := by
          intro j v hj
          have hle1 : (es.map (·.cells.toList)).flatten.length = xs.length * i'.size := by rw [length_cells es fun v hv => (hrs v hv).1, hlx]
          simp only [World.cell?, hc1, Nat.zero_add]
          have : ws'[j]? = (setC ws.toList (xs.length * i'.size) (vs.map (·.cells.toList)).flatten)[j]? := by rw [← hc2, Array.getElem?_toList]
          rw [if_neg (by simp), this, get_setC _ _ _ _ (by rw [Array.length_toList, hlc, hlv]; exact hadd)]
          rcases Nat.lt_or_ge j (xs.length * i'.size) with h1 | h1
          · rw [List.getElem?_append_left (by omega)] at hj
            rw [if_neg (by omega)]
            have := rowAt_cells es 0 hrow j v hj
            simp only [World.cell?, hh, Nat.zero_add] at this
            rw [Array.getElem?_toList]
            simpa using this
          · rw [List.getElem?_append_right (by omega), hle1] at hj
            have hjl := (List.getElem?_eq_some_iff.1 hj).1
            rw [if_pos ⟨h1, by omega⟩]; exact hj
        have hobj : ORel (C.reloc l b' (xs.length + ys.length) (C.w.setCells b' (xs.length * i'.size) (vs.map (·.cells.toList)).flatten)) l (.row tg i'.size (xs ++ ys)) := by
          refine ⟨by show (if l = l then _ else _) = _; rw [if_pos rfl, List.length_append], .inr ⟨b', ws', fz, es ++ vs, if_pos rfl, hc1, relAll_append (RelAll.mono hE.pure _ _ hrx) (RelAll.mono hE.pure _ _ hry), ?_, ?_, ?_⟩⟩
          · refine rowAt_flatten _ 0 (fun v hv => ?_) ?_
            · rcases List.mem_append.1 hv with hv | hv
              · exact hrs v hv
              · exact hvs v hv
            · rw [List.map_append, List.flatten_append]; exact hcellIn
          · rw [hws', List.length_append, Nat.add_mul]; exact hadd
          · intro o ho
            rw [hws'] at ho
            have := hfz o ho
            simp only [World.frozen?, hh] at this
            show (C.w.setCells _ _ _).frozen? _ = false
            simp only [World.frozen?, hc1]; exact this
        have hs1 : (C.w.setCells b' (xs.length * i'.size) (vs.map (·.cells.toList)).flatten).heap.size = C.w.heap.size := size_setCells ..
        have hsh1 : (C.w.setCells b' (xs.length * i'.size) (vs.map (·.cells.toList)).flatten).shape? b' = some (eb, ws.size) := by rw [shape_setCells hh]; exact hsh
        clear hcellIn hc1 hc2 hst
        generalize C.w.setCells b' (xs.length * i'.size) (vs.map (·.cells.toList)).flatten = w1 at *
        have hHR : HRel (C.reloc l b' (xs.length + ys.length) w1) (H.set l (some (.row tg i'.size (xs ++ ys)))) :=
          hH.reloc hlt hE hheap (fun m o hm hgm hdm hbm => hm (hH.inj m l o _ b' hgm hg hdm hd0 hbm hσ)) (by rw [hs1]; exact hH.lt _ hown) (by omega) hobj
        refine ⟨_, _, _, _, _, hk, hrun, rfl, hE, hHR, ?_⟩
        refine ⟨.inr rfl, by show 0 + _ ≤ (if l = l then _ else _); rw [if_pos rfl]; omega, _, _, rfl, hfits, fun _ => .inr ⟨b', eb, ws.size, if_pos rfl, by rw [Nat.zero_mul], hsh1, by rw [Nat.zero_add]; exact hroom⟩⟩
      · -- a new block
        have hold : ∃ old : List Value, RelAll C.pure xs old ∧ (∀ v ∈ old, v.cells.size = i'.size ∧ ∀ c ∈ v.cells.toList, c.one = true) ∧ ∀ w' : World, (∀ b : Nat, C.w.heap[b]? = w'.heap[b]?) → (Builtin.firstCells i'.size xs.length (.slice a xs.length cap)).run P w' = .ok (old.map (·.cells.toList)).flatten.toArray w' := by
          rcases hc hl.symm with ⟨h1, h2, _⟩ | ⟨b, eb, mb, hσ, rfl, hsh, hroom⟩
          · subst h2
            have : xs = [] := List.eq_nil_of_length_eq_zero (by omega)
            subst this
            exact ⟨[], rfl, by simp, fun w' _ => by cases a <;> simp [Builtin.firstCells, loadCells, loadCellsFrom]⟩
          · rcases ho with ⟨ho, _⟩ | ⟨b', ws, fz, es, hσ', hh, hrx, hrow, hsz, hfz⟩
            · rw [hσ] at ho; cases ho
            have : b' = b := by rw [hσ] at hσ'; cases hσ'; rfl
            subst this
            have hrs := rowAt_sizes hrow
            refine ⟨es, hrx, hrs, fun w' hw' => ?_⟩
            have hl1 : (es.map (·.cells.toList)).flatten.length = xs.length * i'.size := by rw [length_cells es fun v hv => (hrs v hv).1, relAll_length hrx]
            have := run_loadCells_list (P := P) w' ⟨b', 0 * i'.size, none⟩ (es.map (·.cells.toList)).flatten (fun j v hj => by
              rw [addr_add, cell_of_heap (hw' b').symm, Nat.zero_mul]
              exact rowAt_cells es 0 hrow j v hj)
            rw [hl1] at this
            simp only [Builtin.firstCells, this]
        obtain ⟨old, hrx, hrs, hold⟩ := hold
        obtain ⟨nc, rest, hnc', hrest, hrun⟩ := run_append_grow (P := P) (w := C.w) (ty := ty) (base := a) (n := xs.length) (m := ys.length) (cap := cap) hu hi hz htx hd hb0 (hlen C.w) hfits hfit hold hnew
        have hre := reloc_new (C := C) (H := H) (l := l) (n := xs.length + ys.length) (sz := i'.size) (nc := nc) (w' := C.w.drew.alloc (.cells ((old.map (·.cells.toList)).flatten.toArray ++ (vs.map (·.cells.toList)).flatten.toArray ++ rest) tg)) (zs := xs ++ ys) (vs := old ++ vs) (rest := rest) (e := tg) hH hlt (.inl hd0) (fun _ => by omega) (by simp)
          (by show C.w.drew.heap.push _ = _; rw [List.map_append, List.flatten_append, ← List.append_toArray]; rfl) (relAll_append hrx hry) (fun v hv => by
            rcases List.mem_append.1 hv with hv | hv
            · exact hrs v hv
            · exact hvs v hv) hnc' (by rw [hrest, size_zeroCells, hzs, ← Nat.add_mul]; congr 1; omega) ⟨rfl, rfl, rfl⟩
        exact ⟨_, _, _, _, _, hk, hrun, rfl, hre.1, hre.2.1, hre.2.2⟩
  · exact h.elim
end
end Go.Sim

namespace Go.Sim
section
variable {P : Program} {w : World}
/-! ### what is made and never written: literals -/
/-- which literals are never written: by their type and length -/
abbrev LitO := TypeId → Nat → Bool
def litV (sz : Nat) : List AV → AV
  | [] => .zcap
  | x :: xs => .slice sz (x :: xs)
theorem litV_rel {C : Ctx} {sz : Nat} {xs : List AV} {v : Value} {a : Option Addr} (h : Rel C (.slice sz xs) v) (hv : v = .slice a xs.length xs.length) : Rel C (litV sz xs) v := by
  cases xs with
  | nil => exact ⟨a, hv⟩
  | cons x xs => exact h
def evL (P : Program) (ρ : Operand → AV) (o : Op) (k : AV → Prop) : Prop :=
  match o with
  | .buildSlice t n parts => match elemSz P t with
    | some sz => n * sz ≤ 16777216 ∧ n = parts.size ∧ (n * sz = 0 ∨ evA.sliceZero P t = true) ∧ parts.toList.map (·.1) = List.range' 0 parts.size ∧ partsOk sz (parts.toList.map fun p => ρ p.2) ∧
        k (litV sz (parts.toList.map fun p => ρ p.2))
    | none => False
  | _ => False
def Ctx.lit (C : Ctx) (w' : World) : Ctx := { C with w := w', im := fun b => C.im b ∨ b = C.w.heap.size }
theorem Ext.lit {C : Ctx} {w' : World} {o : Obj} (hw : w'.heap = C.w.heap.push o) (hs : SameIO C.w w') : Ext C (C.lit w') where
  dom _ h := h
  β _ _ := rfl
  len _ _ := Nat.le_refl _
  σ _ _ _ := rfl
  im _ h := .inl h
  old b hb _ := by show w'.heap[b]? = _; rw [hw]; exact heap_push_ne (by omega)
  imOld b hb h := h.elim .inl fun e => by omega
  ownOld _ _ h := h
  size := by show C.w.heap.size ≤ w'.heap.size; rw [hw]; simp
  shape b s h := by
    have : b ≠ C.w.heap.size := by
      intro e
      subst e
      simp [World.shape?] at h
    show w'.shape? b = _
    simp only [World.shape?] at h ⊢
    rw [hw, heap_push_ne this]; exact h
  same := hs
  hi := Nat.le_refl _
  fresh _ h := .inl h
theorem HRel.lit {C : Ctx} {H : Heap} {w' : World} {o : Obj} (hH : HRel C H) (hw : w'.heap = C.w.heap.push o) (hs : SameIO C.w w') : HRel (C.lit w') H where
  obj l o' hg hd := (hH.obj l o' hg hd).mono (Ext.lit hw hs) rfl rfl rfl fun b hb => by
    have := hH.lt b (hH.own l o' b hg hd hb)
    show w'.heap[b]? = _
    rw [hw]; exact heap_push_ne (by omega)
  own l o' b hg hd hb := hH.own l o' b hg hd (by cases o' <;> exact hb)
  inj l l' o' o'' b hg hg' hd hd' hb hb' := hH.inj l l' o' o'' b hg hg' hd hd' (by cases o' <;> exact hb) (by cases o'' <;> exact hb')
  lt b hb := by
    have := hH.lt b hb
    show b < w'.heap.size
    rw [hw]; simp; omega
  dom := hH.dom
  hi := hH.hi
theorem Mono.litPure {C : Ctx} {l n : Nat} {w' : World} : Mono (C.new l n w').pure (C.lit w').pure :=
  ⟨fun _ h => h.elim, fun _ h => h.elim, fun _ h => h.elim, fun _ h => h.elim, fun b hb => ⟨⟨.inl hb.1, fun ho => hb.2.1 (.inl ho), hb.2.2⟩, rfl⟩, fun _ _ h => h⟩
theorem evL_sound {C : Ctx} {e : Env} {H : Heap} {a : Act} {o : Oper} {k : AV → Prop} (hS : SRel C e H a C.w) (h : evL P (ope e) o.op k) :
    ∃ v x C', k v ∧ (execOp a.eval o).run P C.w = .ok (.value x) C'.w ∧ Ext C C' ∧ HRel C' H ∧ Rel C' v x ∧ C'.hi = C.hi ∧ ∀ l, C'.dom l → C.dom l := by
  have hH := hS.heap
  have hn0 : ¬ C.dom H.length := fun h => by have := hS.heap.dom _ h; omega
  have hown : ¬ C.own C.w.heap.size := fun h => by have := hH.lt _ h; omega
  have still : ∀ ob, (C.lit (C.w.alloc ob)).still C.w.heap.size := fun ob => ⟨.inr rfl, hown, by show _ < (C.w.heap.push ob).size; simp⟩
  unfold evL at h
  split at h <;> first | exact h.elim | skip
  · rename_i t n parts ho
    split at h <;> first | exact h.elim | skip
    rename_i sz hes
    obtain ⟨h1, h2, h3, h4, h5, h⟩ := h
    subst h2
    obtain ⟨v, obj, x, ob, m, ⟨rfl, rfl⟩, hrun, hlx, hrest⟩ := evA_sound' (P := P) (l := H.length) (k := fun v obj => v = .mslice sz H.length 0 parts.size ∧ obj = .row (elemTy P t) sz (parts.toList.map fun p => ope e p.2)) hS (by
      rw [ho]; simp only [evA, hes]; exact ⟨h1, trivial, h3, h4, h5, trivial, trivial⟩)
    have hE := Ext.new (n := m) (w' := C.w.alloc ob) hn0 hH.hi rfl ⟨rfl, rfl, rfl⟩
    obtain ⟨hv, hobj, hblk⟩ := hrest _ rfl hE
    obtain ⟨hlen, hob⟩ := hobj
    obtain ⟨_, _, a', cap, hxe, hcap, hx⟩ := hv
    refine ⟨_, _, C.lit (C.w.alloc ob), h, hrun, Ext.lit rfl ⟨rfl, rfl, rfl⟩, hH.lit rfl ⟨rfl, rfl, rfl⟩, ?_, rfl, fun _ h => h⟩
    rw [ho] at hlx
    obtain ⟨a2, hlx⟩ := hlx
    refine litV_rel (a := a2) ?_ (by simpa using hlx)
    refine ⟨a', cap, by simpa using hxe, by simpa using hcap, ?_⟩
    rcases hob with ⟨_, hemp⟩ | ⟨b, cs, fz, vs, hb, hh, hr, hrow, hsz, hfz⟩
    · exact .inl hemp
    · have hbs : b = C.w.heap.size := by
        rw [new_σ] at hb
        exact (Option.some.inj hb).symm
      rcases hx (by rw [new_len] at hlen ⊢; simpa using hlen.symm) with ⟨h6, _⟩ | ⟨b', e', m', h6, h7, _, _⟩
      · rw [hb] at h6; cases h6
      · rw [hb] at h6
        cases h6
        subst hbs
        right
        refine ⟨_, _, vs, h7, still ob, RelAll.mono' Mono.litPure _ _ hr, ?_⟩
        rw [Nat.zero_mul]; exact hrow
end
end Go.Sim
