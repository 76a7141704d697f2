/- Functions that change what they are handed, a contract in a small heap serves in a larger one, and what came in is read as abstract values. -/
import Derived.Test.YtnfaajgnecjkiaaGreatDoorSimE
import Derived.Below
import Derived.Sort.Grow
import Derived.Lib.ItoaNum
import Derived.Lib.LaidTab
import Derived.Deep.Draws
import Derived.Deep.Slices
import Derived.WideKeyArgs
import Derived.WalkKit
import Derived.ProofKit
import Derived.OpenShut
import Derived.JoinedCond
set_option linter.unusedVariables false
set_option linter.unusedSimpArgs false
namespace Go.Sim
theorem Sub.trans {n0 : Nat} {e e1 e2 : Env} {H H1 H2 : Heap} (h : Sub n0 e H e1 H1) (k : Sub n0 e1 H1 e2 H2) : Sub n0 e H e2 H2 := by
  intro C0 C a h0 hi0 hE hS
  obtain ⟨C1, hw1, hE1, hS1⟩ := h C0 C a h0 hi0 hE hS
  rw [← hw1] at hS1
  obtain ⟨C2, hw2, hE2, hS2⟩ := k C0 C1 a h0 hi0 hE1 hS1
  rw [hw1] at hw2 hS2
  exact ⟨C2, hw2, hE2, hS2⟩
/-- a slice without room is a row that is not there yet -/
theorem Sub.nilrow {n0 : Nat} {e : Env} {H : Heap} (t sz : Nat) (tg : TypeId) (h : e.get t = .nilslice ∨ e.get t = .zcap) : Sub n0 e H ((t, .mslice sz H.length 0 0) :: e) (H ++ [some (.row tg sz [])]) := by
  intro C0 C a h0 hi0 hE hS
  have hn0 : ¬ C.dom H.length := fun h => by have := hS.heap.dom _ h; omega
  have hE2 := Ext.unreal hn0 hS.heap.hi
  refine ⟨C.unreal H.length, rfl, hE.trans hE2, rfl, (hS.heap.list _).unreal Heap.get_push hn0 hS.heap.hi, fun u => ?_, hS.defers⟩
  simp only [Env.get]
  split
  · rename_i hu
    subst hu
    have h1 := hS.env t
    have h2 : ∃ x, a.tmps.getD t undef = .slice x 0 0 := by
      rcases h with h | h
      · rw [h] at h1; exact ⟨none, h1⟩
      · rw [h] at h1; exact h1
    obtain ⟨x, hx⟩ := h2
    rw [hx]
    exact ⟨.inr rfl, by show 0 + 0 ≤ (if H.length = H.length then 0 else C.len H.length); simp, x, 0, rfl, Nat.le_refl _, fun _ => .inl ⟨if_pos rfl, rfl, rfl⟩⟩
  · exact Rel.mono hE2 _ _ (hS.env u)
theorem HRel.below {C : Ctx} {H : Heap} {k hh : Nat} (hHr : HRel C H) (hl : k ≤ H.length) (hk : hh ≤ k) (ho : (H.take k).all (objLt k) = true) : HRel (C.below k hh) (H.take k) := by
  have hg : ∀ l o, Heap.get (H.take k) l = some o → Heap.get H l = some o ∧ l < k := by
    intro l o hl
    simp only [Heap.get, List.getElem?_take] at hl ⊢
    split at hl
    · exact ⟨hl, by assumption⟩
    · cases hl
  have hobj : ∀ l o, Heap.get (H.take k) l = some o → objLt k (some o) = true := by
    intro l o hl
    have h1 : (some o) ∈ H.take k := by
      simp only [Heap.get] at hl
      cases h2 : (H.take k)[l]? with
      | none => rw [h2] at hl; cases hl
      | some u => rw [h2] at hl; simp at hl; subst hl; exact List.mem_of_getElem? h2
    exact List.all_eq_true.1 ho _ h1
  refine ⟨?_, ?_, ?_, hHr.lt, ?_, by rw [List.length_take]; show hh ≤ _; omega⟩
  · intro l o hgl hd
    have h1 := hHr.obj l o (hg l o hgl).1 hd.1
    have h2 := hobj l o hgl
    cases o with
    | box t cs => obtain ⟨vs, h3, h4⟩ := h1; exact ⟨vs, h3, RelAll.below cs _ h2 h4⟩
    | row t sz xs => exact h1
    | map ks vs =>
      simp only [objLt, Bool.and_eq_true] at h2
      obtain ⟨es, c, h3, h4, h5⟩ := h1
      exact ⟨es, c, h3, RelAll.below ks _ h2.1 h4, RelAll.below vs _ h2.2 h5⟩
    | siter s p => exact h1
  · intro l o b hgl hd hb; exact hHr.own l o b (hg l o hgl).1 hd.1 (by cases o <;> exact hb)
  · intro l l' o o' b hgl hgl' hd hd' hb hb'
    exact hHr.inj l l' o o' b (hg l o hgl).1 (hg l' o' hgl').1 hd.1 hd'.1 (by cases o <;> exact hb) (by cases o' <;> exact hb')
  · intro l hd
    rw [List.length_take]
    have := hHr.dom l hd.1
    have := hd.2
    omega
theorem Ext.below {C0 C : Ctx} {k n0 : Nat} (hE : Ext C0 C) (h0 : ∀ l, C0.dom l → l < n0) (hk : n0 ≤ k) : Ext C0 (C.below k C0.hi) where
  dom l hl := ⟨hE.dom l hl, Nat.lt_of_lt_of_le (h0 l hl) hk⟩
  β := hE.β
  len := hE.len
  σ := hE.σ
  im := hE.im
  old := hE.old
  imOld := hE.imOld
  ownOld := hE.ownOld
  size := hE.size
  shape := hE.shape
  same := hE.same
  hi := Nat.le_refl _
  fresh l hl := hE.fresh l hl.1
/-- At a function's end its own objects are forgotten. -/
theorem View.trunc {n0 : Nat} {v : AV} {H : Heap} (hl : n0 ≤ H.length) (hv : v.lt n0 = true) (ho : (H.take n0).all (objLt n0) = true) : View n0 v H v (H.take n0) := by
  intro C0 C x h0 hi0 hE hH hr
  exact ⟨C.below n0 C0.hi, rfl, hE.below h0 (Nat.le_refl _), hH.below hl hi0 ho, Rel.below _ _ hv hr⟩
/-! functions that change what they are handed -/
def retK (n0 : Nat) (Q : AEnd → Heap → Prop) (v : AV) (H : Heap) : Prop := ∃ v' H', View n0 v H v' H' ∧ Q (.ret v') H'
def panK (n0 : Nat) (Q : AEnd → Heap → Prop) (v : AV) (H : Heap) : Prop := ∃ v' H', View n0 v H v' H' ∧ Q (.panic v') H'
def endQ (P : Program) (n0 : Nat) (rs : List ResultVar) (Q : AEnd → Heap → Prop) : AX → Env → Heap → Prop
  | .normal, e, H | .ret, e, H => resAll P e H rs fun vs => retK n0 Q (oneOr vs) H
  | .panic v, e, H => panK n0 Q v H
  | _, _, _ => False
section
variable {P : Program} {O : LitO} {n0 : Nat} {e : Env} {H : Heap}
theorem ACalls.start {f : FuncId} {fn : Func} {c : Code} {rs : List ResultVar} {args : List AV} {Q : AEnd → Heap → Prop} (hf : P.funcs[f]? = some fn) (hb : fn.body = some c) (hr : fn.results.toList = rs)
    (hname : (fn.name != "runtime.NumGoroutine") = true) (hsz : args.length ≤ fn.ntmps) (hok : codeOk fn.ntmps c = true) (O : LitO) (h : Run (awp P O H.length c (endQ P H.length rs Q) (entryEnv 0 args) H) .mk) : ACalls P f args H Q := by
  refine ACalls.intro hf hb hr hname hsz hok (Qc := endQ P H.length rs Q) (fun x e H' hq => ?_) h
  cases x <;> exact hq
@[go_sem ↓] theorem q_end_ret {rs : List ResultVar} {Q : AEnd → Heap → Prop} {z} : Run (endQ P n0 rs Q .ret e H) z = Run (resAll P e H rs fun vs => Bind (oneOr vs) (fun v => Run (retK n0 Q v H) .mk) .mk) .mk := rfl
@[go_sem ↓] theorem q_end_normal {rs : List ResultVar} {Q : AEnd → Heap → Prop} {z} : Run (endQ P n0 rs Q .normal e H) z = Run (resAll P e H rs fun vs => Bind (oneOr vs) (fun v => Run (retK n0 Q v H) .mk) .mk) .mk := rfl
@[go_sem ↓] theorem q_end_panic {rs : List ResultVar} {Q : AEnd → Heap → Prop} {v : AV} {z} : Run (endQ P n0 rs Q (.panic v) e H) z = Run (panK n0 Q v H) .mk := rfl
theorem end_trunc {Q : AEnd → Heap → Prop} {v : AV} {z} (hl : n0 ≤ H.length) (hv : v.lt n0 = true) (ho : (H.take n0).all (objLt n0) = true) (h : Q (.ret v) (H.take n0)) : Run (retK n0 Q v H) z := ⟨v, _, View.trunc hl hv ho, h⟩
theorem end_same {Q : AEnd → Heap → Prop} {v : AV} {z} (h : Q (.ret v) H) : Run (retK n0 Q v H) z := ⟨v, _, View.refl n0 v H, h⟩
/-- a call by its contract in this very heap -/
theorem use_acalls {f : FuncId} {as : List AV} {Q : AEnd → Heap → Prop} {K Kp : AV → Heap → Prop} {z} (h : ACalls P f as H Q) (hk : ∀ r H', Q r H' → onEnd K Kp r H') : Run (CallG P f as H (onEnd K Kp)) z := .inl (h.mono hk)
end
end Go.Sim

namespace Go.Sim
/-! ### a contract in a small heap serves in a larger one -/
mutual
def AV.ren (ρ : Nat → Nat) : AV → AV
  | .ptr l o => .ptr (ρ l) o
  | .mslice sz l i n => .mslice sz (ρ l) i n
  | .meptr sz l ver i off => .meptr sz (ρ l) ver i off
  | .map l => .map (ρ l)
  | .func fn f c => .func fn (renAll ρ f) (renAll ρ c)
  | .iface t v => .iface t (v.ren ρ)
  | .agg cs => .agg (renAll ρ cs)
  | .tuple cs => .tuple (renAll ρ cs)
  | .any => .any
  | .bool b => .bool b
  | .int k n => .int k n
  | .str s => .str s
  | .nilp => .nilp
  | .cptr cs o => .cptr cs o
  | .nilslice => .nilslice
  | .zcap => .zcap
  | .slice sz xs => .slice sz xs
  | .nilmap => .nilmap
  | .cmap ks vs => .cmap ks vs
  | .nilfunc => .nilfunc
  | .niliface => .niliface
def renAll (ρ : Nat → Nat) : List AV → List AV
  | [] => []
  | v :: vs => v.ren ρ :: renAll ρ vs
end
def AObj.ren (ρ : Nat → Nat) : AObj → AObj
  | .box t cs => .box t (renAll ρ cs)
  | .map ks vs => .map (renAll ρ ks) (renAll ρ vs)
  | .row t sz xs => .row t sz xs
  | .siter s p => .siter s p
structure RenMono (ρ : Nat → Nat) (C C' : Ctx) : Prop where
  at_ : ∀ l, C.dom l → C'.dom (ρ l) ∧ C'.β (ρ l) = C.β l ∧ C'.len (ρ l) = C.len l ∧ C'.σ (ρ l) = C.σ l
  still : ∀ b, C.still b → C'.still b ∧ C'.w.heap[b]? = C.w.heap[b]?
  shape : ∀ b s, C.w.shape? b = some s → C'.w.shape? b = some s
theorem RenMono.pure {ρ : Nat → Nat} {C C' : Ctx} (h : RenMono ρ C C') : Mono C.pure C'.pure := ⟨fun _ h => h, fun _ h => h.elim, fun _ h => h.elim, fun _ h => h.elim, h.still, h.shape⟩
mutual
theorem Rel.ren {ρ : Nat → Nat} {C C' : Ctx} (M : RenMono ρ C C') : ∀ (v : AV) (x : Value), Rel C v x → Rel C' (v.ren ρ) x
  | .any, _, _ => trivial
  | .bool _, _, r => r
  | .int _ _, _, r => r
  | .str _, _, r => r
  | .nilp, _, r => r
  | .ptr l off, x, r => by
    obtain ⟨hl, rfl⟩ := r
    obtain ⟨h1, h2, _⟩ := M.at_ l hl
    exact ⟨h1, by rw [h2]⟩
  | .cptr cs off, x, r => by
    obtain ⟨b, o, vs, rfl, hs, hr, hc⟩ := r
    exact ⟨b, o, vs, rfl, (M.still b hs).1, RelAll.mono' M.pure cs vs hr, hc.of_heap (M.still b hs).2⟩
  | .nilslice, _, r => r
  | .zcap, _, r => r
  | .slice sz xs, x, r => by
    obtain ⟨a, cap, rfl, hl, hx⟩ := r
    refine ⟨a, cap, rfl, hl, ?_⟩
    rcases hx with hx | ⟨b, o, vs, ha, hs, hr, hc⟩
    · exact .inl hx
    · exact .inr ⟨b, o, vs, ha, (M.still b hs).1, RelAll.mono' M.pure xs vs hr, hc.of_heap (M.still b hs).2⟩
  | .mslice sz l i n, x, r => by
    obtain ⟨hl, hle, a, cap, rfl, hn, hx⟩ := r
    obtain ⟨h1, h2, h3, h4⟩ := M.at_ l hl
    refine ⟨h1, by rw [h3]; exact hle, a, cap, rfl, hn, fun e => ?_⟩
    rcases hx (by rw [h3] at e; exact e) with ⟨h5, h6⟩ | ⟨b, e, m, h5, h6, h7, h8⟩
    · exact .inl ⟨h4.trans h5, h6⟩
    · exact .inr ⟨b, e, m, h4.trans h5, h6, M.shape _ _ h7, h8⟩
  | .meptr sz l ver i off, x, r => by
    obtain ⟨hl, hle, b, o, rfl, hx⟩ := r
    obtain ⟨h1, h2, h3, h4⟩ := M.at_ l hl
    refine ⟨h1, by rw [h3]; exact hle, b, o, rfl, fun e => ?_⟩
    obtain ⟨h5, h6⟩ := hx (by rw [h3] at e; exact e)
    exact ⟨h4.trans h5, h6⟩
  | .nilmap, _, r => r
  | .map l, x, r => by
    obtain ⟨hl, rfl⟩ := r
    obtain ⟨h1, h2, _⟩ := M.at_ l hl
    exact ⟨h1, by rw [h2]⟩
  | .cmap ks vs, x, r => by
    obtain ⟨b, es, clock, rfl, hs, hh, hk, hv⟩ := r
    exact ⟨b, es, clock, rfl, (M.still b hs).1, (M.still b hs).2.trans hh, RelAll.mono' M.pure ks _ hk, RelAll.mono' M.pure vs _ hv⟩
  | .func fn first cap, x, r => by
    obtain ⟨f, c, rfl, h1, h2⟩ := r
    exact ⟨f, c, rfl, RelAll.ren M first _ h1, RelAll.ren M cap _ h2⟩
  | .nilfunc, _, r => r
  | .iface t v, x, r => by
    obtain ⟨y, rfl, h1⟩ := r
    exact ⟨y, rfl, Rel.ren M v y h1⟩
  | .niliface, _, r => r
  | .agg cs, x, r => by
    obtain ⟨vs, rfl, h1⟩ := r
    exact ⟨vs, rfl, RelAll.ren M cs _ h1⟩
  | .tuple cs, x, r => by
    obtain ⟨vs, rfl, h1⟩ := r
    exact ⟨vs, rfl, RelAll.ren M cs _ h1⟩
theorem RelAll.ren {ρ : Nat → Nat} {C C' : Ctx} (M : RenMono ρ C C') : ∀ (vs : List AV) (xs : List Value), RelAll C vs xs → RelAll C' (renAll ρ vs) xs
  | [], _, r => r
  | v :: vs, xs, r => by
    obtain ⟨y, ys, rfl, h1, h2⟩ := r
    exact ⟨y, ys, rfl, Rel.ren M v y h1, RelAll.ren M vs ys h2⟩
end
theorem ORel.ren {ρ : Nat → Nat} {C C' : Ctx} (M : RenMono ρ C C') {l : Nat} {o : AObj} (hd : C.dom l) (hb : ∀ b, blockOf C l o = some b → C'.w.heap[b]? = C.w.heap[b]?) (h : ORel C l o) : ORel C' (ρ l) (o.ren ρ) := by
  obtain ⟨h1, h2, h3, h4⟩ := M.at_ l hd
  cases o with
  | box t cs =>
    obtain ⟨vs, h5, h6⟩ := h
    exact ⟨vs, by rw [h2, hb _ rfl]; exact h5, RelAll.ren M _ _ h6⟩
  | row t sz xs =>
    obtain ⟨h5, h6⟩ := h
    refine ⟨h3.trans h5, ?_⟩
    rcases h6 with ⟨h6, h7⟩ | ⟨b, cs, fz, vs, h6, h7, h8, h9, h10, h11⟩
    · exact .inl ⟨h4.trans h6, h7⟩
    · have hbb := hb b h6
      refine .inr ⟨b, cs, fz, vs, h4.trans h6, hbb.trans h7, RelAll.mono' M.pure _ _ h8, h9.of_heap hbb, h10, fun o ho => ?_⟩
      have := h11 o ho
      simp only [World.frozen?, hbb] at this ⊢
      exact this
  | map ks vs =>
    obtain ⟨es, c, h5, h6, h7⟩ := h
    exact ⟨es, c, by rw [h2, hb _ rfl]; exact h5, RelAll.ren M _ _ h6, RelAll.ren M _ _ h7⟩
  | siter s p => show _ = _; rw [h2, hb _ rfl]; exact h
theorem blockOf_ren {ρ : Nat → Nat} {C C' : Ctx} (M : RenMono ρ C C') {l : Nat} {o : AObj} (hd : C.dom l) : blockOf C' (ρ l) (o.ren ρ) = blockOf C l o := by
  obtain ⟨h1, h2, h3, h4⟩ := M.at_ l hd
  cases o <;> simp only [blockOf, AObj.ren, h2, h4]
/-- the context of the callee: it knows of the small heap alone -/
structure Enter (ρ : Nat → Nat) (k : Nat) (C C1 : Ctx) : Prop where
  dom : ∀ l, C1.dom l ↔ l < k ∧ C.dom (ρ l)
  β : ∀ l, C1.β l = C.β (ρ l)
  σ : ∀ l, C1.σ l = C.σ (ρ l)
  len : ∀ l, C1.len l = C.len (ρ l)
  still : ∀ b, C.still b → C1.still b
  w : C1.w = C.w
theorem Enter.pure {ρ : Nat → Nat} {k : Nat} {C C1 : Ctx} (h : Enter ρ k C C1) : Mono C.pure C1.pure :=
  ⟨fun _ h => h, fun _ h => h.elim, fun _ h => h.elim, fun _ h => h.elim, fun b hb => ⟨h.still b hb, by show C1.w.heap[b]? = _; rw [h.w]; rfl⟩, fun b s hs => by show C1.w.shape? b = _; rw [h.w]; exact hs⟩
mutual
theorem Rel.enter {ρ : Nat → Nat} {k : Nat} {C C1 : Ctx} (M : Enter ρ k C C1) : ∀ (v : AV) (x : Value), v.lt k = true → Rel C (v.ren ρ) x → Rel C1 v x
  | .any, _, _, _ => trivial
  | .bool _, _, _, r => r
  | .int _ _, _, _, r => r
  | .str _, _, _, r => r
  | .nilp, _, _, r => r
  | .ptr l off, x, hk, r => by
    obtain ⟨hl, rfl⟩ := r
    exact ⟨(M.dom l).2 ⟨of_decide_eq_true hk, hl⟩, by rw [M.β]⟩
  | .cptr cs off, x, _, r => by
    obtain ⟨b, o, vs, rfl, hs, hr, hc⟩ := r
    exact ⟨b, o, vs, rfl, M.still b hs, RelAll.mono' M.pure cs vs hr, by rw [M.w]; exact hc⟩
  | .nilslice, _, _, r => r
  | .zcap, _, _, r => r
  | .slice sz xs, x, _, r => by
    obtain ⟨a, cap, rfl, hl, hx⟩ := r
    refine ⟨a, cap, rfl, hl, ?_⟩
    rcases hx with hx | ⟨b, o, vs, ha, hs, hr, hc⟩
    · exact .inl hx
    · exact .inr ⟨b, o, vs, ha, M.still b hs, RelAll.mono' M.pure xs vs hr, by rw [M.w]; exact hc⟩
  | .mslice sz l i n, x, hk, r => by
    obtain ⟨hl, hle, a, cap, rfl, hn, hx⟩ := r
    refine ⟨(M.dom l).2 ⟨of_decide_eq_true hk, hl⟩, by rw [M.len]; exact hle, a, cap, rfl, hn, fun e => ?_⟩
    rw [M.σ, M.w]
    exact hx (by rw [M.len] at e; exact e)
  | .meptr sz l ver i off, x, hk, r => by
    obtain ⟨hl, hle, b, o, rfl, hx⟩ := r
    refine ⟨(M.dom l).2 ⟨of_decide_eq_true hk, hl⟩, by rw [M.len]; exact hle, b, o, rfl, fun e => ?_⟩
    rw [M.σ]
    exact hx (by rw [M.len] at e; exact e)
  | .nilmap, _, _, r => r
  | .map l, x, hk, r => by
    obtain ⟨hl, rfl⟩ := r
    exact ⟨(M.dom l).2 ⟨of_decide_eq_true hk, hl⟩, by rw [M.β]⟩
  | .cmap ks vs, x, _, r => by
    obtain ⟨b, es, clock, rfl, hs, hh, hk, hv⟩ := r
    exact ⟨b, es, clock, rfl, M.still b hs, by rw [M.w]; exact hh, RelAll.mono' M.pure ks _ hk, RelAll.mono' M.pure vs _ hv⟩
  | .func fn first cap, x, hk, r => by
    simp only [AV.lt, Bool.and_eq_true] at hk
    obtain ⟨f, c, rfl, h1, h2⟩ := r
    exact ⟨f, c, rfl, RelAll.enter M first _ hk.1 h1, RelAll.enter M cap _ hk.2 h2⟩
  | .nilfunc, _, _, r => r
  | .iface t v, x, hk, r => by
    obtain ⟨y, rfl, h1⟩ := r
    exact ⟨y, rfl, Rel.enter M v y hk h1⟩
  | .niliface, _, _, r => r
  | .agg cs, x, hk, r => by
    obtain ⟨vs, rfl, h1⟩ := r
    exact ⟨vs, rfl, RelAll.enter M cs _ hk h1⟩
  | .tuple cs, x, hk, r => by
    obtain ⟨vs, rfl, h1⟩ := r
    exact ⟨vs, rfl, RelAll.enter M cs _ hk h1⟩
theorem RelAll.enter {ρ : Nat → Nat} {k : Nat} {C C1 : Ctx} (M : Enter ρ k C C1) : ∀ (vs : List AV) (xs : List Value), AV.ltAll k vs = true → RelAll C (renAll ρ vs) xs → RelAll C1 vs xs
  | [], _, _, r => r
  | v :: vs, xs, hk, r => by
    simp only [AV.ltAll, Bool.and_eq_true] at hk
    obtain ⟨y, ys, rfl, h1, h2⟩ := r
    exact ⟨y, ys, rfl, Rel.enter M v y hk.1 h1, RelAll.enter M vs ys hk.2 h2⟩
end
theorem ORel.enter {ρ : Nat → Nat} {k : Nat} {C C1 : Ctx} (M : Enter ρ k C C1) {l : Nat} {o : AObj} (hk : objLt k (some o) = true) (h : ORel C (ρ l) (o.ren ρ)) : ORel C1 l o := by
  cases o with
  | box t cs =>
    obtain ⟨vs, h5, h6⟩ := h
    exact ⟨vs, by rw [M.β, M.w]; exact h5, RelAll.enter M _ _ hk h6⟩
  | row t sz xs =>
    obtain ⟨h5, h6⟩ := h
    refine ⟨by rw [M.len]; exact h5, ?_⟩
    rcases h6 with ⟨h6, h7⟩ | ⟨b, cs, fz, vs, h6, h7, h8, h9, h10, h11⟩
    · exact .inl ⟨by rw [M.σ]; exact h6, h7⟩
    · exact .inr ⟨b, cs, fz, vs, by rw [M.σ]; exact h6, by rw [M.w]; exact h7, RelAll.mono' M.pure _ _ h8, by rw [M.w]; exact h9, h10, by rw [M.w]; exact h11⟩
  | map ks vs =>
    simp only [objLt, Bool.and_eq_true] at hk
    obtain ⟨es, c, h5, h6, h7⟩ := h
    exact ⟨es, c, by rw [M.β, M.w]; exact h5, RelAll.enter M _ _ hk.1 h6, RelAll.enter M _ _ hk.2 h7⟩
  | siter s p => show _ = _; rw [M.β, M.w]; exact h
end Go.Sim

namespace Go.Sim
/-- where the small heap's objects lie in the large one -/
def mapL (π : List Nat) (n l : Nat) : Nat := if l < π.length then π.getD l 0 else n + (l - π.length)
theorem mapL_inj {π : List Nat} {n : Nat} (hnd : π.Nodup) (hlt : ∀ p ∈ π, p < n) {l l' : Nat} (h : mapL π n l = mapL π n l') : l = l' := by
  have mem : ∀ i, i < π.length → π.getD i 0 ∈ π := fun i hi => by
    rw [List.getD_eq_getElem?_getD, List.getElem?_eq_getElem hi]; exact List.getElem_mem _
  unfold mapL at h
  by_cases h1 : l < π.length <;> by_cases h2 : l' < π.length
  · rw [if_pos h1, if_pos h2, List.getD_eq_getElem?_getD, List.getD_eq_getElem?_getD, List.getElem?_eq_getElem h1, List.getElem?_eq_getElem h2] at h
    exact (List.getElem_inj hnd).1 h
  · rw [if_pos h1, if_neg h2] at h
    have := hlt _ (mem l h1); omega
  · rw [if_neg h1, if_pos h2] at h
    have := hlt _ (mem l' h2); omega
  · rw [if_neg h1, if_neg h2] at h; omega
def setS : Heap → List Nat → Heap → Heap
  | H, p :: π, o :: os => setS (H.set p o) π os
  | H, _, _ => H
/-- the large heap behind -/
def merge (H : Heap) (π : List Nat) (ρ : Nat → Nat) (Hs : Heap) : Heap :=
  setS H π (Hs.map (Option.map (AObj.ren ρ))) ++ (Hs.drop π.length).map (Option.map (AObj.ren ρ))
theorem setS_length : ∀ (π : List Nat) (H os : Heap), (setS H π os).length = H.length
  | [], H, os => by simp [setS]
  | p :: π, H, [] => by simp [setS]
  | p :: π, H, o :: os => by simp [setS, setS_length π]
theorem setS_ne : ∀ (π : List Nat) (H os : Heap) (m : Nat), m ∉ π → (setS H π os)[m]? = H[m]?
  | [], H, os, m, _ => by simp [setS]
  | p :: π, H, [], m, _ => by simp [setS]
  | p :: π, H, o :: os, m, h => by
    simp only [List.mem_cons, not_or] at h
    rw [setS, setS_ne π _ _ m h.2, List.getElem?_set_ne (Ne.symm h.1)]
theorem setS_at : ∀ (π : List Nat) (H os : Heap) (l p : Nat), π.Nodup → (∀ p ∈ π, p < H.length) → π[l]? = some p → l < os.length → (setS H π os)[p]? = os[l]?
  | [], H, os, l, p, _, _, h, _ => by simp at h
  | q :: π, H, [], l, p, _, _, _, h => by simp at h
  | q :: π, H, o :: os, 0, p, hn, hl, h, _ => by
    simp only [List.getElem?_cons_zero, Option.some.injEq] at h
    subst h
    have hq := (List.nodup_cons.1 hn).1
    rw [setS, setS_ne π _ _ _ hq, List.getElem?_set_self (hl q (by simp))]; simp
  | q :: π, H, o :: os, l + 1, p, hn, hl, h, hlt => by
    simp only [List.getElem?_cons_succ] at h ⊢
    rw [setS]
    exact setS_at π _ os l p (List.nodup_cons.1 hn).2 (fun x hx => by rw [List.length_set]; exact hl x (by simp [hx])) h (by simpa using hlt)
theorem merge_length {H Hs : Heap} {π : List Nat} {ρ : Nat → Nat} : (merge H π ρ Hs).length = H.length + (Hs.length - π.length) := by simp [merge, setS_length]
theorem merge_ne {H Hs : Heap} {π : List Nat} {ρ : Nat → Nat} {m : Nat} (hm : m < H.length) (h : m ∉ π) : Heap.get (merge H π ρ Hs) m = H.get m := by
  simp only [Heap.get, merge]
  rw [List.getElem?_append_left (by rw [setS_length]; exact hm), setS_ne _ _ _ _ h]
theorem merge_at {H Hs : Heap} {π : List Nat} {ρ : Nat → Nat} {l : Nat} (hn : π.Nodup) (hlt : ∀ p ∈ π, p < H.length) (hk : π.length ≤ Hs.length) (hl : l < Hs.length) : Heap.get (merge H π ρ Hs) (mapL π H.length l) = (Hs.get l).map (AObj.ren ρ) := by
  have fin : ∀ x : Option (Option AObj), (x.map (Option.map (AObj.ren ρ))).join = x.join.map (AObj.ren ρ) := by
    intro x; cases x with
    | none => rfl
    | some y => rfl
  simp only [Heap.get, merge, mapL]
  by_cases h1 : l < π.length
  · rw [if_pos h1]
    have hp : π[l]? = some (π.getD l 0) := by rw [List.getD_eq_getElem?_getD, List.getElem?_eq_getElem h1]; rfl
    have hmem : π.getD l 0 ∈ π := List.mem_of_getElem? hp
    rw [List.getElem?_append_left (by rw [setS_length]; exact hlt _ hmem), setS_at π H _ l _ hn hlt hp (by simpa using hl), List.getElem?_map]
    exact fin _
  · rw [if_neg h1, List.getElem?_append_right (by rw [setS_length]; omega), setS_length, List.getElem?_map, List.getElem?_drop]
    rw [show π.length + (H.length + (l - π.length) - H.length) = l from by omega]
    exact fin _
def AEnd.ren (ρ : Nat → Nat) : AEnd → AEnd
  | .ret v => .ret (v.ren ρ)
  | .panic v => .panic (v.ren ρ)
open Classical in
noncomputable def Ctx.leave (C C1 : Ctx) (ρ : Nat → Nat) (own1 : Nat → Prop) : Ctx where
  dom m := C.dom m ∨ ∃ l, C1.dom l ∧ ρ l = m
  β m := if h : ∃ l, C1.dom l ∧ ρ l = m then C1.β (Classical.choose h) else C.β m
  σ m := if h : ∃ l, C1.dom l ∧ ρ l = m then C1.σ (Classical.choose h) else C.σ m
  len m := if h : ∃ l, C1.dom l ∧ ρ l = m then C1.len (Classical.choose h) else C.len m
  own b := (C.own b ∧ ¬ own1 b) ∨ C1.own b
  im b := C.im b ∨ C1.still b
  hi := C.hi
  w := C1.w
open Classical in
theorem leave_at {C C1 : Ctx} {ρ : Nat → Nat} {own1 : Nat → Prop} (hinj : ∀ l l', ρ l = ρ l' → l = l') {l : Nat} (hl : C1.dom l) :
    (C.leave C1 ρ own1).β (ρ l) = C1.β l ∧ (C.leave C1 ρ own1).σ (ρ l) = C1.σ l ∧ (C.leave C1 ρ own1).len (ρ l) = C1.len l := by
  have h : ∃ l', C1.dom l' ∧ ρ l' = ρ l := ⟨l, hl, rfl⟩
  have e : Classical.choose h = l := hinj _ _ (Classical.choose_spec h).2
  refine ⟨?_, ?_, ?_⟩
  · show (if h : _ then _ else _) = _; rw [dif_pos h, e]
  · show (if h : _ then _ else _) = _; rw [dif_pos h, e]
  · show (if h : _ then _ else _) = _; rw [dif_pos h, e]
open Classical in
theorem leave_ne {C C1 : Ctx} {ρ : Nat → Nat} {own1 : Nat → Prop} {m : Nat} (hm : ¬ ∃ l, C1.dom l ∧ ρ l = m) :
    (C.leave C1 ρ own1).β m = C.β m ∧ (C.leave C1 ρ own1).σ m = C.σ m ∧ (C.leave C1 ρ own1).len m = C.len m := by
  refine ⟨?_, ?_, ?_⟩
  · show (if h : _ then _ else _) = _; rw [dif_neg hm]
  · show (if h : _ then _ else _) = _; rw [dif_neg hm]
  · show (if h : _ then _ else _) = _; rw [dif_neg hm]
theorem ACalls.frame {P : Program} {f : FuncId} {args : List AV} {Hs H : Heap} {Q : AEnd → Heap → Prop} {π : List Nat} (h : ACalls P f args Hs Q) (hnd : π.Nodup) (hlen : π.length = Hs.length) (hlt : ∀ p ∈ π, p < H.length)
    (hargs : AV.ltAll Hs.length args = true) (hobj : ∀ l o, Hs.get l = some o → objLt Hs.length (some o) = true ∧ H.get (mapL π H.length l) = some (o.ren (mapL π H.length))) :
    ACalls P f (renAll (mapL π H.length) args) H fun r H' => ∃ r0 Hs', Q r0 Hs' ∧ r = r0.ren (mapL π H.length) ∧ H' = merge H π (mapL π H.length) Hs' := by
  refine ⟨h.1, fun C vs hL hH hr => ?_⟩
  generalize hρ : mapL π H.length = ρ at *
  have hinj : ∀ l l', ρ l = ρ l' → l = l' := fun l l' e => by rw [← hρ] at e; exact mapL_inj hnd hlt e
  have hnew : ∀ l, Hs.length ≤ l → H.length ≤ ρ l := fun l hl => by rw [← hρ]; unfold mapL; rw [if_neg (by omega)]; omega
  let own1 : Nat → Prop := fun b => ∃ l o, Hs.get l = some o ∧ C.dom (ρ l) ∧ blockOf C (ρ l) (o.ren ρ) = some b
  let C1 : Ctx := { dom := fun l => l < Hs.length ∧ C.dom (ρ l), β := fun l => C.β (ρ l), σ := fun l => C.σ (ρ l), len := fun l => C.len (ρ l), own := own1, im := fun b => C.im b ∧ ¬ C.own b, hi := Hs.length, w := C.w }
  have hown1 : ∀ b, own1 b → C.own b := fun b ⟨l, o, hg, hd, hb⟩ => hH.own _ _ b (hobj l o hg).2 hd hb
  have hEn : Enter ρ Hs.length C C1 := ⟨fun l => Iff.rfl, fun l => rfl, fun l => rfl, fun l => rfl, fun b hb => ⟨⟨hb.1, hb.2.1⟩, fun k => hb.2.1 (hown1 b k), hb.2.2⟩, rfl⟩
  have hblk : ∀ l o, blockOf C1 l o = blockOf C (ρ l) (o.ren ρ) := fun l o => by cases o <;> rfl
  have hH1 : HRel C1 Hs := {
    obj := fun l o hg hd => ORel.enter hEn (hobj l o hg).1 (hH.obj _ _ (hobj l o hg).2 hd.2)
    own := fun l o b hg hd hb => ⟨l, o, hg, hd.2, by rw [← hblk]; exact hb⟩
    inj := fun l l' o o' b hg hg' hd hd' hb hb' => hinj _ _ (hH.inj _ _ _ _ b (hobj l o hg).2 (hobj l' o' hg').2 hd.2 hd'.2 (by rw [← hblk]; exact hb) (by rw [← hblk]; exact hb'))
    lt := fun b hb => hH.lt b (hown1 b hb)
    dom := fun l hl => hl.1
    hi := Nat.le_refl _ }
  refine (h.2 C1 vs (hL.mono fun b hb => ⟨hEn.still b hb, rfl⟩) hH1 (RelAll.enter hEn _ _ hargs hr)).mono ?_
  rintro e w' ⟨r0, D, Hs', hQ, hw, hE, hD, hre⟩
  subst hw
  have hkl : Hs.length ≤ Hs'.length := Nat.le_trans hE.hi hD.hi
  -- what the callee knows lies within the small heap, or is new
  have hDdom : ∀ l, D.dom l → (l < Hs.length ∧ C.dom (ρ l)) ∨ Hs.length ≤ l := fun l hl => hE.fresh l hl
  have hstill : ∀ b, D.still b → ¬ ((C.own b ∧ ¬ own1 b) ∨ D.own b) := by
    rintro b hb (⟨h1, h2⟩ | h1)
    · rcases hE.imOld b (hH.lt b h1) hb.1 with h3 | h3
      · exact h3.2 h1
      · exact h2 h3
    · exact hb.2.1 h1
  let C2 := C.leave D ρ own1
  have hM : RenMono ρ D C2 := {
    at_ := fun l hl => ⟨.inr ⟨l, hl, rfl⟩, (leave_at hinj hl).1, (leave_at hinj hl).2.2, (leave_at hinj hl).2.1⟩
    still := fun b hb => ⟨⟨.inr hb, hstill b hb, hb.2.2⟩, rfl⟩
    shape := fun _ _ h => h }
  have himg : ∀ m, C.dom m → (∃ l, D.dom l ∧ ρ l = m) → ∃ l, D.dom l ∧ ρ l = m ∧ C1.dom l := by
    rintro m hm ⟨l, hl, rfl⟩
    refine ⟨l, hl, rfl, ?_⟩
    rcases hDdom l hl with h1 | h1
    · exact h1
    · have := hH.dom _ hm; have := hnew l h1; omega
  have hE2 : Ext C C2 := {
    dom := fun m hm => .inl hm
    β := fun m hm => by
      by_cases hi : ∃ l, D.dom l ∧ ρ l = m
      · obtain ⟨l, hl, rfl, h1⟩ := himg m hm hi
        exact (leave_at hinj hl).1.trans (hE.β l h1)
      · exact (leave_ne hi).1
    len := fun m hm => by
      by_cases hi : ∃ l, D.dom l ∧ ρ l = m
      · obtain ⟨l, hl, rfl, h1⟩ := himg m hm hi
        show C.len (ρ l) ≤ (C.leave D ρ own1).len (ρ l)
        rw [(leave_at hinj hl).2.2]; exact hE.len l h1
      · show C.len m ≤ (C.leave D ρ own1).len m
        rw [(leave_ne hi).2.2]; exact Nat.le_refl _
    σ := fun m hm hl' => by
      by_cases hi : ∃ l, D.dom l ∧ ρ l = m
      · obtain ⟨l, hl, rfl, h1⟩ := himg m hm hi
        rw [(leave_at hinj hl).2.2] at hl'
        exact (leave_at hinj hl).2.1.trans (hE.σ l h1 hl')
      · exact (leave_ne hi).2.1
    im := fun _ h => .inl h
    old := fun b hb ho => hE.old b hb fun k => ho (hown1 b k)
    imOld := fun b hb hi => by
      rcases hi with hi | hi
      · exact .inl hi
      · rcases hE.imOld b hb hi.1 with h1 | h1
        · exact .inl h1.1
        · exact .inr (hown1 b h1)
    ownOld := fun b hb ho => by
      rcases ho with ho | ho
      · exact ho.1
      · exact hown1 b (hE.ownOld b hb ho)
    size := hE.size
    shape := hE.shape
    same := hE.same
    hi := Nat.le_refl _
    fresh := fun m hm => by
      rcases hm with hm | ⟨l, hl, rfl⟩
      · exact .inl hm
      · rcases hDdom l hl with h1 | h1
        · exact .inl h1.2
        · have := hnew l h1; have := hH.hi; exact .inr (by omega) }
  -- the large heap's objects: those of the callee, and the others
  have hcase : ∀ m, C2.dom m → (∃ l, D.dom l ∧ ρ l = m) ∨ (C.dom m ∧ (¬ ∃ l, D.dom l ∧ ρ l = m) ∧ m < H.length ∧ m ∉ π) := by
    intro m hm
    by_cases hi : ∃ l, D.dom l ∧ ρ l = m
    · exact .inl hi
    · right
      rcases hm with hm | hm
      · refine ⟨hm, hi, hH.dom m hm, fun hp => hi ?_⟩
        obtain ⟨l, hl⟩ := List.getElem?_of_mem hp
        have hlk : l < π.length := (List.getElem?_eq_some_iff.1 hl).1
        have e : ρ l = m := by rw [← hρ]; unfold mapL; rw [if_pos hlk, List.getD_eq_getElem?_getD, hl]; rfl
        exact ⟨l, hE.dom l ⟨by omega, by rw [e]; exact hm⟩, e⟩
      · exact absurd hm hi
  have hgetl : ∀ l, D.dom l → Heap.get (merge H π ρ Hs') (ρ l) = (Hs'.get l).map (AObj.ren ρ) := fun l hl => by
    rw [← hρ]; exact merge_at hnd hlt (by omega) (hD.dom l hl)
  have hgeto : ∀ l o, D.dom l → Heap.get (merge H π ρ Hs') (ρ l) = some o → ∃ o', Hs'.get l = some o' ∧ o = o'.ren ρ := fun l o hl hg => by
    rw [hgetl l hl] at hg
    cases h1 : Hs'.get l with
    | none => rw [h1] at hg; cases hg
    | some o' => rw [h1] at hg; exact ⟨o', rfl, (Option.some.inj hg).symm⟩
  have hbold : ∀ m o, C.dom m → (¬ ∃ l, D.dom l ∧ ρ l = m) → blockOf C2 m o = blockOf C m o := fun m o _ hi => by
    cases o <;> simp only [blockOf] <;> first | exact (leave_ne hi).2.1 | exact congrArg some (leave_ne hi).1
  have hother : ∀ m o b, C.dom m → (¬ ∃ l, D.dom l ∧ ρ l = m) → H.get m = some o → blockOf C m o = some b → C.own b ∧ ¬ own1 b := by
    intro m o b hm hi hg hb
    refine ⟨hH.own m o b hg hm hb, ?_⟩
    rintro ⟨l, o', hg', hd', hb'⟩
    have e := hH.inj m (ρ l) o _ b hg (hobj l o' hg').2 hm hd' hb hb'
    exact hi ⟨l, hE.dom l ⟨Heap.get_lt hg', hd'⟩, e.symm⟩
  have hH2 : HRel C2 (merge H π ρ Hs') := {
    obj := fun m o hg hd => by
      rcases hcase m hd with ⟨l, hl, rfl⟩ | ⟨hm, hi, hml, hmp⟩
      · obtain ⟨o', hg', rfl⟩ := hgeto l o hl hg
        exact ORel.ren hM hl (fun b _ => rfl) (hD.obj l o' hg' hl)
      · rw [merge_ne hml hmp] at hg
        refine (hH.obj m o hg hm).mono hE2 (leave_ne hi).1 (leave_ne hi).2.1 (leave_ne hi).2.2 fun b hb => ?_
        have := hother m o b hm hi hg hb
        exact hE.old b (hH.lt b this.1) this.2
    own := fun m o b hg hd hb => by
      rcases hcase m hd with ⟨l, hl, rfl⟩ | ⟨hm, hi, hml, hmp⟩
      · obtain ⟨o', hg', rfl⟩ := hgeto l o hl hg
        rw [blockOf_ren hM hl] at hb
        exact .inr (hD.own l o' b hg' hl hb)
      · rw [merge_ne hml hmp] at hg
        rw [hbold m o hm hi] at hb
        exact .inl (hother m o b hm hi hg hb)
    inj := fun m m' o o' b hg hg' hd hd' hb hb' => by
      have mix : ∀ (m m' : Nat) (o o' : AObj), Heap.get (merge H π ρ Hs') m = some o → Heap.get (merge H π ρ Hs') m' = some o' → blockOf C2 m o = some b → blockOf C2 m' o' = some b → (∃ l, D.dom l ∧ ρ l = m) → (C.dom m' ∧ (¬ ∃ l, D.dom l ∧ ρ l = m') ∧ m' < H.length ∧ m' ∉ π) → False := by
        rintro _ m' o o' hg hg' hb hb' ⟨l, hl, rfl⟩ ⟨hm', hi', hml', hmp'⟩
        obtain ⟨o1, hg1, rfl⟩ := hgeto l o hl hg
        rw [blockOf_ren hM hl] at hb
        have h1 := hD.own l o1 b hg1 hl hb
        rw [merge_ne hml' hmp'] at hg'
        rw [hbold m' o' hm' hi'] at hb'
        have h2 := hother m' o' b hm' hi' hg' hb'
        exact h2.2 (hE.ownOld b (hH.lt b h2.1) h1)
      rcases hcase m hd with hm | hm <;> rcases hcase m' hd' with hm' | hm'
      · obtain ⟨l, hl, rfl⟩ := hm
        obtain ⟨l', hl', rfl⟩ := hm'
        obtain ⟨o1, hg1, rfl⟩ := hgeto l o hl hg
        obtain ⟨o2, hg2, rfl⟩ := hgeto l' o' hl' hg'
        rw [blockOf_ren hM hl] at hb
        rw [blockOf_ren hM hl'] at hb'
        rw [hD.inj l l' o1 o2 b hg1 hg2 hl hl' hb hb']
      · exact (mix m m' o o' hg hg' hb hb' hm hm').elim
      · exact (mix m' m o' o hg' hg hb' hb hm' hm).elim
      · obtain ⟨h1, h2, h3, h4⟩ := hm
        obtain ⟨h1', h2', h3', h4'⟩ := hm'
        rw [merge_ne h3 h4] at hg
        rw [merge_ne h3' h4'] at hg'
        rw [hbold m o h1 h2] at hb
        rw [hbold m' o' h1' h2'] at hb'
        exact hH.inj m m' o o' b hg hg' h1 h1' hb hb'
    lt := fun b hb => by
      rcases hb with hb | hb
      · exact Nat.lt_of_lt_of_le (hH.lt b hb.1) hE.size
      · exact hD.lt b hb
    dom := fun m hm => by
      rw [merge_length]
      rcases hm with hm | ⟨l, hl, rfl⟩
      · have := hH.dom m hm; omega
      · have h1 := hD.dom l hl
        rw [← hρ]; unfold mapL
        split
        · rename_i hlk
          have : π.getD l 0 ∈ π := by rw [List.getD_eq_getElem?_getD, List.getElem?_eq_getElem hlk]; exact List.getElem_mem _
          have := hlt _ this; omega
        · omega
    hi := by rw [merge_length]; have := hH.hi; show C.hi ≤ _; omega }
  refine ⟨r0.ren ρ, C2, merge H π ρ Hs', ⟨r0, Hs', hQ, rfl, rfl⟩, rfl, hE2, hH2, ?_⟩
  cases r0 with
  | ret v => obtain ⟨x, rfl, hv⟩ := hre; exact ⟨x, rfl, Rel.ren hM v x hv⟩
  | panic v => obtain ⟨x, rfl, hv⟩ := hre; exact ⟨x, rfl, Rel.ren hM v x hv⟩
end Go.Sim

namespace Go.Sim
theorem PureFn.start {P : Program} {f : FuncId} {fn : Func} {c : Code} {rs : List ResultVar} {args : List AV} {r : AEnd} (hf : P.funcs[f]? = some fn) (hb : fn.body = some c) (hr : fn.results.toList = rs)
    (hname : (fn.name != "runtime.NumGoroutine") = true) (hsz : args.length ≤ fn.ntmps) (hok : codeOk fn.ntmps c = true) (O : LitO) (h : Run (awp P O 0 c (pureQ P rs r) (entryEnv 0 args) []) .mk) : PureFn P f args r := PureFn.intro hf hb hr hname hsz hok h
attribute [go_sem] List.set_cons_succ List.set_cons_zero List.all_cons List.all_nil Bool.and_true Bool.true_and Bool.and_self pureAll
section
variable {k : IntKind} {n : Int} {b : Bool} {s : List UInt8} {cs xs : List AV} {sz o l i m : Nat} {t : TypeId} {v : AV} {f : Fn}
@[go_sem] theorem width_int : AV.width (.int k n) = some 1 := rfl
@[go_sem] theorem cellsOne_int : AV.cellsOne (.int k n) = true := rfl
@[go_sem] theorem pureB_int : AV.pureB (.int k n) = true := rfl
@[go_sem] theorem one_int : AV.one (.int k n) = true := rfl
@[go_sem] theorem ltB_int : AV.lt m (.int k n) = true := rfl
@[go_sem] theorem width_bool : AV.width (.bool b) = some 1 := rfl
@[go_sem] theorem cellsOne_bool : AV.cellsOne (.bool b) = true := rfl
@[go_sem] theorem pureB_bool : AV.pureB (.bool b) = true := rfl
@[go_sem] theorem one_bool : AV.one (.bool b) = true := rfl
@[go_sem] theorem ltB_bool : AV.lt m (.bool b) = true := rfl
@[go_sem] theorem width_str : AV.width (.str s) = some 1 := rfl
@[go_sem] theorem cellsOne_str : AV.cellsOne (.str s) = true := rfl
@[go_sem] theorem pureB_str : AV.pureB (.str s) = true := rfl
@[go_sem] theorem one_str : AV.one (.str s) = true := rfl
@[go_sem] theorem ltB_str : AV.lt m (.str s) = true := rfl
@[go_sem] theorem width_slice : AV.width (.slice sz xs) = some 1 := rfl
@[go_sem] theorem cellsOne_slice : AV.cellsOne (.slice sz xs) = true := rfl
@[go_sem] theorem pureB_slice : AV.pureB (.slice sz xs) = true := rfl
@[go_sem] theorem one_slice : AV.one (.slice sz xs) = true := rfl
@[go_sem] theorem ltB_slice : AV.lt m (.slice sz xs) = true := rfl
@[go_sem] theorem width_nilslice : AV.width .nilslice = some 1 := rfl
@[go_sem] theorem cellsOne_nilslice : AV.cellsOne .nilslice = true := rfl
@[go_sem] theorem pureB_nilslice : AV.pureB .nilslice = true := rfl
@[go_sem] theorem one_nilslice : AV.one .nilslice = true := rfl
@[go_sem] theorem ltB_nilslice : AV.lt m .nilslice = true := rfl
@[go_sem] theorem width_zcap : AV.width .zcap = some 1 := rfl
@[go_sem] theorem cellsOne_zcap : AV.cellsOne .zcap = true := rfl
@[go_sem] theorem pureB_zcap : AV.pureB .zcap = true := rfl
@[go_sem] theorem one_zcap : AV.one .zcap = true := rfl
@[go_sem] theorem ltB_zcap : AV.lt m .zcap = true := rfl
@[go_sem] theorem width_nilp : AV.width .nilp = some 1 := rfl
@[go_sem] theorem cellsOne_nilp : AV.cellsOne .nilp = true := rfl
@[go_sem] theorem pureB_nilp : AV.pureB .nilp = true := rfl
@[go_sem] theorem one_nilp : AV.one .nilp = true := rfl
@[go_sem] theorem ltB_nilp : AV.lt m .nilp = true := rfl
@[go_sem] theorem width_cptr : AV.width (.cptr cs o) = some 1 := rfl
@[go_sem] theorem cellsOne_cptr : AV.cellsOne (.cptr cs o) = true := rfl
@[go_sem] theorem pureB_cptr : AV.pureB (.cptr cs o) = true := rfl
@[go_sem] theorem one_cptr : AV.one (.cptr cs o) = true := rfl
@[go_sem] theorem ltB_cptr : AV.lt m (.cptr cs o) = true := rfl
@[go_sem] theorem width_niliface : AV.width .niliface = some 1 := rfl
@[go_sem] theorem cellsOne_niliface : AV.cellsOne .niliface = true := rfl
@[go_sem] theorem pureB_niliface : AV.pureB .niliface = true := rfl
@[go_sem] theorem one_niliface : AV.one .niliface = true := rfl
@[go_sem] theorem ltB_niliface : AV.lt m .niliface = true := rfl
@[go_sem] theorem width_nilmap : AV.width .nilmap = some 1 := rfl
@[go_sem] theorem cellsOne_nilmap : AV.cellsOne .nilmap = true := rfl
@[go_sem] theorem pureB_nilmap : AV.pureB .nilmap = true := rfl
@[go_sem] theorem one_nilmap : AV.one .nilmap = true := rfl
@[go_sem] theorem ltB_nilmap : AV.lt m .nilmap = true := rfl
@[go_sem] theorem width_nilfunc : AV.width .nilfunc = some 1 := rfl
@[go_sem] theorem cellsOne_nilfunc : AV.cellsOne .nilfunc = true := rfl
@[go_sem] theorem pureB_nilfunc : AV.pureB .nilfunc = true := rfl
@[go_sem] theorem one_nilfunc : AV.one .nilfunc = true := rfl
@[go_sem] theorem ltB_nilfunc : AV.lt m .nilfunc = true := rfl
@[go_sem] theorem one_ptr : AV.one (.ptr l o) = true := rfl
@[go_sem] theorem width_ptr : AV.width (.ptr l o) = some 1 := rfl
@[go_sem] theorem cellsOne_ptr : AV.cellsOne (.ptr l o) = true := rfl
@[go_sem] theorem one_mslice : AV.one (.mslice sz l i m) = true := rfl
@[go_sem] theorem width_mslice : AV.width (.mslice sz l i m) = some 1 := rfl
@[go_sem] theorem cellsOne_mslice : AV.cellsOne (.mslice sz l i m) = true := rfl
@[go_sem] theorem one_map : AV.one (.map l) = true := rfl
@[go_sem] theorem width_map : AV.width (.map l) = some 1 := rfl
@[go_sem] theorem cellsOne_map : AV.cellsOne (.map l) = true := rfl
@[go_sem] theorem one_func : AV.one (.func f cs xs) = true := rfl
@[go_sem] theorem width_func : AV.width (.func f cs xs) = some 1 := rfl
@[go_sem] theorem cellsOne_func : AV.cellsOne (.func f cs xs) = true := rfl
@[go_sem] theorem one_iface : AV.one (.iface t v) = true := rfl
@[go_sem] theorem width_iface : AV.width (.iface t v) = some 1 := rfl
@[go_sem] theorem cellsOne_iface : AV.cellsOne (.iface t v) = true := rfl
@[go_sem] theorem width_agg : AV.width (.agg cs) = some cs.length := rfl
@[go_sem] theorem cellsOne_agg : AV.cellsOne (.agg cs) = cs.all AV.one := rfl
@[go_sem] theorem pureB_agg : AV.pureB (.agg cs) = pureAll cs := rfl
@[go_sem] theorem pureB_tuple : AV.pureB (.tuple cs) = pureAll cs := rfl
@[go_sem] theorem pureB_iface : AV.pureB (.iface t v) = v.pureB := rfl
@[go_sem] theorem pureB_func : AV.pureB (.func f cs xs) = (pureAll cs && pureAll xs) := rfl
@[go_sem] theorem ltB_ptr : AV.lt m (.ptr l o) = decide (l < m) := rfl
@[go_sem] theorem ltB_map : AV.lt m (.map l) = decide (l < m) := rfl
@[go_sem] theorem ltB_mslice {m' : Nat} : AV.lt m' (.mslice sz l i m) = decide (l < m') := rfl
@[go_sem] theorem ltB_func : AV.lt m (.func f cs xs) = (AV.ltAll m cs && AV.ltAll m xs) := rfl
@[go_sem] theorem ltB_agg : AV.lt m (.agg cs) = AV.ltAll m cs := rfl
@[go_sem] theorem ltB_tuple : AV.lt m (.tuple cs) = AV.ltAll m cs := rfl
@[go_sem] theorem ltAll_nil : AV.ltAll m [] = true := rfl
@[go_sem] theorem ltAll_cons : AV.ltAll m (v :: cs) = (v.lt m && AV.ltAll m cs) := rfl
end
@[go_sem] theorem envSubLt_nil {k : Nat} {e : Env} : EnvSubLt k e [] = True := rfl
@[go_sem] theorem envSubLt_cons {k : Nat} {e : Env} {t : Nat} {v : AV} {r : Env} : EnvSubLt k e ((t, v) :: r) = (e.get t = v ∧ v.lt k = true ∧ EnvSubLt k e r) := rfl
@[go_sem] theorem getD_map_lt {α : Type} {f : α → AV} {l : List α} {n : Nat} (h : n < l.length) : (l.map f).getD n .any = f (l[n]'h) := by simp [h]
/-- all literals are never written -/
def allLit : LitO := fun _ _ => true
def noLit : LitO := fun _ n => n == 0
@[go_sem] theorem allLit_app {t : TypeId} {n : Nat} : allLit t n = true := rfl
@[go_sem] theorem noLit_zero {t : TypeId} : noLit t 0 = true := rfl
@[go_sem] theorem noLit_succ {t : TypeId} : noLit t 1 = false := rfl
@[go_sem] theorem noLit_succ2 {t : TypeId} : noLit t 2 = false := rfl
end Go.Sim

namespace Go.Sim
def frOk (H : Heap) (ρ : Nat → Nat) (k : Nat) : List Nat → Heap → Prop
  | p :: π, some o :: os => objLt k (some o) = true ∧ H.get p = some (o.ren ρ) ∧ frOk H ρ k π os
  | _ :: π, none :: os => frOk H ρ k π os
  | _, _ => True
theorem frOk_spec {H : Heap} {ρ : Nat → Nat} {k : Nat} : ∀ {π : List Nat} {os : Heap} (l : Nat) (o : AObj), frOk H ρ k π os → os.get l = some o → l < π.length → objLt k (some o) = true ∧ H.get (π.getD l 0) = some (o.ren ρ)
  | [], os, l, o, _, _, hl => by simp at hl
  | p :: π, [], l, o, _, hg, _ => by simp [Heap.get] at hg
  | p :: π, none :: os, 0, o, h, hg, _ => by simp [Heap.get] at hg
  | p :: π, none :: os, l + 1, o, h, hg, hl => by
    have := frOk_spec (π := π) (os := os) l o h (by simpa [Heap.get] using hg) (by simpa using hl)
    simpa using this
  | p :: π, some o' :: os, 0, o, h, hg, _ => by
    simp [Heap.get] at hg
    subst hg
    exact ⟨h.1, by simpa using h.2.1⟩
  | p :: π, some o' :: os, l + 1, o, h, hg, hl => by
    have := frOk_spec (π := π) (os := os) l o h.2.2 (by simpa [Heap.get] using hg) (by simpa using hl)
    simpa using this
/-- a call by a contract in a small heap -/
theorem use_frame {P : Program} {f : FuncId} {as as0 : List AV} {Hs H1 H H2 : Heap} {r1 r2 : AEnd} {K Kp : AV → Heap → Prop} {z} (π : List Nat) (h : ACalls P f as0 Hs fun r H' => r = r1 ∧ H' = H1) (hn : π.Nodup) (hlen : π.length = Hs.length) (hlt : ∀ p ∈ π, p < H.length)
    (ha : AV.ltAll Hs.length as0 = true) (has : renAll (mapL π H.length) as0 = as) (ho : frOk H (mapL π H.length) Hs.length π Hs) (hr : r1.ren (mapL π H.length) = r2) (hH : merge H π (mapL π H.length) H1 = H2) (hk : onEnd K Kp r2 H2) :
    Run (CallG P f as H (onEnd K Kp)) z := by
  subst has hr hH
  refine .inl ((h.frame hn hlen hlt ha (fun l o hg => ?_)).mono ?_)
  · have hl := Heap.get_lt hg
    have := frOk_spec (π := π) l o ho hg (by omega)
    unfold mapL
    rw [if_pos (by omega)]
    exact this
  · rintro r H' ⟨r0, Hs', ⟨rfl, rfl⟩, rfl, rfl⟩
    exact hk
@[go_sem] theorem v_cells_func {f : Fn} {a b : List AV} {kl : List AV → Prop} {z} : Run (elemCells (.func f a b) kl) z = kl [.func f a b] := rfl
@[go_sem] theorem v_cells_map {l : Nat} {kl : List AV → Prop} {z} : Run (elemCells (.map l) kl) z = kl [.map l] := rfl
@[go_sem] theorem v_cells_ptr {l o : Nat} {kl : List AV → Prop} {z} : Run (elemCells (.ptr l o) kl) z = kl [.ptr l o] := rfl
@[go_sem] theorem v_cells_mslice {sz l i n : Nat} {kl : List AV → Prop} {z} : Run (elemCells (.mslice sz l i n) kl) z = kl [.mslice sz l i n] := rfl
@[go_sem] theorem v_cells_nilslice {kl : List AV → Prop} {z} : Run (elemCells .nilslice kl) z = kl [.nilslice] := rfl
@[go_sem] theorem v_cells_zcap {kl : List AV → Prop} {z} : Run (elemCells .zcap kl) z = kl [.zcap] := rfl
@[go_sem] theorem v_cells_nilp {kl : List AV → Prop} {z} : Run (elemCells .nilp kl) z = kl [.nilp] := rfl
@[go_sem] theorem v_cells_cptr {cs : List AV} {o : Nat} {kl : List AV → Prop} {z} : Run (elemCells (.cptr cs o) kl) z = kl [.cptr cs o] := rfl
@[go_sem] theorem v_cells_iface {t : TypeId} {v : AV} {kl : List AV → Prop} {z} : Run (elemCells (.iface t v) kl) z = kl [.iface t v] := rfl
@[go_sem] theorem v_cells_niliface {kl : List AV → Prop} {z} : Run (elemCells .niliface kl) z = kl [.niliface] := rfl
@[go_sem] theorem v_cells_nilmap {kl : List AV → Prop} {z} : Run (elemCells .nilmap kl) z = kl [.nilmap] := rfl
@[go_sem] theorem v_cells_nilfunc {kl : List AV → Prop} {z} : Run (elemCells .nilfunc kl) z = kl [.nilfunc] := rfl
end Go.Sim

namespace Go.Sim
/-! ### parts of slices and strings -/
def on2 (a b : Option Int) (k : Int → Int → Prop) : Prop :=
  match a, b with
  | some x, some y => k x y
  | _, _ => False
section
variable {k : AV → Prop} {es : Option Nat} {lo hi : Option AV}
@[go_sem] theorem bnd_none {d : Int} : bnd d none = some d := rfl
@[go_sem] theorem bnd_int {d n : Int} {kd : IntKind} : bnd d (some (.int kd n)) = some n := rfl
@[go_sem] theorem v_on2 {x y : Int} {k : Int → Int → Prop} {z} : Run (on2 (some x) (some y) k) z = k x y := rfl
@[go_sem] theorem v_slice_str {s : List UInt8} {z} : Run (evSlice 1 es (.str s) lo hi none k) z =
    Bind (bnd 0 lo) (fun l => Bind (bnd s.length hi) (fun h => Run (on2 l h fun l h => 0 ≤ l ∧ l ≤ h ∧ h ≤ s.length ∧ Bind ((s.take h.toNat).drop l.toNat) (fun s => k (.str s)) .mk) .mk) .mk) .mk := by
  simp only [Run, Bind, evSlice, on2]
  cases bnd 0 lo <;> cases bnd s.length hi <;> rfl
@[go_sem] theorem v_slice_slice {e sz : Nat} {xs : List AV} {z} : Run (evSlice 2 (some e) (.slice sz xs) lo hi none k) z =
    Bind (bnd 0 lo) (fun l => Bind (bnd xs.length hi) (fun h => Run (on2 l h fun l h => e = sz ∧ 0 ≤ l ∧ l ≤ h ∧ h ≤ xs.length ∧ Bind ((xs.take h.toNat).drop l.toNat) (fun xs => k (.slice sz xs)) .mk) .mk) .mk) .mk := by
  simp only [Run, Bind, evSlice, on2]
  cases bnd 0 lo <;> cases bnd xs.length hi <;> simp
@[go_sem] theorem v_slice_nil {e : Nat} {z} : Run (evSlice 2 (some e) .nilslice lo hi none k) z =
    Bind (bnd 0 lo) (fun l => Bind (bnd 0 hi) (fun h => Run (on2 l h fun l h => l = 0 ∧ h = 0 ∧ k .nilslice) .mk) .mk) .mk := by
  simp only [Run, Bind, evSlice, on2]
  cases bnd 0 lo <;> cases bnd 0 hi <;> simp
def onLow (a : Option Int) (hi : Option AV) (k : Int → Prop) : Prop :=
  match a, hi with
  | some x, none => k x
  | _, _ => False
@[go_sem] theorem v_onLow {x : Int} {k : Int → Prop} {z} : Run (onLow (some x) none k) z = k x := rfl
@[go_sem] theorem v_slice_row {e sz l i n : Nat} {z} : Run (evSlice 2 (some e) (.mslice sz l i n) lo hi none k) z =
    Bind (bnd 0 lo) (fun lw => Run (onLow lw hi fun lw => e = sz ∧ 0 ≤ lw ∧ lw < n ∧ Bind (i + lw.toNat) (fun i' => Bind (n - lw.toNat) (fun n' => k (.mslice sz l i' n')) .mk) .mk) .mk) .mk := by
  simp only [Run, Bind, evSlice, onLow]
  cases bnd 0 lo <;> cases hi <;> simp
end
end Go.Sim

namespace Go.Sim
/-! ### rules: strings out of rows, pointers, parts of strings, bits -/
attribute [go_sem] Nat.reduceAdd Nat.reduceEqDiff Nat.reduceLeDiff Nat.reduceMul Nat.reduceLT Nat.reduceSub Int.reduceLT Int.reduceLE Int.reduceNeg List.length_map List.length_append Int.toNat_natCast Int.ofNat_lt Int.natCast_nonneg Nat.le_refl Nat.zero_add true_or or_true Nat.add_zero
attribute [go_sem ↓] reduceIte
attribute [go_sem] map_dec8 ne_eq Int.reduceEq not_false_eq_true Int.reduceBEq Int.reduceBNe Nat.reduceBEq List.length_replicate
section
variable {P : Program} {O : LitO} {n0 : Nat} {e : Env} {H : Heap} {Q : AX → Env → Heap → Prop} {K : Env → Heap → Prop} {Kp : AV → Env → Heap → Prop} {ops : Array Oper} {r : List Oper} {d : Option Nat} {ty : TypeId} {pos : String} {aft : Array Edge} {k : AV → Prop} {kl : List AV → Prop}
@[go_sem ↓] theorem r_sliceData {x : Operand} {ts : Array TypeId} {z} : Run (awpOps P O ops (⟨d, .call ⟨.builtin .unsafeSliceData, ⟨[x]⟩, ts⟩, ty, pos, aft, none⟩ :: r) K Kp e H) z =
    Bind (ope e x) (fun a => Run (evSliceData H a fun v => Run (awpOps P O ops r K Kp (putE d v e) H) .mk) .mk) .mk := rfl
@[go_sem ↓] theorem r_uString {x y : Operand} {pt it : TypeId} {z} : Run (awpOps P O ops (⟨d, .call ⟨.builtin .unsafeString, ⟨[x, y]⟩, ⟨[pt, it]⟩⟩, ty, pos, aft, none⟩ :: r) K Kp e H) z =
    Bind (ope e x) (fun a => Bind (ope e y) (fun b => Bind (ptrTo P pt) (fun pe => Run (evUString H pe a b fun v H' => Run (awpOps P O ops r K Kp (putE d v e) H') .mk) .mk) .mk) .mk) .mk := rfl
@[go_sem] theorem v_sliceData {sz l i n : Nat} {z} : Run (evSliceData H (.mslice sz l i n) k) z =
    Bind (H.get l) (fun o => Run (onRow o fun _ sz2 xs => sz2 = sz ∧ 0 < n ∧ i + n = xs.length ∧ Bind xs.length (fun m => k (.meptr sz l m i 0)) .mk) .mk) .mk := by
  simp only [Run, Bind, evSliceData, onRow]
  cases H.get l with
  | none => rfl
  | some o => cases o <;> rfl
@[go_sem] theorem v_uString {t : TypeId} {sz l ver i off : Nat} {m : Int} {K : AV → Heap → Prop} {z} : Run (evUString H (some t) (.meptr sz l ver i off) (.int .i64 m) K) z =
    Bind (H.get l) (fun o => Run (onRow o fun tg sz2 xs => tg = t ∧ sz2 = 1 ∧ sz = 1 ∧ ver = xs.length ∧ i = 0 ∧ off = 0 ∧ m = xs.length ∧ xs.length ≤ 9223372036854775807 ∧ 0 < xs.length ∧
      Bind (xs.map dec8) (fun s => xs = s.map enc8 ∧ Bind (H.set l none) (fun H => K (.str s) H) .mk) .mk) .mk) .mk := by
  simp only [Run, Bind, evUString, onRow]
  cases H.get l with
  | none => rfl
  | some o => cases o <;> rfl
@[go_sem] theorem v_toU {l off : Nat} {z} : Run (evConv H .toU (.ptr l off) k) z = Bind (H.get l) (fun o => Run (onBox o fun _ cs => off < cs.length ∧ k (.ptr l off)) .mk) .mk := by
  simp only [Run, Bind, evConv, onBox]
  cases H.get l with
  | none => rfl
  | some o => cases o <;> rfl
@[go_sem] theorem v_fromU {f : TypeId → Nat → Nat → Bool} {l off : Nat} {z} : Run (evConv H (.fromU f) (.ptr l off) k) z = Bind (H.get l) (fun o => Run (onBox o fun tg cs => f tg cs.length off = true ∧ k (.ptr l off)) .mk) .mk := by
  simp only [Run, Bind, evConv, onBox]
  cases H.get l with
  | none => rfl
  | some o => cases o <;> rfl
/-! arrays -/
def onLow2 (a : Option Int) (hi mx : Option AV) (k : Int → Prop) : Prop :=
  match a, hi, mx with
  | some x, none, none => k x
  | _, _, _ => False
@[go_sem] theorem v_onLow2 {x : Int} {k : Int → Prop} {z} : Run (onLow2 (some x) none none k) z = k x := rfl
@[go_sem] theorem v_sl_some {len l ver kd : Nat} {es : Option Nat} {lo hi mx : Option AV} {z} : Run (evSl H (some len) kd es (.meptr 1 l ver 0 0) lo hi mx k) z =
    Bind (bnd 0 lo) (fun lw => Run (onLow2 lw hi mx fun lw => Bind (H.get l) (fun o => Run (onRow o fun _ sz xs => sz = 1 ∧ ver = xs.length ∧ len = xs.length ∧ 0 ≤ lw ∧ lw < len ∧ Bind lw.toNat (fun i => Bind (len - lw.toNat) (fun n => k (.mslice 1 l i n)) .mk) .mk) .mk) .mk) .mk) .mk := by
  simp only [Run, Bind, evSl, onLow2, onRow]
  cases bnd 0 lo <;> cases hi <;> cases mx <;> first | rfl | (cases H.get l with | none => rfl | some o => cases o <;> rfl)
@[go_sem] theorem v_conv_bytes {sz l i n : Nat} {z} : Run (evConv H .bytes (.mslice sz l i n) k) z =
    Bind (rowOf (H.get l) sz i n) (fun o => Run (onSrc o fun sz xs => (sz = 1 ∨ xs = []) ∧ Bind (xs.map dec8) (fun s => xs = s.map enc8 ∧ k (.str s)) .mk) .mk) .mk := by
  simp only [Run, Bind, evConv, elemsOf, rowOf, onSrc]
  cases H.get l with
  | none => rfl
  | some o =>
    cases o with
    | row t sz' xs =>
      simp only
      by_cases hc : sz' = sz ∧ i + n = xs.length <;> simp [hc]
    | _ => rfl
@[go_sem] theorem rowOf_row {t : TypeId} {sz' sz i n : Nat} {xs : List AV} : rowOf (some (.row t sz' xs)) sz i n = if sz' = sz ∧ i + n = xs.length then some (sz, xs.drop i) else none := rfl
@[go_sem] theorem v_load_meptr {t : TypeId} {sz l ver i off : Nat} {z} : Run (evLoad P H t (.meptr sz l ver i off) k) z =
    Bind (H.get l) (fun o => Bind (ldInfo P t) (fun ld => Run (onRow o fun _ sz' xs => sz' = sz ∧ ver = xs.length ∧ i < xs.length ∧ Bind (xs.getD i .any) (fun x => Run (elemCells x fun cs => Bind (cs.drop off) (fun cs => Run (ldCells ld cs k) .mk) .mk) .mk) .mk) .mk) .mk) .mk := by
  simp only [Run, Bind, evLoad, onRow]
  cases H.get l with
  | none => rfl
  | some o => cases o <;> rfl
@[go_sem] theorem v_store_meptr {t : TypeId} {sz l ver i off : Nat} {x : AV} {k : Heap → Prop} {z} : Run (evStore P H t (.meptr sz l ver i off) x k) z =
    Bind (H.get l) (fun o => Run (onRow o fun tg sz' xs => sz' = sz ∧ ver = xs.length ∧ i < xs.length ∧ Run (elemCells x fun vs => tSize P t = some vs.length ∧ vs.all AV.one = true ∧ pureAll vs = true ∧
      Bind (xs.getD i .any) (fun y => Run (elemCells y fun cs => off + vs.length ≤ cs.length ∧ Bind (setC cs off vs) (fun cs => Bind (reElem y cs) (fun y' => Bind (xs.set i y') (fun xs' => Bind (H.set l (some (.row tg sz xs'))) (fun H => k H) .mk) .mk) .mk) .mk) .mk) .mk) .mk) .mk) .mk := by
  simp only [Run, Bind, evStore, onRow]
  cases H.get l with
  | none => rfl
  | some o => cases o <;> rfl
@[go_sem] theorem v_fa_meptr {o sz l ver i off : Nat} {z} : Run (evFieldAddr (some o) (.meptr sz l ver i off) k) z = Bind (off + o) (fun n => k (.meptr sz l ver i n)) .mk := rfl
@[go_sem] theorem v_ia_mslice {es : Nat} {sz l o len : Nat} {kd : IntKind} {n : Int} {z} : Run (evIndexAddr H (some es) (.mslice sz l o len) (.int kd n) k) z =
    Bind (H.get l) (fun ob => Run (onRow ob fun _ sz' xs => es = sz ∧ sz' = sz ∧ o + len = xs.length ∧ 0 ≤ n ∧ n < len ∧ Bind xs.length (fun m => Bind (o + n.toNat) (fun i => k (.meptr sz l m i 0)) .mk) .mk) .mk) .mk := by
  simp only [Run, Bind, evIndexAddr, onRow, Option.some.injEq]
  cases H.get l with
  | none => rfl
  | some ob => cases ob <;> rfl
@[go_sem] theorem all_enc8 : ∀ (bs : List UInt8), (bs.map enc8).all AV.one = true
  | [] => rfl
  | b :: bs => by simp [all_enc8 bs, enc8, AV.one]
@[go_sem] theorem pureAll_enc8 : ∀ (bs : List UInt8), pureAll (bs.map enc8) = true
  | [] => rfl
  | b :: bs => by simp [pureAll, pureAll_enc8 bs, enc8, AV.pureB]
@[go_sem] theorem elem_enc8 {b : UInt8} {kl : List AV → Prop} {z} : Run (elemCells (enc8 b) kl) z = kl [enc8 b] := rfl
@[go_sem] theorem one_enc8 {b : UInt8} : (enc8 b).one = true := rfl
@[go_sem] theorem pure_enc8 {b : UInt8} : (enc8 b).pureB = true := rfl
@[go_sem] theorem reElem_enc8 {b : UInt8} {c : AV} : reElem (enc8 b) [c] = c := rfl
/-! equality -/
@[go_sem] theorem v_ptr_eql {t : TypeId} {c : Bool} {l o l' o' : Nat} {z} : Run (evBin P H .eql t c (.ptr l o) (.ptr l' o') k) z = (ptrElem P t = true ∧ Run (evPtrEq H l o l' o' fun r => k (.bool r)) .mk) := rfl
@[go_sem] theorem v_ptr_neq {t : TypeId} {c : Bool} {l o l' o' : Nat} {z} : Run (evBin P H .neq t c (.ptr l o) (.ptr l' o') k) z = (ptrElem P t = true ∧ Run (evPtrEq H l o l' o' fun r => Bind (!r) (fun r => k (.bool r)) .mk) .mk) := rfl
@[go_sem] theorem v_ptrEq_same {l o o' : Nat} {k : Bool → Prop} {z} : Run (evPtrEq H l o l o' k) z = Bind (decide (o = o')) k .mk := by simp [Run, Bind, evPtrEq]
def on2Box (a b : Option AObj) (k : Prop) : Prop := match a, b with
  | some (.box _ _), some (.box _ _) => k
  | _, _ => False
@[go_sem] theorem v_on2Box {t t' : TypeId} {cs cs' : List AV} {k : Prop} {z} : Run (on2Box (some (.box t cs)) (some (.box t' cs')) k) z = k := rfl
theorem v_ptrEq_ne {l o l' o' : Nat} {k : Bool → Prop} {z} (h : l ≠ l') : Run (evPtrEq H l o l' o' k) z = Bind (H.get l) (fun a => Bind (H.get l') (fun b => Run (on2Box a b (k false)) .mk) .mk) .mk := by
  simp only [Run, Bind, evPtrEq, if_neg h, on2Box]
  rfl
@[go_sem] theorem v_agg_eql {t : TypeId} {c : Bool} {cs ds : List AV} {z} : Run (evBin P H .eql t c (.agg cs) (.agg ds) k) z = Bind (flatOffs P t) (fun os => Run (optK os fun os => Run (aggAll os cs ds fun r => k (.bool r)) .mk) .mk) .mk := by
  simp only [Run, Bind, evBin, optK]
  cases flatOffs P t <;> rfl
@[go_sem] theorem v_agg_neq {t : TypeId} {c : Bool} {cs ds : List AV} {z} : Run (evBin P H .neq t c (.agg cs) (.agg ds) k) z = Bind (flatOffs P t) (fun os => Run (optK os fun os => Run (aggAll os cs ds fun r => Bind (!r) (fun r => k (.bool r)) .mk) .mk) .mk) .mk := by
  simp only [Run, Bind, evBin, optK]
  cases flatOffs P t <;> rfl
@[go_sem] theorem v_aggAll_nil {cs ds : List AV} {k : Bool → Prop} {z} : Run (aggAll [] cs ds k) z = k true := rfl
def on2Int (a b : Option AV) (k : IntKind → Int → IntKind → Int → Prop) : Prop := match a, b with
  | some (.int ka a), some (.int kb b) => k ka a kb b
  | _, _ => False
@[go_sem] theorem v_on2Int {ka kb : IntKind} {a b : Int} {k : IntKind → Int → IntKind → Int → Prop} {z} : Run (on2Int (some (.int ka a)) (some (.int kb b)) k) z = k ka a kb b := rfl
@[go_sem] theorem v_aggAll_cons {o : Nat} {os : List Nat} {cs ds : List AV} {k : Bool → Prop} {z} : Run (aggAll (o :: os) cs ds k) z =
    Bind (cs[o]?) (fun a => Bind (ds[o]?) (fun b => Run (on2Int a b fun ka a kb b => ka = kb ∧ Run (aggAll os cs ds fun r => k ((a == b) && r)) .mk) .mk) .mk) .mk := by
  simp only [Run, Bind, aggAll, on2Int]
  split <;> simp_all
/-! nil -/
def onKind (a b : EqKind) (k : Prop) : Prop := a = b ∧ k
@[go_sem] theorem v_onKind {a : EqKind} {k : Prop} {z} : Run (onKind a a k) z = k := by simp [Run, onKind]
@[go_sem] theorem v_nilp_eql {t : TypeId} {c : Bool} {z} : Run (evBin P H .eql t c .nilp .nilp k) z = Bind (eqKind P t) (fun kd => Run (onKind kd .pointer (k (.bool true))) .mk) .mk := by
  simp only [Run, Bind, evBin, onKind, evNil]
  cases eqKind P t <;> simp [nilState]
@[go_sem] theorem v_nilp_neq {t : TypeId} {c : Bool} {z} : Run (evBin P H .neq t c .nilp .nilp k) z = Bind (eqKind P t) (fun kd => Run (onKind kd .pointer (k (.bool false))) .mk) .mk := by
  simp only [Run, Bind, evBin, onKind, evNil]
  cases eqKind P t <;> simp [nilState]
@[go_sem] theorem v_ptrnil_eql {t : TypeId} {c : Bool} {l o : Nat} {z} : Run (evBin P H .eql t c (.ptr l o) .nilp k) z = Bind (eqKind P t) (fun kd => Run (onKind kd .pointer (k (.bool false))) .mk) .mk := by
  simp only [Run, Bind, evBin, onKind, evNil]
  cases eqKind P t <;> simp [nilState]
@[go_sem] theorem v_ptrnil_neq {t : TypeId} {c : Bool} {l o : Nat} {z} : Run (evBin P H .neq t c (.ptr l o) .nilp k) z = Bind (eqKind P t) (fun kd => Run (onKind kd .pointer (k (.bool true))) .mk) .mk := by
  simp only [Run, Bind, evBin, onKind, evNil]
  cases eqKind P t <;> simp [nilState]
@[go_sem] theorem v_iface_eql {t t' : TypeId} {c : Bool} {v : AV} {z} : Run (evBin P H .eql t c (.iface t' v) .niliface k) z = Bind (eqKind P t) (fun kd => Run (onKind kd .iface (k (.bool false))) .mk) .mk := by
  simp only [Run, Bind, evBin, onKind, evNil]
  cases eqKind P t <;> simp [nilState]
@[go_sem] theorem v_iface_neq {t t' : TypeId} {c : Bool} {v : AV} {z} : Run (evBin P H .neq t c (.iface t' v) .niliface k) z = Bind (eqKind P t) (fun kd => Run (onKind kd .iface (k (.bool true))) .mk) .mk := by
  simp only [Run, Bind, evBin, onKind, evNil]
  cases eqKind P t <;> simp [nilState]
@[go_sem] theorem v_niliface_eql {t : TypeId} {z} : Run (evBin P H .eql t true .niliface .niliface k) z = Bind (eqKind P t) (fun kd => Run (onKind kd .iface (k (.bool true))) .mk) .mk := by
  simp only [Run, Bind, evBin, onKind, true_and]
@[go_sem] theorem v_niliface_neq {t : TypeId} {z} : Run (evBin P H .neq t true .niliface .niliface k) z = Bind (eqKind P t) (fun kd => Run (onKind kd .iface (k (.bool false))) .mk) .mk := by
  simp only [Run, Bind, evBin, onKind, true_and]
@[go_sem] theorem v_slnil_eql {t : TypeId} {c : Bool} {z} : Run (evBin P H .eql t c .nilslice .nilslice k) z = Bind (eqKind P t) (fun kd => Run (onKind kd .slice (k (.bool true))) .mk) .mk := by
  simp only [Run, Bind, evBin, onKind, evNil]
  cases eqKind P t <;> simp [nilState]
@[go_sem] theorem v_slnil_neq {t : TypeId} {c : Bool} {z} : Run (evBin P H .neq t c .nilslice .nilslice k) z = Bind (eqKind P t) (fun kd => Run (onKind kd .slice (k (.bool false))) .mk) .mk := by
  simp only [Run, Bind, evBin, onKind, evNil]
  cases eqKind P t <;> simp [nilState]
@[go_sem] theorem v_slcons_eql {t : TypeId} {c : Bool} {sz : Nat} {x : AV} {xs : List AV} {z} : Run (evBin P H .eql t c (.slice sz (x :: xs)) .nilslice k) z = Bind (eqKind P t) (fun kd => Run (onKind kd .slice (k (.bool false))) .mk) .mk := by
  simp only [Run, Bind, evBin, onKind, evNil]
  cases eqKind P t <;> simp [nilState]
@[go_sem] theorem v_slcons_neq {t : TypeId} {c : Bool} {sz : Nat} {x : AV} {xs : List AV} {z} : Run (evBin P H .neq t c (.slice sz (x :: xs)) .nilslice k) z = Bind (eqKind P t) (fun kd => Run (onKind kd .slice (k (.bool true))) .mk) .mk := by
  simp only [Run, Bind, evBin, onKind, evNil]
  cases eqKind P t <;> simp [nilState]
attribute [go_sem] isConst Bool.or_true Bool.or_false Bool.not_true Bool.not_false
/-! strings and bits -/
@[go_sem] theorem v_index_str {s : List UInt8} {kd : IntKind} {n : Int} {z} : Run (evIndex 1 (.str s) (.int kd n) k) z = (0 ≤ n ∧ n < s.length ∧ Bind ((s.getD n.toNat 0).toNat : Int) (fun c => k (.int .u8 c)) .mk) := rfl
@[go_sem] theorem v_and {kx : IntKind} {a b : Int} {z} : Run (evInt .and kx a kx b k) z = Bind (kx.wrap (BitVec.ofInt kx.bits a &&& BitVec.ofInt kx.bits b).toNat) (fun n => k (.int kx n)) .mk := by simp [Run, Bind, evInt]
@[go_sem] theorem v_or {kx : IntKind} {a b : Int} {z} : Run (evInt .or kx a kx b k) z = Bind (kx.wrap (BitVec.ofInt kx.bits a ||| BitVec.ofInt kx.bits b).toNat) (fun n => k (.int kx n)) .mk := by simp [Run, Bind, evInt]
@[go_sem] theorem v_shl {kx ky : IntKind} {a b : Int} {z} : Run (evInt .shl kx a ky b k) z = (0 ≤ b ∧ Bind (kx.wrap (a * 2 ^ min b.toNat kx.bits)) (fun n => k (.int kx n)) .mk) := rfl
@[go_sem] theorem v_shr {kx ky : IntKind} {a b : Int} {z} : Run (evInt .shr kx a ky b k) z = (0 ≤ b ∧ Bind (a.fdiv (2 ^ min b.toNat kx.bits)) (fun n => k (.int kx n)) .mk) := rfl
@[go_sem] theorem wrap_of_u16 {x : Int} (h : 0 ≤ x ∧ x ≤ 65535) : IntKind.u16.wrap x = x := by
  simp only [IntKind.wrap, IntKind.bits, IntKind.signed]; simp; omega
@[go_sem] theorem wrap_of_u64 {x : Int} (h : 0 ≤ x ∧ x ≤ 18446744073709551615) : IntKind.u64.wrap x = x := by
  simp only [IntKind.wrap, IntKind.bits, IntKind.signed]; simp; omega
end
@[go_sem] theorem noLit_three {t : TypeId} : noLit t 3 = false := rfl
end Go.Sim

namespace Go.Sim
/-! ### contracts of the library, said of worlds, as contracts here -/
mutual
/-- a value that stands for itself: no memory in it -/
def AV.plainB : AV → Bool
  | .bool _ | .int _ _ | .str _ | .nilp | .nilslice | .nilmap | .nilfunc | .niliface => true
  | .agg cs | .tuple cs => plainAll cs
  | .iface _ v => v.plainB
  | _ => false
def plainAll : List AV → Bool
  | [] => true
  | v :: vs => v.plainB && plainAll vs
end
mutual
theorem Rel.plain {C C' : Ctx} : ∀ (v : AV) (x : Value), v.plainB = true → Rel C v x → Rel C' v x
  | .bool _, _, _, r | .int _ _, _, _, r | .str _, _, _, r | .nilp, _, _, r | .nilslice, _, _, r | .nilmap, _, _, r | .nilfunc, _, _, r | .niliface, _, _, r => r
  | .iface t v, x, h, r => by
    obtain ⟨y, rfl, h1⟩ := r
    exact ⟨y, rfl, Rel.plain v y h h1⟩
  | .agg cs, x, h, r => by
    obtain ⟨vs, rfl, h1⟩ := r
    exact ⟨vs, rfl, RelAll.plain cs _ h h1⟩
  | .tuple cs, x, h, r => by
    obtain ⟨vs, rfl, h1⟩ := r
    exact ⟨vs, rfl, RelAll.plain cs _ h h1⟩
  | .any, _, h, _ | .ptr _ _, _, h, _ | .cptr _ _, _, h, _ | .zcap, _, h, _ | .slice _ _, _, h, _ | .mslice _ _ _ _, _, h, _ | .meptr _ _ _ _ _, _, h, _ | .map _, _, h, _ | .cmap _ _, _, h, _ | .func _ _ _, _, h, _ => by cases h
theorem RelAll.plain {C C' : Ctx} : ∀ (vs : List AV) (xs : List Value), plainAll vs = true → RelAll C vs xs → RelAll C' vs xs
  | [], _, _, r => r
  | v :: vs, xs, h, r => by
    simp only [plainAll, Bool.and_eq_true] at h
    obtain ⟨y, ys, rfl, h1, h2⟩ := r
    exact ⟨y, ys, rfl, Rel.plain v y h.1 h1, RelAll.plain vs ys h.2 h2⟩
end
theorem below_ext {C : Ctx} {w' : World} (h : RowKit.Below C.w.heap.size C.w w') : Ext C { C with w := w' } where
  dom _ h := h
  β _ _ := rfl
  len _ _ := Nat.le_refl _
  σ _ _ _ := rfl
  im _ h := h
  old b hb _ := h.block b hb
  imOld _ _ h := .inl h
  ownOld _ _ h := h
  size := h.size
  shape b s hs := by
    rcases Nat.lt_or_ge b C.w.heap.size with h1 | h1
    · simp only [World.shape?, h.block b h1] at hs ⊢; exact hs
    · simp [World.shape?, h1] at hs
  same := ⟨h.os, h.output, h.tape⟩
  hi := Nat.le_refl _
  fresh _ h := .inl h
theorem below_grow (w : World) (k : Nat) (os : Array Obj) : RowKit.Below w.heap.size w (Go.Sort.grow (w.drewN k) os) :=
  ⟨rfl, rfl, rfl, by simp [Go.Sort.grow, World.drewN], fun i hi => by simp [Go.Sort.grow, World.drewN, Array.getElem?_append_left hi]⟩
variable {P : Program}
/-- a contract that only makes new memory -/
theorem PureFn.ofBelow {f : FuncId} {args : List AV} {v : AV} (hc : callable P f = true) (hv : v.plainB = true)
    (h : ∀ C vs, LibOk P C → RelAll C args vs → Calls P f vs.toArray C.w fun e w' => (∃ x, e = .returned x ∧ Rel C v x) ∧ RowKit.Below C.w.heap.size C.w w') : PureFn P f args (.ret v) := by
  refine ⟨hc, fun C vs hL hH hr => (h C vs hL hr).mono ?_⟩
  rintro e w' ⟨⟨x, rfl, hx⟩, hb⟩
  refine ⟨.ret v, { C with w := w' }, [], ⟨rfl, rfl⟩, rfl, below_ext hb, ?_, x, rfl, Rel.plain v x hv hx⟩
  refine ⟨fun l o hg => by simp [Heap.get] at hg, fun l o b hg => by simp [Heap.get] at hg, fun l l' o o' b hg => by simp [Heap.get] at hg, fun b hb' => Nat.lt_of_lt_of_le (hH.lt b hb') hb.size, hH.dom, hH.hi⟩
theorem tab_pow10 {C : Ctx} {g : Nat} (h : LibOk P C) (hg : P.globalNamed "internal/strconv.uint64pow10" = some g) : Lib.TabIs P C.w "internal/strconv.uint64pow10" .u64 Lib.pow10Tab := by
  have := (h _ _ (by unfold libVars; exact List.mem_cons_self ..) g hg).2
  unfold Lib.TabIs
  rw [this]
  unfold tabInts
  rfl
/-- a field of an object that holds a slice without room holds a row that is not there yet -/
theorem ACalls.nilcell {f : FuncId} {args : List AV} {H : Heap} {l o : Nat} {t : TypeId} {cs : List AV} {Q : AEnd → Heap → Prop} (sz : Nat) (tg : TypeId) (hg : H.get l = some (.box t cs)) (ho : o < cs.length) (hn : cs.getD o .any = .nilslice ∨ cs.getD o .any = .zcap)
    (h : ACalls P f args (H.set l (some (.box t (cs.set o (.mslice sz H.length 0 0)))) ++ [some (.row tg sz [])]) Q) : ACalls P f args H Q := by
  refine ⟨h.1, fun C vs hL hH hr => ?_⟩
  have hn0 : ¬ C.dom H.length := fun h => by have := hH.dom _ h; omega
  have hE := Ext.unreal hn0 hH.hi
  have hlt := Heap.get_lt hg
  have hH1 : HRel (C.unreal H.length) (H ++ [some (.row tg sz [])]) := (hH.list _).unreal Heap.get_push hn0 hH.hi
  have hH2 : HRel (C.unreal H.length) (H.set l (some (.box t (cs.set o (.mslice sz H.length 0 0)))) ++ [some (.row tg sz [])]) := by
    have hget : ∀ m, m ≠ l → Heap.get (H.set l (some (.box t (cs.set o (.mslice sz H.length 0 0)))) ++ [some (.row tg sz [])]) m = Heap.get (H ++ [some (.row tg sz [])]) m := by
      intro m hm
      simp only [Heap.get]
      rcases Nat.lt_or_ge m H.length with h1 | h1
      · rw [List.getElem?_append_left (by simpa using h1), List.getElem?_append_left h1, List.getElem?_set_ne (Ne.symm hm)]
      · rw [List.getElem?_append_right (by simpa using h1), List.getElem?_append_right h1, List.length_set]
    have hgl : Heap.get (H.set l (some (.box t (cs.set o (.mslice sz H.length 0 0)))) ++ [some (.row tg sz [])]) l = some (.box t (cs.set o (.mslice sz H.length 0 0))) := by
      simp only [Heap.get]
      rw [List.getElem?_append_left (by simpa using hlt), List.getElem?_set_self hlt]; rfl
    have hgl' : Heap.get (H ++ [some (.row tg sz [])]) l = some (.box t cs) := by
      rw [Heap.get_push_ne (by omega)]; exact hg
    have hwas : ∀ m ob, Heap.get (H.set l (some (.box t (cs.set o (.mslice sz H.length 0 0)))) ++ [some (.row tg sz [])]) m = some ob → ∃ ob', Heap.get (H ++ [some (.row tg sz [])]) m = some ob' ∧ blockOf (C.unreal H.length) m ob' = blockOf (C.unreal H.length) m ob := by
      intro m ob hm
      by_cases e : m = l
      · subst e
        rw [hgl] at hm; cases hm
        exact ⟨_, hgl', rfl⟩
      · rw [hget m e] at hm; exact ⟨_, hm, rfl⟩
    refine ⟨?_, ?_, ?_, hH1.lt, ?_, ?_⟩
    · intro m ob hm hd
      by_cases e : m = l
      · subst e
        rw [hgl] at hm; cases hm
        obtain ⟨ws, hh, hrw⟩ := hH1.obj m _ hgl' hd
        refine ⟨ws, hh, ?_⟩
        obtain ⟨x, hx, hxr⟩ := relAll_get hrw o (cs.getD o .any) (by simp [List.getD_eq_getElem?_getD, List.getElem?_eq_getElem ho])
        have hxe : ∃ a, x = .slice a 0 0 := by
          rcases hn with hn | hn
          · rw [hn] at hxr; exact ⟨none, hxr⟩
          · rw [hn] at hxr; exact hxr
        obtain ⟨a, rfl⟩ := hxe
        have hset : ws.toList = ws.toList.set o (.slice a 0 0) := by
          apply List.ext_getElem?
          intro j
          by_cases hj : o = j
          · subst hj
            rw [List.getElem?_set_self (by
              have := (List.getElem?_eq_some_iff.1 hx).1; exact this)]
            exact hx
          · rw [List.getElem?_set_ne hj]
        rw [hset]
        refine relAll_set o hrw ?_
        exact ⟨.inr rfl, by show 0 + 0 ≤ (if H.length = H.length then 0 else C.len H.length); simp, a, 0, rfl, Nat.le_refl _, fun _ => .inl ⟨if_pos rfl, rfl, rfl⟩⟩
      · rw [hget m e] at hm
        exact hH1.obj m ob hm hd
    · intro m ob b hm hd hb
      obtain ⟨ob', h1, h2⟩ := hwas m ob hm
      exact hH1.own m ob' b h1 hd (h2.trans hb)
    · intro m m' o1 o2 b hm hm' hd hd' hb hb'
      obtain ⟨p1, h1, h2⟩ := hwas m o1 hm
      obtain ⟨p2, h3, h4⟩ := hwas m' o2 hm'
      exact hH1.inj m m' p1 p2 b h1 h3 hd hd' (h2.trans hb) (h4.trans hb')
    · intro m hd
      have := hH1.dom m hd
      simpa using this
    · have := hH1.hi
      simpa using this
  refine (h.2 (C.unreal H.length) vs (hL.ext hE) hH2 (RelAll.mono hE _ _ hr)).mono ?_
  rintro e w' ⟨r, C', H', hq, hw, hE', hH', hre⟩
  exact ⟨r, C', H', hq, hw, hE.trans hE', hH', hre⟩
/-! ### a row that is only read from here on -/
def Ctx.still1 (C : Ctx) (b0 : Nat) : Ctx where
  dom := C.dom
  σ := C.σ
  β := C.β
  len := C.len
  own b := C.own b ∧ b ≠ b0
  im b := C.im b ∨ b = b0
  hi := C.hi
  w := C.w
theorem Ext.still1 {C : Ctx} {b0 : Nat} (h0 : C.own b0) : Ext C (C.still1 b0) where
  dom _ h := h
  β _ _ := rfl
  len _ _ := Nat.le_refl _
  σ _ _ _ := rfl
  im _ h := .inl h
  old _ _ _ := rfl
  imOld b _ h := h.elim .inl fun e => .inr (e ▸ h0)
  ownOld _ _ h := h.1
  size := Nat.le_refl _
  shape _ _ h := h
  same := SameIO.refl _
  hi := Nat.le_refl _
  fresh _ h := .inl h
def DropArg (l sz : Nat) (xs : List AV) (v v' : AV) : Prop := v' = v ∨ (v = .mslice sz l 0 xs.length ∧ v' = .slice sz xs)
theorem Heap.get_none {H : Heap} {l m : Nat} {o : AObj} (hm : Heap.get (H.set l none) m = some o) : m ≠ l ∧ H.get m = some o := by
  by_cases h : m = l
  · subst h
    exfalso
    simp only [Heap.get, List.getElem?_set] at hm
    rcases Nat.lt_or_ge m H.length with h1 | h1
    · simp [h1] at hm
    · have h2 : ¬ m < H.length := by omega
      simp [h2] at hm
  · rw [Heap.get_set_ne h] at hm; exact ⟨h, hm⟩
theorem HRel.none {C : Ctx} {H : Heap} {l : Nat} (hH : HRel C H) : HRel C (H.set l none) where
  obj m o hm hd := hH.obj m o (Heap.get_none hm).2 hd
  own m o b hm hd hb := hH.own m o b (Heap.get_none hm).2 hd hb
  inj m m' o o' b hm hm' hd hd' hb hb' := hH.inj m m' o o' b (Heap.get_none hm).2 (Heap.get_none hm').2 hd hd' hb hb'
  lt := hH.lt
  dom m hd := by rw [List.length_set]; exact hH.dom m hd
  hi := by rw [List.length_set]; exact hH.hi
theorem ACalls.drop {f : FuncId} {as as' : List AV} {H : Heap} {Q : AEnd → Heap → Prop} {l sz : Nat} {tg : TypeId} {xs : List AV} (hg : H.get l = some (.row tg sz xs)) (ha : All2 (DropArg l sz xs) as as')
    (h : ACalls P f as' (H.set l none) Q) : ACalls P f as H Q := by
  refine ⟨h.1, fun C vs hL hH hr => ?_⟩
  have key : ∃ C', C'.w = C.w ∧ Ext C C' ∧ HRel C' (H.set l Option.none) ∧ RelAll C' as' vs := by
    have fin : ∀ C' : Ctx, Ext C C' → (∀ v, Rel C (.mslice sz l 0 xs.length) v → Rel C' (.slice sz xs) v) → ∀ {as as' : List AV} {vs : List Value}, All2 (DropArg l sz xs) as as' → RelAll C as vs → RelAll C' as' vs := by
      intro C' hE hs as as' vs ha hr
      exact relAll_all2 (fun v v' x hd hx => by
        rcases hd with rfl | ⟨rfl, rfl⟩
        · exact Rel.mono hE _ _ hx
        · exact hs _ hx) ha hr
    by_cases hd : C.dom l
    · obtain ⟨hlen, ho⟩ := hH.obj l _ hg hd
      rcases ho with ⟨hσ, hxs⟩ | ⟨b, cs, fz, ws, hσ, hh, hrx, hrow, hsz, hfz⟩
      · subst hxs
        refine ⟨C, rfl, Ext.refl C, hH.none, fin C (Ext.refl C) (fun v hv => ?_) ha hr⟩
        obtain ⟨_, _, a, cap, rfl, hn, _⟩ := hv
        exact ⟨a, cap, rfl, hn, .inl rfl⟩
      · have hown := hH.own l _ b hg hd hσ
        have hE := Ext.still1 (C := C) hown
        refine ⟨C.still1 b, rfl, hE, ?_, fin _ hE (fun v hv => ?_) ha hr⟩
        · refine ⟨fun m o hm hdm => ?_, fun m o b' hm hdm hb' => ?_, fun m m' o o' b' hm hm' hdm hdm' hb hb' => ?_, fun b' hb' => hH.lt b' hb'.1, fun m hdm => ?_, ?_⟩
          · exact (hH.obj m o (Heap.get_none hm).2 hdm).mono hE rfl rfl rfl fun _ _ => rfl
          · have hb2 : blockOf C m o = some b' := by cases o <;> exact hb'
            refine ⟨hH.own m o b' (Heap.get_none hm).2 hdm hb2, ?_⟩
            rintro rfl
            exact (Heap.get_none hm).1 (hH.inj m l o _ b' (Heap.get_none hm).2 hg hdm hd hb2 hσ)
          · exact hH.inj m m' o o' b' (Heap.get_none hm).2 (Heap.get_none hm').2 hdm hdm' (by cases o <;> exact hb) (by cases o' <;> exact hb')
          · rw [List.length_set]; exact hH.dom m hdm
          · rw [List.length_set]; exact hH.hi
        · obtain ⟨_, _, a, cap, rfl, hn, hv⟩ := hv
          refine ⟨a, cap, rfl, hn, ?_⟩
          by_cases hx : xs = []
          · exact .inl hx
          · right
            rcases hv (by omega) with ⟨h1, _⟩ | ⟨b', e, m, h1, h2, _, _⟩
            · rw [hσ] at h1; cases h1
            · rw [hσ] at h1; cases h1
              exact ⟨b, 0 * sz, ws, h2, ⟨.inr rfl, fun ho => ho.2 rfl, hH.lt b hown⟩, RelAll.mono hE.pure _ _ hrx, by rw [Nat.zero_mul]; exact hrow⟩
    · refine ⟨C, rfl, Ext.refl C, hH.none, fin C (Ext.refl C) (fun v hv => absurd hv.1 hd) ha hr⟩
  obtain ⟨C1, hw, hE, hH1, hr1⟩ := key
  rw [← hw]
  refine (h.2 C1 vs (hL.ext hE) hH1 hr1).mono ?_
  rintro e w' ⟨r, C', H', hq, hw', hE', hH', hre⟩
  exact ⟨r, C', H', hq, hw', hE.trans hE', hH', hre⟩
/-- a call that hands a row over for good -/
theorem use_drop {f : FuncId} {as as' : List AV} {H : Heap} {r : AEnd} {K Kp : AV → Heap → Prop} {z} {l sz : Nat} {tg : TypeId} {xs : List AV} (h : PureFn P f as' r) (hg : H.get l = some (.row tg sz xs)) (ha : All2 (DropArg l sz xs) as as') (hp : pureAll as' = true)
    (hk : onEnd K Kp r (H.set l none)) : Run (CallG P f as H (onEnd K Kp)) z := .inl ((h.use hp hk).drop hg ha)
/-! a load that is made again finds the same -/
theorem re_load {ops : Array Oper} {E : Env} {H H' : Heap} {f : Nat} {r : List Nat} {o : Oper} {t : TypeId} {x : Operand} {l off : Nat} {z} (ho : ops[f]? = some o) (hop : o.op = .load t x) (hp : ope E x = .ptr l off) (hg : H'.get l = H.get l) (h : reAll P ops E H H' r) : Run (reAll P ops E H H' (f :: r)) z := by
  refine ⟨?_, h⟩
  unfold reOk
  rw [ho]
  simp only [hop, Op.makes, Bool.false_eq_true, if_false]
  intro _ v hv
  have e : ∀ G : Heap, ∀ k : AV → Prop, evV P G (ope E) (.load t x) k = evLoad P G t (ope E x) k := fun _ _ => rfl
  rw [e] at hv ⊢
  rw [hp] at hv ⊢
  simp only [evLoad] at hv ⊢
  rw [hg]; exact hv
theorem re_nil {ops : Array Oper} {E : Env} {H H' : Heap} : reAll P ops E H H' [] := trivial
attribute [go_sem] false_implies true_implies
attribute [simp] renAll AV.ren AObj.ren mapL frOk objLt merge setS AV.ltAll AV.lt AEnd.ren Heap.get
end Go.Sim

namespace Go.Sim
section
variable {P : Program}
/-! ### further rules -/
@[go_sem] theorem frz_iface {m : Nat} {H : Heap} {t t' : TypeId} {v v' : AV} : Frz (m + 1) H (.iface t v) (.iface t' v') = (t = t' ∧ Frz m H v v') := by simp [Frz]
def frzBox (m : Nat) (H : Heap) (o : Option AObj) (cs : List AV) : Prop := match o with
  | some (.box _ ds) => All2 (Frz m H) ds cs
  | _ => False
@[go_sem] theorem frz_ptr {m : Nat} {H : Heap} {l off off' : Nat} {cs : List AV} : Frz (m + 1) H (.ptr l off) (.cptr cs off') = (off = off' ∧ frzBox m H (H.get l) cs) := by
  simp only [Frz]; rfl
@[go_sem] theorem frzBox_box {m : Nat} {H : Heap} {t : TypeId} {ds cs : List AV} : frzBox m H (some (.box t ds)) cs = All2 (Frz m H) ds cs := rfl
@[simp] theorem frz_same {m : Nat} {H : Heap} {v : AV} (h : v.pureB = true) : Frz m H v v = True := eq_true (frz_self h)
@[go_sem, simp] theorem frz_niliface {m : Nat} {H : Heap} : Frz (m + 1) H .niliface .niliface = True := by simp [Frz, AV.pureB]
@[go_sem] theorem v_bool_eql {H : Heap} {k : AV → Prop} {t : TypeId} {c a b : Bool} {z} : Run (evBin P H .eql t c (.bool a) (.bool b) k) z = Bind (eqKind P t) (fun kd => Run (onKind kd .bool (k (.bool (a == b)))) .mk) .mk := by
  simp only [Run, Bind, evBin, onKind, evNil]
  cases eqKind P t <;> simp [nilState]
@[go_sem] theorem v_cptrnil_eql {H : Heap} {k : AV → Prop} {t : TypeId} {c : Bool} {cs : List AV} {o : Nat} {z} : Run (evBin P H .eql t c (.cptr cs o) .nilp k) z = Bind (eqKind P t) (fun kd => Run (onKind kd .pointer (k (.bool false))) .mk) .mk := by
  simp only [Run, Bind, evBin, onKind, evNil]
  cases eqKind P t <;> simp [nilState]
@[go_sem] theorem v_meptrnil_eql {H : Heap} {k : AV → Prop} {t : TypeId} {c : Bool} {sz l ver i o : Nat} {z} : Run (evBin P H .eql t c (.meptr sz l ver i o) .nilp k) z = Bind (eqKind P t) (fun kd => Run (onKind kd .pointer (k (.bool false))) .mk) .mk := by
  simp only [Run, Bind, evBin, onKind, evNil]
  cases eqKind P t <;> simp [nilState]
@[go_sem] theorem v_mapnil_eql {H : Heap} {k : AV → Prop} {t : TypeId} {c : Bool} {l : Nat} {z} : Run (evBin P H .eql t c (.map l) .nilmap k) z = Bind (eqKind P t) (fun kd => Run (onKind kd .map (k (.bool false))) .mk) .mk := by
  simp only [Run, Bind, evBin, onKind, evNil]
  cases eqKind P t <;> simp [nilState]
@[go_sem] theorem v_cmapnil_eql {H : Heap} {k : AV → Prop} {t : TypeId} {c : Bool} {ks vs : List AV} {z} : Run (evBin P H .eql t c (.cmap ks vs) .nilmap k) z = Bind (eqKind P t) (fun kd => Run (onKind kd .map (k (.bool false))) .mk) .mk := by
  simp only [Run, Bind, evBin, onKind, evNil]
  cases eqKind P t <;> simp [nilState]
@[go_sem] theorem v_nilmap_eql {H : Heap} {k : AV → Prop} {t : TypeId} {c : Bool} {z} : Run (evBin P H .eql t c .nilmap .nilmap k) z = Bind (eqKind P t) (fun kd => Run (onKind kd .map (k (.bool true))) .mk) .mk := by
  simp only [Run, Bind, evBin, onKind, evNil]
  cases eqKind P t <;> simp [nilState]
@[go_sem] theorem v_funcnil_eql {H : Heap} {k : AV → Prop} {t : TypeId} {c : Bool} {f : Fn} {a b : List AV} {z} : Run (evBin P H .eql t c (.func f a b) .nilfunc k) z = Bind (eqKind P t) (fun kd => Run (onKind kd .func (k (.bool false))) .mk) .mk := by
  simp only [Run, Bind, evBin, onKind, evNil]
  cases eqKind P t <;> simp [nilState]
@[go_sem] theorem v_nilfunc_eql {H : Heap} {k : AV → Prop} {t : TypeId} {c : Bool} {z} : Run (evBin P H .eql t c .nilfunc .nilfunc k) z = Bind (eqKind P t) (fun kd => Run (onKind kd .func (k (.bool true))) .mk) .mk := by
  simp only [Run, Bind, evBin, onKind, evNil]
  cases eqKind P t <;> simp [nilState]
@[go_sem] theorem v_bool_neq {H : Heap} {k : AV → Prop} {t : TypeId} {c a b : Bool} {z} : Run (evBin P H .neq t c (.bool a) (.bool b) k) z = Bind (eqKind P t) (fun kd => Run (onKind kd .bool (k (.bool (!(a == b))))) .mk) .mk := by
  simp only [Run, Bind, evBin, onKind, evNil]
  cases eqKind P t <;> simp [nilState]
@[go_sem] theorem v_cptrnil_neq {H : Heap} {k : AV → Prop} {t : TypeId} {c : Bool} {cs : List AV} {o : Nat} {z} : Run (evBin P H .neq t c (.cptr cs o) .nilp k) z = Bind (eqKind P t) (fun kd => Run (onKind kd .pointer (k (.bool true))) .mk) .mk := by
  simp only [Run, Bind, evBin, onKind, evNil]
  cases eqKind P t <;> simp [nilState]
@[go_sem] theorem v_meptrnil_neq {H : Heap} {k : AV → Prop} {t : TypeId} {c : Bool} {sz l ver i o : Nat} {z} : Run (evBin P H .neq t c (.meptr sz l ver i o) .nilp k) z = Bind (eqKind P t) (fun kd => Run (onKind kd .pointer (k (.bool true))) .mk) .mk := by
  simp only [Run, Bind, evBin, onKind, evNil]
  cases eqKind P t <;> simp [nilState]
@[go_sem] theorem v_mapnil_neq {H : Heap} {k : AV → Prop} {t : TypeId} {c : Bool} {l : Nat} {z} : Run (evBin P H .neq t c (.map l) .nilmap k) z = Bind (eqKind P t) (fun kd => Run (onKind kd .map (k (.bool true))) .mk) .mk := by
  simp only [Run, Bind, evBin, onKind, evNil]
  cases eqKind P t <;> simp [nilState]
@[go_sem] theorem v_cmapnil_neq {H : Heap} {k : AV → Prop} {t : TypeId} {c : Bool} {ks vs : List AV} {z} : Run (evBin P H .neq t c (.cmap ks vs) .nilmap k) z = Bind (eqKind P t) (fun kd => Run (onKind kd .map (k (.bool true))) .mk) .mk := by
  simp only [Run, Bind, evBin, onKind, evNil]
  cases eqKind P t <;> simp [nilState]
@[go_sem] theorem v_nilmap_neq {H : Heap} {k : AV → Prop} {t : TypeId} {c : Bool} {z} : Run (evBin P H .neq t c .nilmap .nilmap k) z = Bind (eqKind P t) (fun kd => Run (onKind kd .map (k (.bool false))) .mk) .mk := by
  simp only [Run, Bind, evBin, onKind, evNil]
  cases eqKind P t <;> simp [nilState]
@[go_sem] theorem v_funcnil_neq {H : Heap} {k : AV → Prop} {t : TypeId} {c : Bool} {f : Fn} {a b : List AV} {z} : Run (evBin P H .neq t c (.func f a b) .nilfunc k) z = Bind (eqKind P t) (fun kd => Run (onKind kd .func (k (.bool true))) .mk) .mk := by
  simp only [Run, Bind, evBin, onKind, evNil]
  cases eqKind P t <;> simp [nilState]
@[go_sem] theorem v_nilfunc_neq {H : Heap} {k : AV → Prop} {t : TypeId} {c : Bool} {z} : Run (evBin P H .neq t c .nilfunc .nilfunc k) z = Bind (eqKind P t) (fun kd => Run (onKind kd .func (k (.bool false))) .mk) .mk := by
  simp only [Run, Bind, evBin, onKind, evNil]
  cases eqKind P t <;> simp [nilState]
@[go_sem] theorem v_nin_eql {H : Heap} {k : AV → Prop} {t : TypeId} {n : Nat} {v : Value} {z} : Run (evBin P H .eql t (isConst (.tmp n) || isConst (.const v)) .niliface .niliface k) z = Bind (eqKind P t) (fun kd => Run (onKind kd .iface (k (.bool true))) .mk) .mk := v_niliface_eql
@[go_sem] theorem v_nin_neq {H : Heap} {k : AV → Prop} {t : TypeId} {n : Nat} {v : Value} {z} : Run (evBin P H .neq t (isConst (.tmp n) || isConst (.const v)) .niliface .niliface k) z = Bind (eqKind P t) (fun kd => Run (onKind kd .iface (k (.bool false))) .mk) .mk := v_niliface_neq
attribute [simp] frz_tuple frz_agg frz_nil frz_zcap frz_mslice frzRow_row all2_nil all2_cons frz_bool frz_int frz_str frz_slice frz_iface frz_ptr frzBox_box
attribute [go_sem] bne_self_eq_false beq_self_eq_true
/-- a call by a contract in a small heap -/
theorem acalls_frame {f : FuncId} {as as0 : List AV} {Hs H1 H H2 : Heap} {r1 r2 : AEnd} {K Kp : AV → Heap → Prop} (π : List Nat) (h : ACalls P f as0 Hs fun r H' => r = r1 ∧ H' = H1) (hn : π.Nodup) (hlen : π.length = Hs.length) (hlt : ∀ p ∈ π, p < H.length)
    (ha : AV.ltAll Hs.length as0 = true) (has : renAll (mapL π H.length) as0 = as) (ho : frOk H (mapL π H.length) Hs.length π Hs) (hr : r1.ren (mapL π H.length) = r2) (hH : merge H π (mapL π H.length) H1 = H2) (hk : onEnd K Kp r2 H2) :
    ACalls P f as H (onEnd K Kp) := by
  subst has hr hH
  refine ((h.frame hn hlen hlt ha (fun l o hg => ?_)).mono ?_)
  · have hl := Heap.get_lt hg
    have := frOk_spec (π := π) l o ho hg (by omega)
    unfold mapL
    rw [if_pos (by omega)]
    exact this
  · rintro r H' ⟨r0, Hs', ⟨rfl, rfl⟩, rfl, rfl⟩
    exact hk
theorem use_nilcell {f : FuncId} {args : List AV} {H : Heap} {l o : Nat} {t : TypeId} {cs : List AV} {K Kp : AV → Heap → Prop} {z} (sz : Nat) (tg : TypeId) (hg : H.get l = some (.box t cs)) (ho : o < cs.length) (hn : cs.getD o .any = .nilslice ∨ cs.getD o .any = .zcap)
    (h : ACalls P f args (H.set l (some (.box t (cs.set o (.mslice sz H.length 0 0)))) ++ [some (.row tg sz [])]) (onEnd K Kp)) : Run (CallG P f args H (onEnd K Kp)) z := .inl (ACalls.nilcell sz tg hg ho hn h)
end
end Go.Sim

namespace Go.Sim
open Go.ChangeShapes Go.WideShapes
/-! ### from the reading of arguments to abstract values, and back -/
/-- what came in: all of it can be read, none of it is written -/
def readC (W : World) : Ctx where
  dom _ := False
  σ _ := none
  β _ := 0
  len _ := 0
  own _ := False
  im _ := True
  hi := 0
  w := W
theorem readC_pure (W : World) : (readC W).pure = readC W := rfl
theorem readC_still {W : World} {b : Nat} (h : b < W.heap.size) : (readC W).still b := ⟨trivial, fun h => h, h⟩
/-- what was there is there still -/
structure Kept (W w' : World) : Prop where
  os : w'.os = W.os
  output : w'.output = W.output
  old : ∀ b : Nat, b < W.heap.size → w'.heap[b]? = W.heap[b]?
theorem Kept.keptBut {W w' : World} (h : Kept W w') (may : MemPlace → Prop) : W.keptBut w' may := by
  refine ⟨h.os, h.output, fun i hi => ?_⟩
  rw [h.old i hi]
  cases W.heap[i]? with
  | none => rfl
  | some o => cases o <;> first | exact rfl | exact ⟨rfl, rfl, rfl, fun _ _ => rfl⟩ | exact .inr ⟨rfl, rfl⟩
theorem Kept.sameAt {W w' : World} (h : Kept W w') {p : MemPlace} (hp : p.block < W.heap.size) : W.sameAt w' p := by
  cases p with
  | cell b off => exact cell_of_heap (h.old b hp) off
  | map b => exact h.old b hp
theorem Kept.frozen {W w' : World} (h : Kept W w') {b off : Nat} (hp : b < W.heap.size) : w'.frozen? ⟨b, off, none⟩ = W.frozen? ⟨b, off, none⟩ := by
  simp only [World.frozen?, h.old b hp]
theorem calls_of_pure {P : Program} {f : FuncId} {args : List AV} {v : AV} (h : PureFn P f args (.ret v)) {W : World} {vs : List Value} (hL : LibOk P (readC W)) (hr : RelAll (readC W) args vs) (hf : v.flatB = true) :
    Calls P f vs.toArray W fun e w' => ∃ x, e = .returned x ∧ Rel (readC W) v x ∧ Kept W w' := by
  refine (h.2 (readC W) vs hL (HRel.nil (fun _ h => h) (fun _ h => h) rfl) hr).mono ?_
  rintro e w' ⟨r, C', H', ⟨rfl, rfl⟩, rfl, hE, hH, x, rfl, hv⟩
  exact ⟨x, rfl, Rel.flat v x hf hv, hE.same.1, hE.same.2.1, fun b hb => hE.old b hb fun h => h⟩
section
variable {H : Type} {enc : TypeId × Value → H} {P : Program}
theorem post_kept {f : Func} {s : ChangeSpec} {apart fresh handsOn again : Bool} {W W' : World} {args : Array Value} {v : Value} {ds gs : List (DataW H)} {before pa pv : List MemPlace}
    (hW : DataW.Whole enc P f.params.toList s.vars apart W args.toList ds gs before)
    (hres : ∀ (b : Nat) (sp : Nat → Bool) (hd : Bool), DataW.TrodAll enc P W' b sp hd f.resultTypes.toList (v.resultList f.resultTypes.size) (s.fn H (ds ++ gs)).results [])
    (hargs : ∀ sp : Nat → Bool, (∀ p ∈ before, sp p.block = true) → DataW.TrodAll enc P W' 0 sp true f.params.toList args.toList (s.fn H (ds ++ gs)).args pa)
    (hvars : ∀ sp : Nat → Bool, (∀ p ∈ before, sp p.block = true) → DataW.TrodVars enc P W' sp s.vars (s.fn H (ds ++ gs)).vars pv)
    (hps : before = pa ++ pv) (hk : Kept W W')
    (hok : ∀ (j : Nat) (t : TypeId) (r : Value), f.resultTypes[j]? = some t → (v.resultList f.resultTypes.size)[j]? = some r → Value.okWide P W' .any 0 t r) :
    s.post enc P f apart fresh handsOn again W args v W' := by
  have hlt := hW.lt
  have hold : ∀ p ∈ before, (fun b => decide (b < W.heap.size)) p.block = true := fun p hp => by simpa using hlt p hp
  refine ⟨ds, gs, before, [], pa, pv, hW, hres _ _ _, hargs _ hold, hvars _ hold, World.keptBut_mono (fun p hp => ⟨hp, ?_⟩) (hk.keptBut (· ∈ before)), fun _ => ?_⟩
  · rw [hps, List.mem_append] at hp
    exact Or.inr hp
  · obtain ⟨_, _, _, _, _, hz, hn⟩ := hW
    refine ⟨hok, _, _, ([] ++ pa) ++ pv, ⟨[] ++ pa, pv, trodAll_append (hargs _ (fun _ _ => rfl)) (hres _ _ _), hvars _ (fun _ _ => rfl), rfl, ?_, ?_⟩, ?_⟩
    · intro b off hp
      have hm : MemPlace.cell b off ∈ before := by rw [hps]; simpa using hp
      have hb : b < W.heap.size := hlt _ hm
      rw [hk.frozen hb]
      exact hz b off hm
    · intro ha
      have := hn ha
      rw [hps] at this
      simpa using this
    · intro p hp _
      rw [hps]
      simpa using hp
theorem mapM_range {β : Type} {g : Nat → Option β} : ∀ (n k : Nat) {r : List β}, (List.range' k n).mapM g = some r → r.length = n ∧ ∀ i, i < n → g (k + i) = r[i]?
  | 0, k, r, h => by simp at h; subst h; simp
  | n + 1, k, r, h => by
    rw [List.range'_succ, List.mapM_cons] at h
    cases hg : g k with
    | none => simp [hg] at h
    | some y =>
      cases hr : (List.range' (k + 1) n).mapM g with
      | none => simp [hg, hr] at h
      | some ys =>
        simp [hg, hr] at h
        subst h
        obtain ⟨h1, h2⟩ := mapM_range n (k + 1) hr
        refine ⟨by simp [h1], fun i hi => ?_⟩
        cases i with
        | zero => simpa using hg
        | succ i =>
          have := h2 i (by omega)
          rw [show k + (i + 1) = k + 1 + i from by omega]
          simpa using this
theorem cells_read {W : World} {base : Nat} {a : Addr} {n : Nat} {cs : List Value} (hn : 0 < n) (h : W.cells? base a n = some cs) : a = ⟨a.block, a.off, none⟩ ∧ a.block < W.heap.size ∧ cs.length = n ∧ CellsAt W a.block a.off cs := by
  unfold World.cells? at h
  split at h <;> first | (cases h; done) | skip
  rw [List.range_eq_range'] at h
  obtain ⟨h1, h2⟩ := mapM_range n 0 h
  simp only [Nat.zero_add] at h2
  have h0 := h2 0 hn
  rw [List.getElem?_eq_getElem (by omega)] at h0
  have hadd0 : a.add 0 = a := by simp [Addr.add]
  rw [hadd0] at h0
  have hs : a.spot = none ∧ a.block < W.heap.size := by
    unfold World.cell? at h0
    cases hb : W.heap[a.block]? with
    | none => rw [hb] at h0; cases h0
    | some o =>
      refine ⟨?_, (Array.getElem?_eq_some_iff.1 hb).1⟩
      rw [hb] at h0
      cases o <;> simp only at h0 <;> first | (cases h0; done) | skip
      cases hsp : a.spot with
      | none => rfl
      | some s => simp [hsp] at h0
  have ha : a = ⟨a.block, a.off, none⟩ := by
    cases a; simp only at hs ⊢; simp [hs.1]
  refine ⟨ha, hs.2, h1, fun j v hj => ?_⟩
  have hjl : j < n := by have := (List.getElem?_eq_some_iff.1 hj).1; omega
  have := h2 j hjl
  rw [hj, ha, addr_add] at this
  exact this
end
end Go.Sim

namespace Go.Sim
open Go.ChangeShapes Go.WideShapes
/-! ### what the row lays -/
theorem laidVars_mem {P : Program} {W : World} : ∀ {laid : List (String × DataW Unit)} {ps : List MemPlace}, DataW.LaidVars P W laid ps → ∀ n d, (n, d) ∈ laid →
    ∃ g t cs fuel p, P.globalNamed n = some g ∧ (P.globals[g]?).map (·.type) = some t ∧ W.var? P n = some cs ∧ DataW.trod (fun _ => ()) P W 0 (fun _ => true) false fuel t cs.toList = some (d, p)
  | [], _, _, _, _, h => by cases h
  | (n', d') :: r, ps, hl, n, d, h => by
    obtain ⟨g, t, cs, fuel, p, q, h1, h2, h3, h4, h5, _⟩ := hl
    rcases List.mem_cons.1 h with e | h
    · cases e; exact ⟨g, t, cs, fuel, p, h1, h2, h3, h4⟩
    · exact laidVars_mem h5 n d h
theorem tabIs_of_mem {P : Program} {W : World} {laid : List (String × DataW Unit)} {name : String} {k : IntKind} {zs : List Int} {g : Nat} {t e : TypeId} {n : Nat}
    (hg : P.globalNamed name = some g) (hty : (P.globals[g]?).map (·.type) = some t) (ht : P.underlying t = some (.array n e)) (he : P.underlying e = some (.int k)) (hce : P.cellsOf e = 1) (hct : P.cellsOf t = n)
    (hm : (name, Lib.tabData k zs) ∈ laid) (h : laidMet P laid W) : W.var? P name = some (tabInts k zs) := by
  obtain ⟨ps, hl, _⟩ := h
  obtain ⟨g', t', cs, fuel, p, hg', ht', hvar, hd⟩ := laidVars_mem hl _ _ hm
  obtain rfl := Option.some.inj (hg.symm.trans hg')
  obtain rfl := Option.some.inj (hty.symm.trans ht')
  rw [hvar]
  unfold tabInts
  rw [← Lib.cells_of_tab ht he hce hct hd]
theorem still_of_var {P : Program} {W : World} {n : String} {cs : Array Value} {g : Nat} (h : W.var? P n = some cs) (hg : P.globalNamed n = some g) : (readC W).still g := by
  refine readC_still ?_
  simp only [World.var?, hg, Option.bind_some] at h
  cases hq : W.heap[g]? with
  | none => rw [hq] at h; cases h
  | some o => exact (Array.getElem?_eq_some_iff.1 hq).1
theorem libOk_intro {P : Program} {W : World} (h : ∀ n cs, (n, cs) ∈ libVars → ∀ g, P.globalNamed n = some g → W.var? P n = some cs) : LibOk P (readC W) :=
  fun n cs hm g hg => ⟨still_of_var (h n cs hm g hg) hg, h n cs hm g hg⟩
def layAt (n : Nat) (cs : Array Value) (h : Array Obj) : Array Obj := h.modify n fun o => match o with
  | .cells _ t frozen => .cells cs t frozen
  | o => o
/-! ### structs and cells that are read -/
def fieldsB (P : Program) (t : TypeId) : List (Nat × TypeId) := match P.underlying t with
  | some (.struct fs) => fs.toList.map fun f => (f.offset, f.type)
  | _ => []
section
variable {H : Type} {enc : TypeId × Value → H} {P : Program} {W : World} {base : Nat} {spare : Nat → Bool} {held : Bool}
/-- a struct's fields, read one by one -/
theorem struct_read {t : TypeId} {fl : List (Nat × TypeId)} {fuel : Nat} {cs : List Value} {x : DataW H × List MemPlace} (hf : fieldsB P t = fl) (hne : fl ≠ []) (h : DataW.trod enc P W base spare held fuel t cs = some x) :
    ∃ (xs : List (DataW H × List MemPlace)) (n : Nat), fuel = n + 1 ∧ x.1 = .agg (xs.map (·.1)) ∧ cs.length = P.cellsOf t ∧ xs.length = fl.length ∧
      ∀ (i : Nat) (o : Nat) (u : TypeId), fl[i]? = some (o, u) → DataW.trod enc P W base spare held n u ((cs.drop o).take (P.cellsOf u)) = xs[i]? := by
  unfold fieldsB at hf
  split at hf
  · rename_i fs hu
    obtain ⟨xs, n, h1, h2, h3, h4, h5⟩ := DataW.trod_struct hu h
    subst hf
    refine ⟨xs, n, h1, by rw [h2], h3, by simpa using h4, fun i o u hi => ?_⟩
    rw [List.getElem?_map] at hi
    cases hfi : fs[i]? with
    | none =>
      rw [Array.getElem?_toList, hfi] at hi; cases hi
    | some f =>
      rw [Array.getElem?_toList, hfi] at hi
      simp only [Option.map_some, Option.some.injEq, Prod.mk.injEq] at hi
      obtain ⟨rfl, rfl⟩ := hi
      exact h5 i f hfi
  · exact absurd hf.symm hne
theorem some_at {α : Type} {xs : List α} {i : Nat} (h : i < xs.length) : ∃ y, xs[i]? = some y := ⟨_, List.getElem?_eq_getElem h⟩
end
end Go.Sim
