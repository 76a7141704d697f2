/- Rules by which the abstract evaluation is computed. -/
import Derived.Test.YtnfaajgnecjkiaaGreatDoorSimD
set_option linter.unusedVariables false
set_option linter.unusedSimpArgs false
namespace Go.Sim
/-! ### evaluation that simp does not look into -/
inductive Lit.{u} {α : Sort u} (a : α) : Type
  | mk
/-- a proposition that is not looked into -/
def Run (p : Prop) (_ : Lit p) : Prop := p
/-- a value that is computed before what follows -/
def Bind.{u} {α : Sort u} (x : α) (k : α → Prop) (_ : Lit k) : Prop := k x
def Split (c A B : Prop) : Prop := (c → A) ∧ (¬ c → B)
theorem run_eq {p : Prop} {z : Lit p} : Run p z = p := rfl
@[go_sem] theorem bind_eq.{u} {α : Sort u} {x : α} {k : α → Prop} {z : Lit k} : Bind x k z = k x := rfl
section
variable {P : Program} {O : LitO} {n0 : Nat} {e : Env} {H : Heap} {Q : AX → Env → Heap → Prop} {K : Env → Heap → Prop} {Kp : AV → Env → Heap → Prop} {ops : Array Oper} {r : List Oper} {d : Option Nat} {ty : TypeId} {pos : String} {aft : Array Edge} {g : Option (Nat × Bool)} {k : AV → Prop} {kl : List AV → Prop}
@[go_sem ↓] theorem get_some {n t : Nat} {v : AV} : Env.get (putE (some n) v e) t = if n = t then v else e.get t := rfl
@[go_sem ↓] theorem get_none {t : Nat} {v : AV} : Env.get (putE none v e) t = e.get t := rfl
@[go_sem ↓] theorem get_cons {n t : Nat} {v : AV} : Env.get ((n, v) :: e) t = if n = t then v else e.get t := rfl
@[go_sem ↓] theorem get_nil {t : Nat} : Env.get [] t = .any := rfl
@[go_sem ↓] theorem ope_tmp {t : Nat} : ope e (.tmp t) = e.get t := rfl
@[go_sem ↓] theorem ope_const {v : Value} : ope e (.const v) = .ofVal v := rfl
@[go_sem ↓] theorem ope_func {f : FuncId} : ope e (.func f) = .func (.func f) [] [] := rfl
@[go_sem ↓] theorem r_skip {z} : Run (awp P O n0 .skip Q e H) z = Run (Q .normal e H) .mk := rfl
@[go_sem ↓] theorem r_region {id : Nat} {l : List Oper} {z} : Run (awp P O n0 (.region id l.toArray false) Q e H) z = Run (awpOps P O l.toArray l (Q .normal) (fun v => Q (.panic v)) e H) .mk := rfl
@[go_sem ↓] theorem r_seq {a b : Code} {z} : Run (awp P O n0 (.seq a b) Q e H) z = Run (awp P O n0 a (thenQ (awp P O n0 b Q) Q) e H) .mk := rfl
@[go_sem ↓] theorem r_cond {c : Operand} {a b : Code} {z} : Run (awp P O n0 (.cond c a b) Q e H) z = Bind (ope e c) (fun v => Run (onBool v fun t => Run (Split (t = true) (Run (awp P O n0 a Q e H) .mk) (Run (awp P O n0 b Q e H) .mk)) .mk) .mk) .mk := by
  simp only [Run, Bind, Split, awp_cond]
  cases ope e c <;> simp [onBool]
@[go_sem] theorem r_onBool {t : Bool} {k : Bool → Prop} {z} : Run (onBool (.bool t) k) z = Bind t k .mk := rfl
@[go_sem ↓] theorem r_block {id : Nat} {b : Code} {z} : Run (awp P O n0 (.block id b) Q e H) z = Run (awp P O n0 b (blockQ id Q) e H) .mk := rfl
@[go_sem ↓] theorem r_exit {id : Nat} {z} : Run (awp P O n0 (.exit id) Q e H) z = Run (Q (.exit id) e H) .mk := rfl
@[go_sem ↓] theorem r_ret {z} : Run (awp P O n0 .ret Q e H) z = Run (Q .ret e H) .mk := rfl
@[go_sem ↓] theorem r_then_normal {z} : Run (thenQ K Q .normal e H) z = Run (K e H) .mk := rfl
@[go_sem ↓] theorem r_then_exit {id : Nat} {z} : Run (thenQ K Q (.exit id) e H) z = Run (Q (.exit id) e H) .mk := rfl
@[go_sem ↓] theorem r_then_ret {z} : Run (thenQ K Q .ret e H) z = Run (Q .ret e H) .mk := rfl
@[go_sem ↓] theorem r_then_panic {v : AV} {z} : Run (thenQ K Q (.panic v) e H) z = Run (Q (.panic v) e H) .mk := rfl
@[go_sem ↓] theorem r_block_normal {id : Nat} {z} : Run (blockQ id Q .normal e H) z = Run (Q .normal e H) .mk := rfl
@[go_sem ↓] theorem r_block_exit {id id' : Nat} {z} : Run (blockQ id Q (.exit id') e H) z = if id' = id then Run (Q .normal e H) .mk else Run (Q (.exit id') e H) .mk := by
  simp only [Run, blockQ_exit]
@[go_sem ↓] theorem r_block_ret {id : Nat} {z} : Run (blockQ id Q .ret e H) z = Run (Q .ret e H) .mk := rfl
@[go_sem ↓] theorem r_block_panic {id : Nat} {v : AV} {z} : Run (blockQ id Q (.panic v) e H) z = Run (Q (.panic v) e H) .mk := rfl
@[go_sem ↓] theorem r_nil {z} : Run (awpOps P O ops [] K Kp e H) z = Run (K e H) .mk := rfl
@[go_sem ↓] theorem r_guard {o : Op} {j : Nat} {want : Bool} {l : List Oper} {z} : Run (awpOps P O l.toArray (⟨d, o, ty, pos, aft, some (j, want)⟩ :: r) K Kp e H) z =
    Bind (l[j]?.map (·.dst)) (fun s => Bind (guardAt e s) (fun v => Run (guardK v want (Run (awpOps P O l.toArray (⟨d, o, ty, pos, aft, none⟩ :: r) K Kp e H) .mk) (Run (awpOps P O l.toArray r K Kp (putE d (.tuple []) e) H) .mk)) .mk) .mk) .mk := by
  simp only [Run, Bind, ops_guard, guardVal_eq]
@[go_sem ↓] theorem r_guardK {b want : Bool} {A B : Prop} {z} : Run (guardK (.bool b) want A B) z = Bind b (fun b => Run (Split (b = want) A B) .mk) .mk := rfl
@[go_sem ↓] theorem r_guardK_skip {want : Bool} {A B : Prop} {z} : Run (guardK (.tuple []) want A B) z = B := rfl
@[go_sem ↓] theorem r_split_tt {A B : Prop} {z} : Run (Split (true = true) A B) z = A := by simp [Run, Split]
@[go_sem ↓] theorem r_split_ff {A B : Prop} {z} : Run (Split (false = false) A B) z = A := by simp [Run, Split]
@[go_sem ↓] theorem r_split_tf {A B : Prop} {z} : Run (Split (true = false) A B) z = B := by simp [Run, Split]
@[go_sem ↓] theorem r_split_ft {A B : Prop} {z} : Run (Split (false = true) A B) z = B := by simp [Run, Split]
@[go_sem] theorem r_split {b want : Bool} {A B : Prop} {z} : Run (Split (b = want) A B) z = ((b = want → A) ∧ (b = !want → B)) := by
  cases b <;> cases want <;> simp [Run, Split]
@[go_sem ↓] theorem r_guardAt {t : Nat} : guardAt e (some (some t)) = e.get t := rfl
@[go_sem ↓] theorem r_pick {c x y : Operand} {z} : Run (awpOps P O ops (⟨d, .pick c x y, ty, pos, aft, none⟩ :: r) K Kp e H) z =
    Bind (ope e c) (fun v => Bind (ope e x) (fun a => Bind (ope e y) (fun b => Run (onBool v fun t => Bind (if t then a else b) (fun a => Run (awpOps P O ops r K Kp (putE d a e) H) .mk) .mk) .mk) .mk) .mk) .mk := rfl
@[go_sem ↓] theorem r_move {x : Operand} {z} : Run (awpOps P O ops (⟨d, .move x, ty, pos, aft, none⟩ :: r) K Kp e H) z = Bind (ope e x) (fun a => Run (awpOps P O ops r K Kp (putE d a e) H) .mk) .mk := by
  simp only [Run, Bind, ops_move]
@[go_sem ↓] theorem r_assign {x : Operand} {z} : Run (awpOps P O ops (⟨d, .assign x, ty, pos, aft, none⟩ :: r) K Kp e H) z = Bind (ope e x) (fun a => Run (awpOps P O ops r K Kp (putE d a e) H) .mk) .mk := by
  simp only [Run, Bind, ops_assign]
@[go_sem ↓] theorem r_load {t : TypeId} {p : Operand} {z} : Run (awpOps P O ops (⟨d, .load t p, ty, pos, aft, none⟩ :: r) K Kp e H) z = Bind (ope e p) (fun a => Run (evLoad P H t a fun v => Run (awpOps P O ops r K Kp (putE d v e) H) .mk) .mk) .mk := by
  simp only [Run, Bind, ops_load]
@[go_sem ↓] theorem r_nilCheck {x : Operand} {z} : Run (awpOps P O ops (⟨d, .nilCheck x, ty, pos, aft, none⟩ :: r) K Kp e H) z = Bind (ope e x) (fun a => Run (evNilCheck a fun v => Run (awpOps P O ops r K Kp (putE d v e) H) .mk) .mk) .mk := by
  simp only [Run, Bind, ops_nilCheck]
@[go_sem ↓] theorem r_binOp {op : BinOp} {t u : TypeId} {x y : Operand} {z} : Run (awpOps P O ops (⟨d, .binOp op t x y u, ty, pos, aft, none⟩ :: r) K Kp e H) z = Bind (ope e x) (fun a => Bind (ope e y) (fun b => Run (evBin P H op t (isConst x || isConst y) a b fun v => Run (awpOps P O ops r K Kp (putE d v e) H) .mk) .mk) .mk) .mk := by
  simp only [Run, Bind, ops_binOp]
@[go_sem ↓] theorem r_unOp {op : UnOp} {t : TypeId} {x : Operand} {z} : Run (awpOps P O ops (⟨d, .unOp op t x, ty, pos, aft, none⟩ :: r) K Kp e H) z = Bind (ope e x) (fun a => Run (evUn op a fun v => Run (awpOps P O ops r K Kp (putE d v e) H) .mk) .mk) .mk := by
  simp only [Run, Bind, ops_unOp]
@[go_sem ↓] theorem r_convert {s t : TypeId} {x : Operand} {z} : Run (awpOps P O ops (⟨d, .convert s t x, ty, pos, aft, none⟩ :: r) K Kp e H) z = Bind (ope e x) (fun a => Bind (convKind P s t) (fun kd => Run (evConv H kd a fun v => Run (awpOps P O ops r K Kp (putE d v e) H) .mk) .mk) .mk) .mk := by
  simp only [Run, Bind, ops_convert]
@[go_sem ↓] theorem r_makeInterface {t : TypeId} {x : Operand} {z} : Run (awpOps P O ops (⟨d, .makeInterface t x, ty, pos, aft, none⟩ :: r) K Kp e H) z = Bind (ope e x) (fun a => (ifaceOk P t = true ∧ Run (awpOps P O ops r K Kp (putE d (.iface t a) e) H) .mk)) .mk := by
  simp only [Run, Bind, ops_makeInterface]
@[go_sem ↓] theorem r_fieldAddr {t : TypeId} {x : Operand} {f : Nat} {z} : Run (awpOps P O ops (⟨d, .fieldAddr t x f, ty, pos, aft, none⟩ :: r) K Kp e H) z = Bind (ope e x) (fun a => Bind (fieldOff P t f) (fun o => Run (evFieldAddr o a fun v => Run (awpOps P O ops r K Kp (putE d v e) H) .mk) .mk) .mk) .mk := by
  simp only [Run, Bind, ops_fieldAddr]
@[go_sem ↓] theorem r_field {t : TypeId} {x : Operand} {f : Nat} {z} : Run (awpOps P O ops (⟨d, .field t x f, ty, pos, aft, none⟩ :: r) K Kp e H) z = Bind (ope e x) (fun a => Bind (fieldInfo P t f) (fun o => Run (evField o a fun v => Run (awpOps P O ops r K Kp (putE d v e) H) .mk) .mk) .mk) .mk := by
  simp only [Run, Bind, ops_field]
@[go_sem ↓] theorem r_indexAddr {t : TypeId} {x i : Operand} {z} : Run (awpOps P O ops (⟨d, .indexAddr t x i, ty, pos, aft, none⟩ :: r) K Kp e H) z = Bind (ope e x) (fun a => Bind (ope e i) (fun b => Bind (arrN P t) (fun an => Bind (elemSz P t) (fun o => Run (evIdx H an o a b fun v => Run (awpOps P O ops r K Kp (putE d v e) H) .mk) .mk) .mk) .mk) .mk) .mk := by
  simp only [Run, Bind, ops_indexAddr]
@[go_sem] theorem v_idx_none {es : Option Nat} {x i : AV} {z} : Run (evIdx H none es x i k) z = Run (evIndexAddr H es x i k) .mk := rfl
@[go_sem] theorem v_idx_some {es : Option Nat} {len l ver : Nat} {kd : IntKind} {n : Int} {z} : Run (evIdx H (some len) es (.meptr 1 l ver 0 0) (.int kd n) k) z = (0 ≤ n ∧ n < len ∧ Bind n.toNat (fun i => k (.meptr 1 l ver i 0)) .mk) := rfl
@[go_sem] theorem v_sl_none {kd : Nat} {es : Option Nat} {x : AV} {lo hi mx : Option AV} {z} : Run (evSl H none kd es x lo hi mx k) z = Run (evSlice kd es x lo hi mx k) .mk := rfl
@[go_sem ↓] theorem r_index {t : TypeId} {x i : Operand} {z} : Run (awpOps P O ops (⟨d, .index t x i, ty, pos, aft, none⟩ :: r) K Kp e H) z = Bind (ope e x) (fun a => Bind (ope e i) (fun b => Bind (lenKind P t) (fun o => Run (evIndex o a b fun v => Run (awpOps P O ops r K Kp (putE d v e) H) .mk) .mk) .mk) .mk) .mk := by
  simp only [Run, Bind, ops_index]
@[go_sem ↓] theorem r_extract {x : Operand} {i : Nat} {z} : Run (awpOps P O ops (⟨d, .extract x i, ty, pos, aft, none⟩ :: r) K Kp e H) z = Bind (ope e x) (fun a => Run (evExtract a i fun v => Run (awpOps P O ops r K Kp (putE d v e) H) .mk) .mk) .mk := by
  simp only [Run, Bind, ops_extract]
@[go_sem ↓] theorem r_len {x : Operand} {t : TypeId} {z} : Run (awpOps P O ops (⟨d, .call ⟨.builtin .len, ⟨[x]⟩, ⟨[t]⟩⟩, ty, pos, aft, none⟩ :: r) K Kp e H) z = Bind (ope e x) (fun a => Bind (lenKind P t) (fun o => Run (evLen o a fun v => Run (awpOps P O ops r K Kp (putE d v e) H) .mk) .mk) .mk) .mk := by
  simp only [Run, Bind, ops_len]
@[go_sem ↓] theorem r_box {t : TypeId} {x : Operand} {z} : Run (awpOps P O ops (⟨d, .box t x, ty, pos, aft, none⟩ :: r) K Kp e H) z = Bind (ope e x) (fun a => Run (elemCells a fun cs => Bind H.length (fun n => Bind (H ++ [some (.box t cs)]) (fun H => Run (awpOps P O ops r K Kp (putE d (.ptr n 0) e) H) .mk) .mk) .mk) .mk) .mk := by
  simp only [Run, Bind, ops_box]
@[go_sem ↓] theorem r_store {t : TypeId} {p x : Operand} {z} : Run (awpOps P O ops (⟨d, .store t p x, ty, pos, aft, none⟩ :: r) K Kp e H) z = Bind (ope e p) (fun a => Bind (ope e x) (fun b => Run (evStore P H t a b fun H => Bind H (fun H => Run (awpOps P O ops r K Kp (putE d (.tuple []) e) H) .mk) .mk) .mk) .mk) .mk := by
  simp only [Run, Bind, ops_store]
@[go_sem ↓] theorem r_slice {t : TypeId} {x : Operand} {lo hi mx : Option Operand} {z} : Run (awpOps P O ops (⟨d, .slice t x lo hi mx, ty, pos, aft, none⟩ :: r) K Kp e H) z =
    Bind (arrN P t) (fun an => Bind (lenKind P t) (fun lk => Bind (elemSz P t) (fun es => Bind (ope e x) (fun a => Bind (lo.map (ope e)) (fun lo => Bind (hi.map (ope e)) (fun hi => Bind (mx.map (ope e)) (fun mx => Run (evSl H an lk es a lo hi mx fun v => Run (awpOps P O ops r K Kp (putE d v e) H) .mk) .mk) .mk) .mk) .mk) .mk) .mk) .mk) .mk := rfl
@[go_sem ↓] theorem r_makeFunc {fn : Fn} {first cap : Array Operand} {z} : Run (awpOps P O ops (⟨d, .makeFunc fn first cap, ty, pos, aft, none⟩ :: r) K Kp e H) z =
    Bind (AV.func fn (first.toList.map (ope e)) (cap.toList.map (ope e))) (fun v => Run (awpOps P O ops r K Kp (putE d v e) H) .mk) .mk := rfl
def allocK (an : Option Nat) (t : TypeId) (zs : List AV) (n : Nat) (H : Heap) (k : AV → Heap → Prop) : Prop :=
  match an with
  | none => k (.ptr n 0) (H ++ [some (.box t zs)])
  | some m => zs.length = m ∧ zs.all AV.one = true ∧ pureAll zs = true ∧ k (.meptr 1 n m 0 0) (H ++ [some (.row t 1 zs)])
@[go_sem ↓] theorem r_alloc {t : TypeId} {z} : Run (awpOps P O ops (⟨d, .alloc t, ty, pos, aft, none⟩ :: r) K Kp e H) z =
    Bind (allocInfo P t) (fun i => Bind (arrN P t) (fun an => Run (optK i fun zs => Bind H.length (fun n => Run (allocK an t zs n H fun v H => Run (awpOps P O ops r K Kp (putE d v e) H) .mk) .mk) .mk) .mk) .mk) .mk := by
  simp only [Run, Bind, ops_alloc, allocK]
  cases allocInfo P t <;> cases arrN P t <;> rfl
@[go_sem] theorem v_alloc_none {t : TypeId} {zs : List AV} {n : Nat} {k : AV → Heap → Prop} {z} : Run (allocK none t zs n H k) z = Bind (H ++ [some (.box t zs)]) (fun H => k (.ptr n 0) H) .mk := rfl
@[go_sem] theorem v_alloc_some {t : TypeId} {zs : List AV} {n m : Nat} {k : AV → Heap → Prop} {z} : Run (allocK (some m) t zs n H k) z = (zs.length = m ∧ zs.all AV.one = true ∧ pureAll zs = true ∧ Bind (H ++ [some (.row t 1 zs)]) (fun H => k (.meptr 1 n m 0 0) H) .mk) := rfl
@[go_sem ↓] theorem r_call {f : FuncId} {args : Array Operand} {ts : Array TypeId} {z} : Run (awpOps P O ops (⟨d, .call ⟨.value (.func f), args, ts⟩, ty, pos, aft, none⟩ :: r) K Kp e H) z =
    Bind (args.toList.map (ope e)) (fun as => Run (CallG P f as H (onEnd (fun v H' => Run (awpOps P O ops r K Kp (putE d v e) H') .mk) (fun v H' => Run (Kp v e H') .mk))) .mk) .mk := by
  simp only [Run, Bind, ops_call, List.nil_append, List.append_nil]
@[go_sem ↓] theorem r_append {s x : Operand} {t tx : TypeId} {z} : Run (awpOps P O ops (⟨d, .call ⟨.builtin .append, ⟨[s, x]⟩, ⟨[t, tx]⟩⟩, ty, pos, aft, none⟩ :: r) K Kp e H) z =
    Bind (ope e s) (fun a => Bind (ope e x) (fun b => Bind H.length (fun n => Run (evAppend P H n t tx a b fun v H' => Run (awpOps P O ops r K Kp (putE d v e) H') .mk) .mk) .mk) .mk) .mk := by
  simp only [Run, Bind, ops_append]
/-! operations on values -/
@[go_sem] theorem v_load_ptr {t : TypeId} {l off : Nat} {z} : Run (evLoad P H t (.ptr l off) k) z = Bind (H.get l) (fun o => Bind (ldInfo P t) (fun i => Run (onBox o fun _ cs => Bind (cs.drop off) (fun cs => Run (ldCells i cs k) .mk) .mk) .mk) .mk) .mk := by
  simp only [Run, Bind, evLoad_ptr]
@[go_sem] theorem v_load_cptr {t : TypeId} {cs : List AV} {off : Nat} {z} : Run (evLoad P H t (.cptr cs off) k) z = Bind (ldInfo P t) (fun i => Bind (cs.drop off) (fun cs => Run (ldCells i cs k) .mk) .mk) .mk := rfl
@[go_sem] theorem v_onBox {t : TypeId} {cs : List AV} {k : TypeId → List AV → Prop} {z} : Run (onBox (some (.box t cs)) k) z = k t cs := rfl
@[go_sem] theorem v_optK {α : Type} {x : α} {k : α → Prop} {z} : Run (optK (some x) k) z = k x := rfl
@[go_sem] theorem v_ld_agg {n : Nat} {cs : List AV} {z} : Run (ldCells (some (true, n)) cs k) z = (n ≤ cs.length ∧ Bind (AV.agg (cs.take n)) k .mk) := rfl
@[go_sem] theorem v_ld_one {n : Nat} {c : AV} {cs : List AV} {z} : Run (ldCells (some (false, n)) (c :: cs) k) z = k c := rfl
@[go_sem] theorem v_cells_agg {cs : List AV} {z} : Run (elemCells (.agg cs) kl) z = kl cs := rfl
@[go_sem] theorem v_cells_int {kd : IntKind} {n : Int} {z} : Run (elemCells (.int kd n) kl) z = kl [.int kd n] := rfl
@[go_sem] theorem v_cells_bool {b : Bool} {z} : Run (elemCells (.bool b) kl) z = kl [.bool b] := rfl
@[go_sem] theorem v_cells_str {s : List UInt8} {z} : Run (elemCells (.str s) kl) z = kl [.str s] := rfl
@[go_sem] theorem v_cells_slice {sz : Nat} {xs : List AV} {z} : Run (elemCells (.slice sz xs) kl) z = kl [.slice sz xs] := rfl
@[go_sem] theorem v_bin_int {op : BinOp} {t : TypeId} {c : Bool} {kx ky : IntKind} {a b : Int} {z} : Run (evBin P H op t c (.int kx a) (.int ky b) k) z = Run (evInt op kx a ky b k) .mk := rfl
@[go_sem] theorem v_bin_str {op : BinOp} {t : TypeId} {c : Bool} {a b : List UInt8} {z} : Run (evBin P H op t c (.str a) (.str b) k) z = Run (evStr op a b k) .mk := rfl
@[go_sem] theorem v_add {kx : IntKind} {a b : Int} {z} : Run (evInt .add kx a kx b k) z = Bind (kx.wrap (a + b)) (fun n => k (.int kx n)) .mk := by simp [Run, Bind, evInt]
@[go_sem] theorem v_sub {kx : IntKind} {a b : Int} {z} : Run (evInt .sub kx a kx b k) z = Bind (kx.wrap (a - b)) (fun n => k (.int kx n)) .mk := by simp [Run, Bind, evInt]
@[go_sem] theorem v_mul {kx : IntKind} {a b : Int} {z} : Run (evInt .mul kx a kx b k) z = Bind (kx.wrap (a * b)) (fun n => k (.int kx n)) .mk := by simp [Run, Bind, evInt]
@[go_sem] theorem v_quo {kx : IntKind} {a b : Int} {z} : Run (evInt .quo kx a kx b k) z = (b ≠ 0 ∧ Bind (kx.wrap (a.tdiv b)) (fun n => k (.int kx n)) .mk) := by simp [Run, Bind, evInt]
@[go_sem] theorem v_rem {kx : IntKind} {a b : Int} {z} : Run (evInt .rem kx a kx b k) z = (b ≠ 0 ∧ Bind (a.tmod b) (fun n => k (.int kx n)) .mk) := by simp [Run, Bind, evInt]
@[go_sem] theorem v_eql {kx : IntKind} {a b : Int} {z} : Run (evInt .eql kx a kx b k) z = Bind (a == b) (fun t => k (.bool t)) .mk := by simp [Run, Bind, evInt]
@[go_sem] theorem v_neq {kx : IntKind} {a b : Int} {z} : Run (evInt .neq kx a kx b k) z = Bind (a != b) (fun t => k (.bool t)) .mk := by simp [Run, Bind, evInt]
@[go_sem] theorem v_lss {kx : IntKind} {a b : Int} {z} : Run (evInt .lss kx a kx b k) z = Bind (decide (a < b)) (fun t => k (.bool t)) .mk := by simp [Run, Bind, evInt]
@[go_sem] theorem v_leq {kx : IntKind} {a b : Int} {z} : Run (evInt .leq kx a kx b k) z = Bind (decide (a ≤ b)) (fun t => k (.bool t)) .mk := by simp [Run, Bind, evInt]
@[go_sem] theorem v_gtr {kx : IntKind} {a b : Int} {z} : Run (evInt .gtr kx a kx b k) z = Bind (decide (b < a)) (fun t => k (.bool t)) .mk := by simp [Run, Bind, evInt]
@[go_sem] theorem v_geq {kx : IntKind} {a b : Int} {z} : Run (evInt .geq kx a kx b k) z = Bind (decide (b ≤ a)) (fun t => k (.bool t)) .mk := by simp [Run, Bind, evInt]
@[go_sem] theorem v_str_eql {a b : List UInt8} {z} : Run (evStr .eql a b k) z = Bind (a == b) (fun t => k (.bool t)) .mk := rfl
@[go_sem] theorem v_str_neq {a b : List UInt8} {z} : Run (evStr .neq a b k) z = Bind (a != b) (fun t => k (.bool t)) .mk := rfl
@[go_sem] theorem v_str_add {a b : List UInt8} {z} : Run (evStr .add a b k) z = (((a.length + b.length : Nat) : Int) ≤ 9223372036854775807 ∧ Bind (a ++ b) (fun s => k (.str s)) .mk) := rfl
@[go_sem] theorem v_fa_ptr {o l off : Nat} {z} : Run (evFieldAddr (some o) (.ptr l off) k) z = Bind (off + o) (fun n => k (.ptr l n)) .mk := rfl
@[go_sem] theorem v_fa_cptr {o off : Nat} {cs : List AV} {z} : Run (evFieldAddr (some o) (.cptr cs off) k) z = Bind (off + o) (fun n => k (.cptr cs n)) .mk := rfl
@[go_sem] theorem v_len_slice {sz : Nat} {xs : List AV} {z} : Run (evLen 2 (.slice sz xs) k) z = Bind xs.length (fun n => k (.int .i64 n)) .mk := rfl
@[go_sem] theorem v_len_nil {z} : Run (evLen 2 .nilslice k) z = k (.int .i64 0) := rfl
@[go_sem] theorem v_len_str {s : List UInt8} {z} : Run (evLen 1 (.str s) k) z = Bind s.length (fun n => k (.int .i64 n)) .mk := rfl
@[go_sem] theorem v_ia_slice {sz : Nat} {xs : List AV} {kd : IntKind} {n : Int} {z} : Run (evIndexAddr H (some sz) (.slice sz xs) (.int kd n) k) z = (0 ≤ n ∧ n < xs.length ∧ Bind (xs.getD n.toNat .any) (fun a => Run (elemCells a fun cs => k (.cptr cs 0)) .mk) .mk) := by simp [Run, Bind, evIndexAddr]
@[go_sem] theorem v_ext {vs : List AV} {i : Nat} {z} : Run (evExtract (.tuple vs) i k) z = Bind vs[i]? (fun o => Run (optK o k) .mk) .mk := by
  simp only [Run, Bind, evExtract_tuple]
@[go_sem] theorem v_un_not {b : Bool} {z} : Run (evUn .not (.bool b) k) z = Bind (!b) (fun t => k (.bool t)) .mk := rfl
@[go_sem] theorem v_un_neg {kd : IntKind} {n : Int} {z} : Run (evUn .neg (.int kd n) k) z = Bind (kd.wrap (0 - n)) (fun t => k (.int kd t)) .mk := rfl
@[go_sem] theorem v_conv_int {kd kd' : IntKind} {n : Int} {z} : Run (evConv H (.int kd) (.int kd' n) k) z = Bind (kd.wrap n) (fun t => k (.int kd t)) .mk := rfl
@[go_sem] theorem v_conv_str {s : List UInt8} {z} : Run (evConv H .str (.str s) k) z = k (.str s) := rfl
@[go_sem] theorem v_store_ptr {t : TypeId} {l off : Nat} {x : AV} {k : Heap → Prop} {z} : Run (evStore P H t (.ptr l off) x k) z = Bind (H.get l) (fun o => Run (onBox o fun tg cs => Run (elemCells x fun vs => tSize P t = some vs.length ∧ vs.all AV.one = true ∧ off + vs.length ≤ cs.length ∧ Bind (H.set l (some (.box tg (setC cs off vs)))) k .mk) .mk) .mk) .mk := by
  simp only [Run, Bind, evStore_ptr]
@[go_sem ↓] theorem v_end_ret {K Kp : AV → Heap → Prop} {v : AV} : onEnd K Kp (.ret v) H = K v H := rfl
@[go_sem ↓] theorem v_end_panic {K Kp : AV → Heap → Prop} {v : AV} : onEnd K Kp (.panic v) H = Kp v H := rfl
@[go_sem] theorem v_nil_ptr {l o : Nat} {z} : Run (evNilCheck (.ptr l o) k) z = k (.ptr l o) := rfl
@[go_sem] theorem v_nil_cptr {cs : List AV} {o : Nat} {z} : Run (evNilCheck (.cptr cs o) k) z = k (.cptr cs o) := rfl
/-! the end -/
@[go_sem ↓] theorem q_pure_ret {rs : List ResultVar} {v : AV} {z} : Run (pureQ P rs (.ret v) .ret e H) z = Run (resAll P e H rs fun vs => Frz 9 H (oneOr vs) v) .mk := rfl
@[go_sem ↓] theorem q_pure_normal {rs : List ResultVar} {v : AV} {z} : Run (pureQ P rs (.ret v) .normal e H) z = Run (resAll P e H rs fun vs => Frz 9 H (oneOr vs) v) .mk := rfl
@[go_sem ↓] theorem q_res_nil {kl : List AV → Prop} {z} : Run (resAll P e H [] kl) z = kl [] := rfl
@[go_sem ↓] theorem q_res_tmp {t : Nat} {rs : List ResultVar} {z} : Run (resAll P e H (.tmp t :: rs) kl) z = Bind (e.get t) (fun v => Run (resAll P e H rs fun vs => kl (v :: vs)) .mk) .mk := rfl
@[go_sem ↓] theorem q_res_cell {a : Nat} {t : TypeId} {rs : List ResultVar} {z} : Run (resAll P e H (.cell a t :: rs) kl) z = Bind (e.get a) (fun p => Run (evLoad P H t p fun v => Run (resAll P e H rs fun vs => kl (v :: vs)) .mk) .mk) .mk := rfl
theorem run_intro {p : Prop} (h : Run p .mk) : p := h
end
end Go.Sim

namespace Go.Sim
variable {H : Heap} {n : Nat}
@[go_sem] theorem wrap_of_i64 {x : Int} (h : -9223372036854775808 ≤ x ∧ x ≤ 9223372036854775807) : IntKind.i64.wrap x = x := by
  rw [IntKind.wrap_i64]; omega
@[go_sem] theorem wrap_of_u8 {x : Int} (h : 0 ≤ x ∧ x ≤ 255) : IntKind.u8.wrap x = x := by
  rw [IntKind.wrap_u8]; omega
@[go_sem] theorem frz_bool {b c : Bool} : Frz (n + 1) H (.bool b) (.bool c) = (b = c) := by simp [Frz, AV.pureB]
@[go_sem] theorem frz_int {k k' : IntKind} {a b : Int} : Frz (n + 1) H (.int k a) (.int k' b) = (k = k' ∧ a = b) := by simp [Frz, AV.pureB]
@[go_sem] theorem frz_str {a b : List UInt8} : Frz (n + 1) H (.str a) (.str b) = (a = b) := by simp [Frz, AV.pureB]
@[go_sem] theorem frz_slice {sz sz' : Nat} {a b : List AV} : Frz (n + 1) H (.slice sz a) (.slice sz' b) = (sz = sz' ∧ a = b ∧ (AV.slice sz a).pureB = true) := by
  simp [Frz, and_assoc]
@[go_sem] theorem one_one {v : AV} : oneOr [v] = v := rfl
@[go_sem] theorem heap_get_zero {o : Option AObj} {l : Heap} : Heap.get (o :: l) 0 = o := by simp [Heap.get]
@[go_sem] theorem heap_get_succ {o : Option AObj} {l : Heap} {i : Nat} : Heap.get (o :: l) (i + 1) = Heap.get l i := by simp [Heap.get]
@[go_sem] theorem entry_nil {i : Nat} : entryEnv i [] = [] := rfl
@[go_sem] theorem entry_cons {i : Nat} {v : AV} {vs : List AV} : entryEnv i (v :: vs) = (i, v) :: entryEnv (i + 1) vs := rfl
attribute [go_sem] AV.ofVal AV.ofVal1 List.getElem?_cons_succ List.getElem?_cons_zero Option.map_some Option.map_none List.length_nil List.length_cons List.nil_append List.cons_append List.drop_zero List.drop_succ_cons Option.getD_some Option.join_some decide_true decide_false Bool.true_eq_false Bool.false_eq_true List.take_succ_cons List.take_zero List.map_cons List.map_nil decide_eq_true_eq decide_eq_false_iff_not Bool.not_true Bool.not_false implies_true true_and and_true decide_eq_decide
end Go.Sim

namespace Go.Sim
section
variable {P : Program} {O : LitO} {n0 : Nat} {e : Env} {H : Heap} {Q : AX → Env → Heap → Prop} {ι : Type} {S : ι → St} {Φ : ι → Prop} {μ : ι → Nat} {i : ι}
theorem loop_intro {b : Code} {z} (S : ι → St) (Φ : ι → Prop) (μ : ι → Nat) (i0 : ι) (h0 : Φ i0) (hs : Sub n0 e H (S i0).e (S i0).H)
    (hb : ∀ i, Φ i → Run (awp P O n0 b (loopQ n0 S Φ μ i Q) (S i).e (S i).H) .mk) : Run (awp P O n0 (.loop b) Q e H) z := ⟨ι, S, Φ, μ, ⟨i0, h0, hs⟩, hb⟩
theorem loop_next {z} (j : ι) (hj : Φ j) (hm : μ j < μ i) (hs : Sub n0 e H (S j).e (S j).H) : Run (loopQ n0 S Φ μ i Q .normal e H) z := ⟨j, hj, hm, hs⟩
@[go_sem ↓] theorem r_loop_exit {id : Nat} {z} : Run (loopQ n0 S Φ μ i Q (.exit id) e H) z = Run (Q (.exit id) e H) .mk := rfl
@[go_sem ↓] theorem r_loop_ret {z} : Run (loopQ n0 S Φ μ i Q .ret e H) z = Run (Q .ret e H) .mk := rfl
@[go_sem ↓] theorem r_loop_panic {v : AV} {z} : Run (loopQ n0 S Φ μ i Q (.panic v) e H) z = Run (Q (.panic v) e H) .mk := rfl
@[go_sem] theorem envSub_nil : EnvSub e [] = True := rfl
@[go_sem] theorem envSub_cons {t : Nat} {v : AV} {r : Env} : EnvSub e ((t, v) :: r) = (e.get t = v ∧ EnvSub e r) := rfl
theorem use_call {f : FuncId} {as : List AV} {r : AEnd} {K Kp : AV → Heap → Prop} {z} (h : PureFn P f as r) (hp : pureAll as = true) (hk : onEnd K Kp r H) : Run (CallG P f as H (onEnd K Kp)) z := .inl (h.use hp hk)
theorem use_flat {f : FuncId} {as as' : List AV} {r : AEnd} {K Kp : AV → Heap → Prop} {z} (n : Nat) (h : PureFn P f as' r) (ha : All2 (Frz n H) as as') (hf : r.val.flatB = true) (hk : onEnd K Kp r H) : Run (CallG P f as H (onEnd K Kp)) z := .inl (h.useFlat ha hf hk)
theorem use_ext {f : FuncId} {v : AV} {K Kp : AV → Heap → Prop} {z} (h : NoEsc P f) (hk : K v H) : Run (CallG P f [v] H (onEnd K Kp)) z := .inr ⟨h, v, rfl, hk⟩
end
end Go.Sim

namespace Go.Sim
def evMM (mn : Bool) (a : AV) (bs : List AV) (k : AV → Prop) : Prop :=
  match a with
  | .int kd n => evMinMax mn kd n bs k
  | _ => False
def onIface (a : AV) (k : AV → Prop) : Prop :=
  match a with
  | .iface t v => k (.iface t v)
  | _ => False
section
variable {P : Program} {O : LitO} {e : Env} {H : Heap} {K : Env → Heap → Prop} {Kp : AV → Env → Heap → Prop} {ops : Array Oper} {r : List Oper} {d : Option Nat} {ty : TypeId} {pos : String} {aft : Array Edge} {k : AV → Prop}
@[go_sem ↓] theorem r_max {x y : Operand} {ts : Array TypeId} {z} : Run (awpOps P O ops (⟨d, .call ⟨.builtin .max, ⟨[x, y]⟩, ts⟩, ty, pos, aft, none⟩ :: r) K Kp e H) z =
    Bind (ope e x) (fun a => Bind (ope e y) (fun b => Run (evMM false a [b] fun v => Run (awpOps P O ops r K Kp (putE d v e) H) .mk) .mk) .mk) .mk := by
  simp only [Run, Bind, awpOps, evOp, evV, evMM]
  cases ope e x <;> rfl
@[go_sem ↓] theorem r_min {x y : Operand} {ts : Array TypeId} {z} : Run (awpOps P O ops (⟨d, .call ⟨.builtin .min, ⟨[x, y]⟩, ts⟩, ty, pos, aft, none⟩ :: r) K Kp e H) z =
    Bind (ope e x) (fun a => Bind (ope e y) (fun b => Run (evMM true a [b] fun v => Run (awpOps P O ops r K Kp (putE d v e) H) .mk) .mk) .mk) .mk := by
  simp only [Run, Bind, awpOps, evOp, evV, evMM]
  cases ope e x <;> rfl
@[go_sem] theorem v_max {kd kd' : IntKind} {a b : Int} {z} : Run (evMM false (.int kd a) [.int kd' b] k) z = Bind (if b > a then b else a) (fun n => k (.int kd n)) .mk := by
  simp [Run, Bind, evMM, evMinMax]
@[go_sem] theorem v_min {kd kd' : IntKind} {a b : Int} {z} : Run (evMM true (.int kd a) [.int kd' b] k) z = Bind (if b < a then b else a) (fun n => k (.int kd n)) .mk := by
  simp [Run, Bind, evMM, evMinMax]
@[go_sem ↓] theorem r_panic {x : Operand} {z} : Run (awpOps P O ops (⟨d, .panic x, ty, pos, aft, none⟩ :: r) K Kp e H) z =
    Bind (ope e x) (fun a => Run (onIface a fun v => Run (Kp v e H) .mk) .mk) .mk := by
  simp only [Run, Bind, awpOps, evOp, onIface]
  cases ope e x <;> rfl
@[go_sem] theorem v_onIface {t : TypeId} {v : AV} {z} : Run (onIface (.iface t v) k) z = k (.iface t v) := rfl
@[go_sem] theorem v_store_meptr_nil {t : TypeId} {x : AV} {k : Heap → Prop} {z} : Run (evStore P H t .nilp x k) z = False := rfl
end
end Go.Sim

namespace Go.Sim
/-! ### evaluation of regions that draw their order -/
section
variable {P : Program} {O : LitO} {n0 : Nat} {e : Env} {H : Heap} {Q : AX → Env → Heap → Prop} {K : Env → Heap → Prop} {Kp : AV → Env → Heap → Prop} {ops : Array Oper}
def dNon (P : Program) (O : LitO) (ops : Array Oper) (r : Plan) (K : Env → Heap → Prop) (Kp : AV → Env → Heap → Prop) (E : Env) (H : Heap) : Option Oper → Prop
  | none => False
  | some o => awpOps P O ops [o] (fun e' H' => awpD P O ops r K Kp e' H') (fun v e' H' => Kp v e' H') E H
def dEff (P : Program) (O : LitO) (ops : Array Oper) (fl : List Nat) (r : Plan) (K : Env → Heap → Prop) (Kp : AV → Env → Heap → Prop) (E : Env) (H : Heap) : Option Oper → Prop
  | none => False
  | some o => awpOps P O ops [o] (fun e' H' => reAll P ops E H H' fl ∧ awpD P O ops r K Kp e' H') (fun v _ H' => Kp v (hideAll ops E) H') E H
@[go_sem ↓] theorem r_region_draw {id : Nat} {l : List Oper} {z} : Run (awp P O n0 (.region id l.toArray true) Q e H) z = Run (awpDraw P O l.toArray (Q .normal) (fun v => Q (.panic v)) e H) .mk := rfl
@[go_sem ↓] theorem r_d_nil {z} : Run (awpD P O ops [] K Kp e H) z = Run (K e H) .mk := rfl
@[go_sem ↓] theorem r_d_non {l : List Oper} {i : Nat} {r : Plan} {z} : Run (awpD P O l.toArray ((i, none) :: r) K Kp e H) z = Bind (l[i]?) (fun o => Run (dNon P O l.toArray r K Kp e H o) .mk) .mk := by
  simp only [Run, Bind, awpD, List.getElem?_toArray]
  cases l[i]? <;> rfl
@[go_sem ↓] theorem r_d_eff {l : List Oper} {i : Nat} {fl : List Nat} {r : Plan} {z} : Run (awpD P O l.toArray ((i, some fl) :: r) K Kp e H) z = Bind (l[i]?) (fun o => Run (dEff P O l.toArray fl r K Kp e H o) .mk) .mk := by
  simp only [Run, Bind, awpD, List.getElem?_toArray]
  cases l[i]? <;> rfl
@[go_sem ↓] theorem r_dNon {o : Oper} {r : Plan} {z} : Run (dNon P O ops r K Kp e H (some o)) z = Run (awpOps P O ops [o] (fun e' H' => awpD P O ops r K Kp e' H') (fun v e' H' => Kp v e' H') e H) .mk := rfl
@[go_sem ↓] theorem r_dEff {o : Oper} {fl : List Nat} {r : Plan} {z} : Run (dEff P O ops fl r K Kp e H (some o)) z = Run (awpOps P O ops [o] (fun e' H' => reAll P ops e H H' fl ∧ awpD P O ops r K Kp e' H') (fun v _ H' => Kp v (hideAll ops e) H') e H) .mk := rfl
@[go_sem ↓] theorem r_and {A B : Prop} {z} : Run (A ∧ B) z = (Run A .mk ∧ Run B .mk) := rfl
@[go_sem ↓] theorem r_reAll_nil {E : Env} {H' : Heap} {z} : Run (reAll P ops E H H' []) z = True := eq_true trivial
@[go_sem ↓] theorem r_reAll_self {E : Env} {l : List Nat} {z} : Run (reAll P ops E H H l) z = True := eq_true reAll_self
theorem use_draw {z} (pl : Plan) (b : List (List Nat)) (hm : P.follows .mixedOrders = true) (hd : drawOk ops b pl = true) (h : Run (awpD P O ops pl K Kp e H) .mk) : Run (awpDraw P O ops K Kp e H) z := ⟨pl, b, hm, hd, h⟩
end
end Go.Sim

namespace Go.Sim
/-! ### evaluation of further operations -/
def psOk : Nat → List (Nat × Operand) → Prop
  | _, [] => True
  | i, (j, _) :: r => j = i ∧ psOk (i + 1) r
theorem psOk_spec : ∀ (ps : List (Nat × Operand)) (i : Nat), (ps.map (·.1) = List.range' i ps.length) = psOk i ps
  | [], i => by simp [psOk]
  | (j, x) :: r, i => by simp only [List.map_cons, List.length_cons, List.range'_succ, psOk, List.cons.injEq, psOk_spec r (i + 1)]
def lits (et : TypeId) (imm : Bool) (es : Option Nat) (sz0 : Bool) (n : Nat) (ps : List (Nat × Operand)) (vs : List AV) (loc : Nat) (k : AV → Option AObj → Prop) : Prop :=
  match es with
  | some sz => n * sz ≤ 16777216 ∧ n = ps.length ∧ (n * sz = 0 ∨ sz0 = true) ∧ psOk 0 ps ∧ partsOk sz vs ∧ (if imm then k (litV sz vs) none else k (.mslice sz loc 0 ps.length) (some (.row et sz vs)))
  | none => False
def onObj (H : Heap) (o : Option AObj) (k : Heap → Prop) : Prop :=
  match o with
  | some o => k (H ++ [some o])
  | none => k H
section
variable {P : Program} {O : LitO} {n0 : Nat} {e : Env} {H : Heap} {Q : AX → Env → Heap → Prop} {K : Env → Heap → Prop} {Kp : AV → Env → Heap → Prop} {ops : Array Oper} {r : List Oper} {d : Option Nat} {ty : TypeId} {pos : String} {aft : Array Edge} {k : AV → Prop} {kl : List AV → Prop}
@[go_sem ↓] theorem r_buildSlice {t : TypeId} {n : Nat} {ps : List (Nat × Operand)} {z} : Run (awpOps P O ops (⟨d, .buildSlice t n ps.toArray, ty, pos, aft, none⟩ :: r) K Kp e H) z =
    Bind (elemTy P t) (fun et => Bind (elemSz P t) (fun es => Bind (evA.sliceZero P t) (fun sz0 => Bind (O t n) (fun imm => Bind (ps.map fun p => ope e p.2) (fun vs => Bind H.length (fun loc => Run (lits et imm es sz0 n ps vs loc fun v obj => Run (onObj H obj fun H' => Run (awpOps P O ops r K Kp (putE d v e) H') .mk) .mk) .mk) .mk) .mk) .mk) .mk) .mk) .mk := by
  simp only [Run, Bind, awpOps, evOp, evL, evA, lits, List.size_toArray, psOk_spec]
  cases elemSz P t with
  | none => split <;> simp
  | some sz =>
    split
    · rfl
    · rfl
@[go_sem] theorem v_lits_imm {et : TypeId} {sz n : Nat} {ps : List (Nat × Operand)} {v : AV} {vs : List AV} {loc : Nat} {k : AV → Option AObj → Prop} {z} : Run (lits et true (some sz) true n ps (v :: vs) loc k) z = (n * sz ≤ 16777216 ∧ n = ps.length ∧ psOk 0 ps ∧ partsOk sz (v :: vs) ∧ k (.slice sz (v :: vs)) none) := by
  simp [Run, lits, litV]
@[go_sem] theorem v_lits_mut {et : TypeId} {sz n : Nat} {ps : List (Nat × Operand)} {vs : List AV} {loc : Nat} {k : AV → Option AObj → Prop} {z} : Run (lits et false (some sz) true n ps vs loc k) z = (n * sz ≤ 16777216 ∧ n = ps.length ∧ psOk 0 ps ∧ partsOk sz vs ∧ k (.mslice sz loc 0 ps.length) (some (.row et sz vs))) := by
  simp [Run, lits]
@[go_sem] theorem v_lits_nil {et : TypeId} {sz : Nat} {sz0 : Bool} {loc : Nat} {k : AV → Option AObj → Prop} {z} : Run (lits et true (some sz) sz0 0 [] [] loc k) z = k .zcap none := by
  simp [Run, lits, litV, psOk, partsOk]
@[go_sem ↓] theorem v_onObj_none {k : Heap → Prop} {z} : Run (onObj H none k) z = k H := rfl
@[go_sem ↓] theorem v_onObj_some {o : AObj} {k : Heap → Prop} {z} : Run (onObj H (some o) k) z = Bind (H ++ [some o]) k .mk := rfl
@[go_sem] theorem psOk_nil {i : Nat} : psOk i [] = True := rfl
@[go_sem] theorem psOk_cons {i j : Nat} {x : Operand} {l : List (Nat × Operand)} : psOk i ((j, x) :: l) = (j = i ∧ psOk (i + 1) l) := rfl
@[go_sem] theorem partsOk_nil {sz : Nat} : partsOk sz [] = True := rfl
@[go_sem] theorem partsOk_cons {sz : Nat} {x : AV} {xs : List AV} : partsOk sz (x :: xs) = (x.width = some sz ∧ x.cellsOne = true ∧ x.pureB = true ∧ partsOk sz xs) := rfl
/-! structs -/
@[go_sem ↓] theorem r_build {t : TypeId} {ps : List (Nat × Operand)} {z} : Run (awpOps P O ops (⟨d, .build t ps.toArray, ty, pos, aft, none⟩ :: r) K Kp e H) z =
    Bind (buildInfo P t) (fun i => Bind (ps.map fun p => (p.1, ope e p.2)) (fun vs => Run (evBuild i vs fun v => Run (awpOps P O ops r K Kp (putE d v e) H) .mk) .mk) .mk) .mk := rfl
@[go_sem] theorem v_build {zs : List AV} {pl : List (Nat × Nat)} {vs : List (Nat × AV)} {z} : Run (evBuild (some (zs, pl)) vs k) z = Run (aFill pl zs vs fun cs => k (.agg cs)) .mk := rfl
@[go_sem] theorem v_fill_nil {pl : List (Nat × Nat)} {zs : List AV} {z} : Run (aFill pl zs [] kl) z = kl zs := rfl
@[go_sem] theorem v_fill_cons {pl : List (Nat × Nat)} {zs : List AV} {i : Nat} {v : AV} {vs : List (Nat × AV)} {z} : Run (aFill pl zs ((i, v) :: vs) kl) z =
    Bind (pl[i]?) (fun p => Run (optK p fun p => Run (elemCells v fun cs => cs.length = p.2 ∧ p.1 + p.2 ≤ zs.length ∧ Bind (setC zs p.1 cs) (fun zs => Run (aFill pl zs vs kl) .mk) .mk) .mk) .mk) .mk := by
  simp only [Run, Bind, aFill, optK]
  cases pl[i]? <;> rfl
@[go_sem] theorem setC_nil {α : Type} {cs : List α} {o : Nat} : setC cs o [] = cs := rfl
@[go_sem] theorem setC_cons {α : Type} {cs r : List α} {o : Nat} {v : α} : setC cs o (v :: r) = setC (cs.set o v) (o + 1) r := rfl
/-! maps -/
def onMap (o : Option (List AV × List AV)) (k : List AV → List AV → Prop) : Prop :=
  match o with
  | some (ks, vs) => k ks vs
  | none => False
def onFind (f : Option (Option (Nat × AV))) (k : AV → Prop) (k0 : Prop) : Prop :=
  match f with
  | some (some (_, v)) => k v
  | some none => k0
  | none => False
@[go_sem ↓] theorem r_lookup {t : TypeId} {x i : Operand} {ok : Bool} {z} : Run (awpOps P O ops (⟨d, .lookup t x i ok, ty, pos, aft, none⟩ :: r) K Kp e H) z =
    Bind (ope e x) (fun m => Bind (ope e i) (fun i => Bind (mapKey P t) (fun kk => Bind (mapZero P t) (fun zz => Bind (mapSel H m) (fun ms => Run (optK kk fun kk => Run (optK zz fun zz => Run (onMap ms fun ks vs => keyFits kk i = true ∧ Bind (aFind i ks vs 0) (fun f =>
      Run (onFind f (fun v => Run (awpOps P O ops r K Kp (putE d (if ok then .tuple [v, .bool true] else v) e) H) .mk) (Run (awpOps P O ops r K Kp (putE d (if ok then .tuple [zz, .bool false] else zz) e) H) .mk)) .mk) .mk) .mk) .mk) .mk) .mk) .mk) .mk) .mk) .mk := by
  simp only [Run, Bind, awpOps, evOp, evV, evX, evLookup, optK, onMap, onFind]
  cases mapKey P t <;> cases mapZero P t <;> cases mapSel H (ope e x) <;> rfl
@[go_sem] theorem v_onMap {ks vs : List AV} {k : List AV → List AV → Prop} {z} : Run (onMap (some (ks, vs)) k) z = k ks vs := rfl
@[go_sem] theorem v_onFind_some {j : Nat} {v : AV} {k0 : Prop} {z} : Run (onFind (some (some (j, v))) k k0) z = k v := rfl
@[go_sem] theorem v_onFind_none {k0 : Prop} {z} : Run (onFind (some none) k k0) z = k0 := rfl
@[go_sem] theorem mapSel_nil : mapSel H .nilmap = some ([], []) := rfl
@[go_sem] theorem mapSel_c {ks vs : List AV} : mapSel H (.cmap ks vs) = some (ks, vs) := rfl
def selObj : Option AObj → Option (List AV × List AV)
  | some (.map ks vs) => some (ks, vs)
  | _ => none
@[go_sem] theorem mapSel_map {l : Nat} : mapSel H (.map l) = selObj (H.get l) := by
  simp only [mapSel, selObj]
  cases H.get l with
  | none => rfl
  | some o => cases o <;> rfl
@[go_sem] theorem selObj_map {ks vs : List AV} : selObj (some (.map ks vs)) = some (ks, vs) := rfl
@[go_sem] theorem keyFits_int {kd : IntKind} {a b : Int} : keyFits (.int kd a) (.int kd b) = true := by simp [keyFits]
@[go_sem] theorem keyFits_str {a b : List UInt8} : keyFits (.str a) (.str b) = true := rfl
@[go_sem ↓] theorem r_makeMap {t : TypeId} {z} : Run (awpOps P O ops (⟨d, .makeMap t none, ty, pos, aft, none⟩ :: r) K Kp e H) z =
    Bind (mapKey P t) (fun kk => Run (optK kk fun _ => Bind H.length (fun n => Bind (H ++ [some (.map [] [])]) (fun H => Run (awpOps P O ops r K Kp (putE d (.map n) e) H) .mk) .mk) .mk) .mk) .mk := by
  simp only [Run, Bind, awpOps, evOp, evA, optK]
  cases mapKey P t <;> rfl
def onSetF (f : Option (Option (Nat × AV))) (k : Nat → Prop) (k0 : Prop) : Prop :=
  match f with
  | some (some (j, _)) => k j
  | some none => k0
  | none => False
def mapPut (kk : Option AV) (H : Heap) (m x v : AV) (k : Heap → Prop) : Prop := evMapUpdate kk H m x v k
@[go_sem ↓] theorem r_mapUpdate {t : TypeId} {m x v : Operand} {z} : Run (awpOps P O ops (⟨d, .mapUpdate t m x v, ty, pos, aft, none⟩ :: r) K Kp e H) z =
    Bind (ope e m) (fun m => Bind (ope e x) (fun x => Bind (ope e v) (fun v => Bind (mapKey P t) (fun kk => Run (mapPut kk H m x v fun H => Run (awpOps P O ops r K Kp (putE d (.tuple []) e) H) .mk) .mk) .mk) .mk) .mk) .mk := rfl
@[go_sem ↓] theorem r_insert {t : TypeId} {m x v : Operand} {z} : Run (awpOps P O ops (⟨d, .insert t m x v, ty, pos, aft, none⟩ :: r) K Kp e H) z =
    Bind (ope e m) (fun m => Bind (ope e x) (fun x => Bind (ope e v) (fun v => Bind (mapKey P t) (fun kk => Run (mapPut kk H m x v fun H => Run (awpOps P O ops r K Kp (putE d (.tuple []) e) H) .mk) .mk) .mk) .mk) .mk) .mk := rfl
@[go_sem] theorem v_mapPut {kk : AV} {l : Nat} {x v : AV} {k : Heap → Prop} {z} : Run (mapPut (some kk) H (.map l) x v k) z =
    Bind (H.get l) (fun o => Bind (selObj o) (fun ms => Run (onMap ms fun ks vs => keyFits kk x = true ∧ Bind (aFind x ks vs 0) (fun f => Run (onSetF f (fun j => Bind (H.set l (some (.map ks (vs.set j v)))) k .mk) (Bind (H.set l (some (.map (ks ++ [x]) (vs ++ [v])))) k .mk)) .mk) .mk) .mk) .mk) .mk := by
  simp only [Run, Bind, mapPut, evMapUpdate, selObj, onMap, onSetF]
  cases H.get l with
  | none => rfl
  | some o =>
    cases o <;> rfl
@[go_sem] theorem v_onSetF_some {j : Nat} {v : AV} {k : Nat → Prop} {k0 : Prop} {z} : Run (onSetF (some (some (j, v))) k k0) z = k j := rfl
@[go_sem] theorem v_onSetF_none {k : Nat → Prop} {k0 : Prop} {z} : Run (onSetF (some none) k k0) z = k0 := rfl
/-! append -/
@[go_sem] theorem srcOf_slice {sz : Nat} {xs : List AV} : srcOf H 2 (.slice sz xs) = some (sz, xs) := rfl
@[go_sem] theorem srcOf_nil : srcOf H 2 .nilslice = some (0, []) := rfl
@[go_sem] theorem srcOf_zcap : srcOf H 2 .zcap = some (0, []) := rfl
@[go_sem] theorem srcOf_str {s : List UInt8} : srcOf H 1 (.str s) = some (1, s.map enc8) := rfl
def rowOf : Option AObj → Nat → Nat → Nat → Option (Nat × List AV)
  | some (.row _ sz' xs), sz, i, n => if sz' = sz ∧ i + n = xs.length then some (sz, xs.drop i) else none
  | _, _, _, _ => none
@[go_sem] theorem srcOf_mslice {sz l i n : Nat} : srcOf H 2 (.mslice sz l i n) = rowOf (H.get l) sz i n := by
  simp only [srcOf, elemsOf, rowOf]
  cases H.get l with
  | none => rfl
  | some o => cases o <;> rfl
def appTo (et : TypeId) (H : Heap) (b : AV) (loc sz bytes : Nat) (ys : List AV) (k : AV → Heap → Prop) : Prop :=
  match b with
  | .nilslice | .zcap => ys.length * bytes ≤ 140737488355328 ∧ k (.mslice sz loc 0 ys.length) (H ++ [some (.row et sz ys)])
  | .mslice sz' l i n => match H.get l with
    | some (.row tg sz2 xs) => tg = et ∧ sz' = sz ∧ sz2 = sz ∧ i = 0 ∧ n = xs.length ∧ (xs.length + ys.length) * bytes ≤ 140737488355328 ∧
        k (.mslice sz l 0 (xs.length + ys.length)) (H.set l (some (.row tg sz (xs ++ ys))))
    | _ => False
  | _ => False
def onSrc (o : Option (Nat × List AV)) (k : Nat → List AV → Prop) : Prop :=
  match o with
  | some (a, b) => k a b
  | none => False
@[go_sem] theorem v_append {t tx : TypeId} {b x : AV} {n : Nat} {k : AV → Heap → Prop} {z} : Run (evAppend P H n t tx b x k) z =
    Bind (elemTy P t) (fun et => Bind (elemSz P t) (fun sz => Bind (tBytes P t) (fun by_ => Bind (lenKind P tx) (fun lk => Bind (srcOf H lk x) (fun s => Run (optK sz fun sz => Run (optK by_ fun by_ => Run (onSrc s fun szx ys => 0 < by_ ∧ (szx = sz ∨ ys = []) ∧ Run (appTo et H b n sz by_ ys k) .mk) .mk) .mk) .mk) .mk) .mk) .mk) .mk) .mk := by
  simp only [Run, Bind, evAppend, optK, onSrc, appTo]
  cases elemSz P t <;> cases tBytes P t <;> cases srcOf H (lenKind P tx) x <;> rfl
@[go_sem] theorem v_onSrc {a : Nat} {b : List AV} {k : Nat → List AV → Prop} {z} : Run (onSrc (some (a, b)) k) z = k a b := rfl
@[go_sem] theorem v_app_nil {et : TypeId} {loc sz by_ : Nat} {ys : List AV} {k : AV → Heap → Prop} {z} : Run (appTo et H .nilslice loc sz by_ ys k) z = (ys.length * by_ ≤ 140737488355328 ∧ Bind (H ++ [some (.row et sz ys)]) (fun H => k (.mslice sz loc 0 ys.length) H) .mk) := rfl
@[go_sem] theorem v_app_zcap {et : TypeId} {loc sz by_ : Nat} {ys : List AV} {k : AV → Heap → Prop} {z} : Run (appTo et H .zcap loc sz by_ ys k) z = (ys.length * by_ ≤ 140737488355328 ∧ Bind (H ++ [some (.row et sz ys)]) (fun H => k (.mslice sz loc 0 ys.length) H) .mk) := rfl
@[go_sem] theorem v_onRow {t : TypeId} {sz : Nat} {xs : List AV} {k : TypeId → Nat → List AV → Prop} {z} : Run (onRow (some (.row t sz xs)) k) z = k t sz xs := rfl
@[go_sem] theorem v_app_row {et : TypeId} {loc sz sz' l i n by_ : Nat} {ys : List AV} {k : AV → Heap → Prop} {z} : Run (appTo et H (.mslice sz' l i n) loc sz by_ ys k) z =
    Bind (H.get l) (fun o => Run (onRow o fun tg sz2 xs => tg = et ∧ sz' = sz ∧ sz2 = sz ∧ i = 0 ∧ n = xs.length ∧ (xs.length + ys.length) * by_ ≤ 140737488355328 ∧
      Bind (H.set l (some (.row tg sz (xs ++ ys)))) (fun H => k (.mslice sz l 0 (xs.length + ys.length)) H) .mk) .mk) .mk := by
  simp only [Run, Bind, appTo, onRow]
  cases H.get l with
  | none => rfl
  | some o => cases o <;> rfl
@[go_sem] theorem v_len_mslice {sz l i n : Nat} {z} : Run (evLen 2 (.mslice sz l i n) k) z = Bind n (fun n => k (.int .i64 n)) .mk := rfl
@[go_sem] theorem v_len_zcap {z} : Run (evLen 2 .zcap k) z = k (.int .i64 0) := rfl
/-! a callee that is a value -/
def onFunc (f : AV) (k : FuncId → List AV → List AV → Prop) : Prop :=
  match f with
  | .func (.func fid) first cap => k fid first cap
  | _ => False
@[go_sem ↓] theorem r_callT {t : Nat} {args : Array Operand} {ts : Array TypeId} {z} : Run (awpOps P O ops (⟨d, .call ⟨.value (.tmp t), args, ts⟩, ty, pos, aft, none⟩ :: r) K Kp e H) z =
    Bind (e.get t) (fun f => Bind (args.toList.map (ope e)) (fun as => Run (onFunc f fun fid first cap => Bind (first ++ as ++ cap) (fun as => Run (CallG P fid as H (onEnd (fun v H' => Run (awpOps P O ops r K Kp (putE d v e) H') .mk) (fun v H' => Run (Kp v e H') .mk))) .mk) .mk) .mk) .mk) .mk := by
  simp only [Run, Bind, awpOps, evOp, evCall, onFunc, ope]
  cases e.get t <;> rfl
@[go_sem] theorem v_onFunc {f : FuncId} {a b : List AV} {k : FuncId → List AV → List AV → Prop} {z} : Run (onFunc (.func (.func f) a b) k) z = k f a b := rfl
/-! type assertions -/
@[go_sem ↓] theorem r_typeAssert {x : Operand} {xt t : TypeId} {ok : Bool} {z} : Run (awpOps P O ops (⟨d, .typeAssert x xt t ok, ty, pos, aft, none⟩ :: r) K Kp e H) z =
    Bind (ope e x) (fun x => Bind (assertInfo P t) (fun i => Run (evAssert i (assertOk P t) x ok fun v => Run (awpOps P O ops r K Kp (putE d v e) H) .mk) .mk) .mk) .mk := rfl
/-! frozen values -/
def frzRow (o : Option AObj) (sz i n : Nat) (ys : List AV) : Prop :=
  match o with
  | some (.row _ sz2 xs) => sz2 = sz ∧ i + n = xs.length ∧ ys = xs.drop i
  | _ => False
@[go_sem] theorem frz_mslice {m sz l i n sz' : Nat} {ys : List AV} : Frz (m + 1) H (.mslice sz l i n) (.slice sz' ys) = (sz = sz' ∧ frzRow (H.get l) sz i n ys) := by
  simp only [Frz, frzRow]
  rfl
@[go_sem] theorem frzRow_row {tg : TypeId} {sz sz2 i n : Nat} {xs ys : List AV} : frzRow (some (.row tg sz2 xs)) sz i n ys = (sz2 = sz ∧ i + n = xs.length ∧ ys = xs.drop i) := rfl
@[go_sem] theorem frz_nil {m sz : Nat} {ys : List AV} : Frz (m + 1) H .nilslice (.slice sz ys) = (ys = []) := by simp [Frz]
@[go_sem] theorem frz_zcap {m sz : Nat} {ys : List AV} : Frz (m + 1) H .zcap (.slice sz ys) = (ys = []) := by simp [Frz]
@[go_sem] theorem frz_nilnil {m : Nat} : Frz (m + 1) H .nilslice .nilslice = True := by simp [Frz, AV.pureB]
@[go_sem] theorem frz_tuple {m : Nat} {vs ws : List AV} : Frz (m + 1) H (.tuple vs) (.tuple ws) = All2 (Frz m H) vs ws := by simp [Frz]
@[go_sem] theorem frz_agg {m : Nat} {vs ws : List AV} : Frz (m + 1) H (.agg vs) (.agg ws) = All2 (Frz m H) vs ws := by simp [Frz]
@[go_sem] theorem all2_nil {R : AV → AV → Prop} : All2 R [] [] = True := rfl
@[go_sem] theorem all2_cons {R : AV → AV → Prop} {x y : AV} {xs ys : List AV} : All2 R (x :: xs) (y :: ys) = (R x y ∧ All2 R xs ys) := rfl
@[go_sem] theorem one_two {v w : AV} {vs : List AV} : oneOr (v :: w :: vs) = .tuple (v :: w :: vs) := rfl
theorem frz_self : ∀ {m : Nat} {v : AV}, v.pureB = true → Frz m H v v
  | 0, v, h => ⟨rfl, h⟩
  | m + 1, v, h => by
    have key : ∀ vs : List AV, pureAll vs = true → All2 (Frz m H) vs vs := by
      intro vs
      induction vs with
      | nil => intro _; trivial
      | cons a l ih =>
        intro h
        simp only [pureAll, Bool.and_eq_true] at h
        exact ⟨frz_self h.1, ih h.2⟩
    cases v <;> simp only [AV.pureB, Bool.false_eq_true, Bool.and_eq_true] at h <;> simp only [Frz, AV.pureB, and_self] <;> first | trivial | exact key _ h | exact ⟨trivial, key _ h.1, key _ h.2⟩ | exact ⟨trivial, frz_self h⟩ | exact ⟨rfl, rfl⟩ | skip
end
end Go.Sim
