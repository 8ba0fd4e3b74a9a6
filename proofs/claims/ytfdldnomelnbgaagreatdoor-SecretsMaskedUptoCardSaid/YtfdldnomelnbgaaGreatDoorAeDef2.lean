/-
 The evaluator: regions whose order is open, code, functions.
 Conditions: none; this text holds definitions alone.
-/
import Derived.Test.YtfdldnomelnbgaaGreatDoorAeDef
namespace Go.AE
open Go

def cls : Op → Nat
 | .move _ | .assign _ | .pick _ _ _ | .build _ _ | .nilCheck _ | .binOp _ _ _ _ _ | .unOp _ _ _ | .convert _ _ _ | .makeFunc _ _ _ | .slice _ _ _ _ _ | .fieldAddr _ _ _
 | .field _ _ _ | .indexAddr _ _ _ | .index _ _ _ | .extract _ _ => 0
 | .load _ _ => 1
 | .alloc _ | .box _ _ | .buildSlice _ _ _ | .makeSlice _ _ _ => 2
 | .makeMap _ r => match r with
  | none => 2
  | some _ => 3
 | .call c => match c.callee with
  | .builtin .len | .builtin .cap | .builtin .min | .builtin .max => 0
  | _ => 3
 | _ => 3

def veqD : Nat → Value → Value → Bool
 | 0, _, _ => false
 | n + 1, x, y =>
  match x, y with
  | .bool a, .bool b => a == b
  | .int k a, .int l b => k == l && a == b
  | .float k a, .float l b => k == l && a == b
  | .string a, .string b => decide (a = b)
  | .pointer a, .pointer b => a == b
  | .slice a l c, .slice b m d => a == b && l == m && c == d
  | .map a, .map b => a == b
  | .chan a, .chan b => a == b
  | .nilFunc, .nilFunc => true
  | .nilIface, .nilIface => true
  | .func f a b, .func g c d => f == g && a.size == c.size && b.size == d.size && (a.toList.zip c.toList).all (fun p => veqD n p.1 p.2) && (b.toList.zip d.toList).all (fun p => veqD n p.1 p.2)
  | .iface s a, .iface t b => s == t && veqD n a b
  | .agg a, .agg b => a.size == b.size && (a.toList.zip b.toList).all (fun p => veqD n p.1 p.2)
  | .tuple a, .tuple b => a.size == b.size && (a.toList.zip b.toList).all (fun p => veqD n p.1 p.2)
  | _, _ => false
def veq (x y : Value) : Bool := veqD 5 x y
def blkEq (x y : Option (Option Blk)) : Bool :=
 match x, y with
 | some (some (.cells a)), some (some (.cells b)) => a.length == b.length && (a.zip b).all (fun p => veq p.1 p.2)
 | some (some (.map [])), some (some (.map [])) => true
 | _, _ => false
def vEqO (x y : Option Value) : Bool :=
 match x, y with
 | some a, some b => veq a b
 | _, _ => false

def predsA (o : Oper) : List Nat := o.after.toList.filterMap fun e => if Region.binds .any e then some e.on else none
def closeA : List Oper → List Nat → List Nat
 | [], acc => acc
 | o :: rest, acc => closeA rest (acc ++ [(predsA o).foldl (fun s k => s ||| 2 ^ k ||| acc.getD k 0) 0])
def ordA (c : List Nat) (i j : Nat) : Bool := (c.getD j 0).testBit i

def pairOk (ops : Array Oper) (c : List Nat) (i : Nat) (x : Oper) (j : Nat) (y : Oper) : Bool :=
 (Oper.apart ops x y && Oper.apart ops y x || ordA c i j) && (cls x.op != 3 || cls y.op != 3 || ordA c i j)
def staticOk (ops : Array Oper) : Bool :=
 let c := closeA ops.toList []
 ops.toList.zipIdx.all fun (x, i) => (predsA x).all (· < i) && !isSelect x.op &&
  ops.toList.zipIdx.all fun (y, j) => if i < j then pairOk ops c i x j y else true

def convOk (P : Program) : Op → Bool
 | .convert src dst _ => match P.underlying src, P.underlying dst with
  | some (.slice _), _ => false
  | _, some (.slice _) => false
  | _, _ => true
 | _ => true
def convS (P : Program) : Op → Bool
 | .convert src dst _ => match P.underlying src, P.underlying dst with
  | some (.slice _), some .string => true
  | _, _ => false
 | _ => false
def staticP (P : Program) (ops : Array Oper) : Bool := staticOk ops && ((ops.toList.all fun o => convOk P o.op) || ops.toList.all fun o => (convOk P o.op || convS P o.op) && decide (cls o.op < 2))

def loadAtA (P : Program) (st : Stat) (τ : Array Value) (o : Oper) (σ : Heap) : Option Value :=
 match o.op with
 | .load t a => match evalT τ a with
  | .pointer (some a) => loadV P st σ t a
  | _ => none
 | _ => none
def apartA (P : Program) (τi τj : Array Value) (x y : Oper) : Bool :=
 match x.op, y.op with
 | .load t a, .store u b _ => match evalT τi a, evalT τj b with
  | .pointer (some p), .pointer (some q) => p.spot.isSome || p.block != q.block || (match sizeA P t, sizeA P u with
   | some m, some k => (match P.underlying t with | some d => if aggDesc d then decide (p.off + m ≤ q.off) else decide (p.off + 1 ≤ q.off) | none => false) || decide (q.off + k ≤ p.off)
   | _, _ => false)
  | _, _ => false
 | _, _ => false
def dynOk (P : Program) (st : Stat) (ops : Array Oper) (tr : List (Array Value × Heap)) : Bool :=
 let c := closeA ops.toList []
 ops.toList.zipIdx.all fun (x, i) => match tr[i]? with
  | none => false
  | some (τi, σi) =>
   if (cls x.op == 1 || cls x.op == 2) && Region.wanted x (yielded ops τi) then
    ops.toList.zipIdx.all fun (y, j) => match tr[j]?, tr[j + 1]? with
     | some (τj, σj), some (_, σk) =>
      if cls y.op == 3 && Region.wanted y (yielded ops τj) && !ordA c i j && !ordA c j i then
       if cls x.op == 1 then apartA P τi τj x y || vEqO (loadAtA P st τi x σj) (loadAtA P st τi x σk)
       else if i < j then blkEq σj[σi.length]? σk[σi.length]? else true
      else true
     | _, _ => false
   else true

def DynP (P : Program) (st : Stat) (ops : Array Oper) (tr : List (Array Value × Heap)) : Prop :=
 ∀ (i j : Nat) (x y : Oper) (τi τj τk : Array Value) (σi σj σk : Heap), ops[i]? = some x → ops[j]? = some y → tr[i]? = some (τi, σi) → tr[j]? = some (τj, σj) → tr[j + 1]? = some (τk, σk) →
  Region.wanted x (yielded ops τi) = true → Region.wanted y (yielded ops τj) = true → cls y.op = 3 → ordA (closeA ops.toList []) i j = false → ordA (closeA ops.toList []) j i = false →
  (cls x.op = 1 → loadAtA P st τi x σj = loadAtA P st τi x σk) ∧ (cls x.op = 2 → i < j → σj[σi.length]? = σk[σi.length]?)
noncomputable def dynB (P : Program) (st : Stat) (ops : Array Oper) (tr : List (Array Value × Heap)) : Bool := dynOk P st ops tr || @decide (DynP P st ops tr) (Classical.propDecidable _)

def traceA (P : Program) (st : Stat) (call : CallA) (ops : Array Oper) : List Oper → Array Value → Heap → Option (List (Array Value × Heap))
 | [], τ, σ => some [(τ, σ)]
 | o :: rest, τ, σ =>
  match stepA P st call ops o τ σ with
  | some (τ', σ') => (traceA P st call ops rest τ' σ').map fun l => (τ, σ) :: l
  | none => none

noncomputable def drawA (P : Program) (st : Stat) (call : CallA) (ops : Array Oper) (τ : Array Value) (σ : Heap) : Option (Array Value × Heap) :=
 if staticP P ops then
  match traceA P st call ops ops.toList τ σ with
  | some tr => if dynB P st ops tr then tr.getLast? else none
  | none => none
 else none

inductive Ex where
 | normal
 | exit (id : Nat)
 | ret
 deriving DecidableEq

abbrev Out := Option (Ex × Array Value × Heap)

def iterA (f : Array Value → Heap → Out) : Nat → Array Value → Heap → Out
 | 0, _, _ => none
 | n + 1, τ, σ =>
  match f τ σ with
  | some (.normal, τ', σ') => iterA f n τ' σ'
  | r => r

def noRange : Code → Bool
 | .seq a b => noRange a && noRange b
 | .cond _ a b => noRange a && noRange b
 | .block _ a => noRange a
 | .loop a => noRange a
 | .scope a => noRange a
 | .rangeFunc _ _ _ _ => false
 | _ => true
def evalG (τ : Array Value) : Operand → Value
 | .tmp t => τ.getD t undef
 | .func f => .func (.func f) #[] #[]
 | _ => undef
def entersA (P : Program) (f : FuncId) : Bool :=
 match P.funcs[f]? with
 | some fn => !(fn.name == "runtime.NumGoroutine") && !fn.body.isNone
 | none => false
def endLoopA (σ : Heap) (l : Nat) : Option (Option Code × Heap) :=
 match σ[l]? with
 | some (some (.loop τ ps asg body s p)) => if s = .busy then none else some (p, σ.set l (some (.loop τ ps asg body .exhausted p)))
 | _ => none
def jumpA (τ : Array Value) (σ : Heap) : Option Code → Out
 | none => some (.normal, τ, σ)
 | some .ret => some (.ret, τ, σ)
 | some (.exit id) => some (.exit id, τ, σ)
 | _ => none
noncomputable def execA (P : Program) (st : Stat) (call : CallA) (n : Nat) : Code → Array Value → Heap → Out
 | .skip => fun τ σ => some (.normal, τ, σ)
 | .label _ => fun τ σ => some (.normal, τ, σ)
 | .region _ ops draw => fun τ σ =>
  match (if draw then drawA P st call ops τ σ else runA P st call ops ops.toList τ σ) with
  | some (τ', σ') => some (.normal, τ', σ')
  | none => none
 | .seq a b => fun τ σ =>
  match execA P st call n a τ σ with
  | some (.normal, τ', σ') => execA P st call n b τ' σ'
  | r => r
 | .cond c a b => fun τ σ =>
  match evalT τ c with
  | .bool t => if t then execA P st call n a τ σ else execA P st call n b τ σ
  | _ => none
 | .block id a => fun τ σ =>
  match execA P st call n a τ σ with
  | some (.exit k, τ', σ') => if k = id then some (.normal, τ', σ') else some (.exit k, τ', σ')
  | r => r
 | .loop a => fun τ σ => iterA (execA P st call n a) n τ σ
 | .scope a => fun τ σ => execA P st call n a τ σ
 | .exit id => fun τ σ => some (.exit id, τ, σ)
 | .ret => fun τ σ => some (.ret, τ, σ)
 | .rangeFunc g ps asg body => fun τ σ =>
  match evalG τ g with
  | .func (.func f) first captured =>
   if entersA P f then
    match call f ((first ++ #[Value.chan (some σ.length)]) ++ captured).toList (σ ++ [some (.loop τ ps asg body .ready none)]) with
    | some (_, σ2) => match endLoopA σ2 σ.length with
     | some (p, σ3) => jumpA τ σ3 p
     | none => none
    | none => none
   else none
  | _ => none
 | _ => fun _ _ => none
def beginA (σ : Heap) (l : Nat) : Option Heap :=
 match σ[l]? with
 | some (some (.loop τ ps asg body .ready p)) => some (σ.set l (some (.loop τ ps asg body .busy p)))
 | _ => none
def endA (σ : Heap) (l : Nat) (p : Option Code) : Option (Value × Heap) :=
 match σ[l]? with
 | some (some (.loop τ ps asg body _ _)) => some (.bool p.isNone, σ.set l (some (.loop τ ps asg body (if p.isNone then .ready else .done) p)))
 | _ => none
def leftA : Ex → Option Code
 | .normal => none
 | .exit id => some (.exit id)
 | .ret => some .ret
noncomputable def roundA (P : Program) (st : Stat) (call : CallA) (n : Nat) (l : Nat) (args : List Value) (σ : Heap) : Option (Value × Heap) :=
 match σ[l]? with
 | some (some (.loop τ ps asg body _ _)) =>
  if args.length = ps.size ∧ noRange asg = true ∧ noRange body = true then
   match execA P st call n asg ((ps.zip args.toArray).foldl (fun t q => t.setIfInBounds q.1 q.2) τ) σ with
   | some (.normal, τ1, σ1) => match beginA σ1 l with
    | some σ2 => match execA P st call n body τ1 σ2 with
     | some (ex, _, σ3) => endA σ3 l (leftA ex)
     | none => none
    | none => none
   | _ => none
  else none
 | _ => none

def resultA (P : Program) (st : Stat) (τ : Array Value) (σ : Heap) : ResultVar → Option Value
 | .tmp t => some (τ.getD t undef)
 | .cell a t => match τ.getD a undef with
  | .pointer (some a) => loadV P st σ t a
  | _ => none
def resultsA (P : Program) (st : Stat) (fn : Func) (τ : Array Value) (σ : Heap) : Option Value :=
 match fn.results.toList.mapM (resultA P st τ σ) with
 | some [v] => some v
 | some vs => some (.tuple vs.toArray)
 | none => none

noncomputable def bodyA (P : Program) (st : Stat) (call : CallA) (n : Nat) (fn : Func) (args : List Value) (σ : Heap) : Option (Value × Heap) :=
 match fn.body with
 | none => none
 | some c =>
  match execA P st call n c (args.toArray ++ Array.replicate (fn.ntmps - args.length) undef) σ with
  | some (.normal, τ, σ') => (resultsA P st fn τ σ').map (·, σ')
  | some (.ret, τ, σ') => (resultsA P st fn τ σ').map (·, σ')
  | _ => none

noncomputable def runF (P : Program) (st : Stat) (n : Nat) : Nat → CallA
 | 0 => fun _ _ _ => none
 | k + 1 => fun f args σ =>
  match P.funcs[f]? with
  | some fn => match st.ext f args σ with
   | some r => some r
   | none => bodyA P st (runF P st n k) n fn args σ
  | none => roundA P st (runF P st n k) n (f - P.funcs.size) args σ

end Go.AE
