/- A part of the evaluator of the program and of its proof: texts E3, E5, E6, E7, E8. -/
import Derived.Test.YtmokabokdhhdiaaGreatEngA
import Derived.Orders
import Derived.LoopN
import Derived.Laws.Cells
import Derived.Laws.IdiomCopy
import Derived.Below
import Derived.IntWalk
import Derived.Laws.Entries
import Derived.Laws.StructEq
import Derived.ChangeKeysEq
import Derived.Laws.Slices
set_option linter.unusedVariables false
namespace Go.Eng

/-- Ways out, by tests that may be open. -/
inductive Out (α : Type)
  | ok (a : α)
  | br (b : Bool) (x y : Out α)
  | bad
def Out.k {α R : Type} : Out α → (α → Option R) → Option R
  | .ok a, f => f a
  | .br b x y, f => ifb b (x.k f) (y.k f)
  | .bad, _ => none
inductive Ex | norm | ret | exit (id : Nat)

/-- What a function computes: of what is handed in, by a function on plain data, to what is handed back. -/
structure Spec where
  X : Type
  dec : Nat → AH → List AV → Option X   -- the first: how many names it sees
  out : X → Out (AV × AH)
/-- What a loop does: of the state at its head to the states behind it. -/
structure LSpec where
  X : Type
  dec : Nat → St → Option X
  out : X → Out (Ex × St)

/-- Slices that are not written any more are told by what they hold. -/
def immV (h : AH) (c : Cd) (v : AV) : Option (AV × AH) := match v with
  | .nils => some (.imm c [], h)
  | .cap0 _ => some (.imm c [], h)
  | .own nm _ off len _ => match hget h nm with
    | some (.row d l) => match castL d c l with
      | some l => some (.imm c ((l.drop off).take len), hset h nm (.frz c l))
      | none => none
    | some (.frz d l) => match castL d c l with
      | some l => some (.imm c ((l.drop off).take len), h)
      | none => none
    | _ => none
  | _ => none
inductive Nr
  | slot (i : Nat) (c : Cd)
  | cell (i j : Nat) (c : Cd)
def nr1 : Nr → St → St
  | .slot i c, s => match immV s.heap c (getT s.tmps i) with
    | some (v, h) => ⟨setT s.tmps i v, h, s.ctr⟩
    | none => s
  | .cell i j c, s => match getT s.tmps i with
    | .ptr nm off => match hget s.heap nm with
      | some (.exp cs) => match immV s.heap c (getT cs (off + j)) with
        | some (v, h) => match hget h nm with
          | some (.exp cs') => ⟨s.tmps, hset h nm (.exp (setT cs' (off + j) v)), s.ctr⟩
          | _ => s
        | none => s
      | _ => s
    | _ => s
def nrA : List Nr → St → St
  | [], s => s
  | x :: r, s => nrA r (nr1 x s)

structure Cfg where
  P : Program
  tc : Nat → Cd
  inpl : Nat → Bool   -- calls that may write what their arguments point to
  keep : Nat → Nat → List Nat
  meth : TypeId → String → Option FuncId
  spec : FuncId → Option Spec
  lspec : FuncId → Nat → Option LSpec
  hook : FuncId → Nat → List Nr

/-! ### 7. Names -/

mutual
def namesV : AV → List Nat
  | .ptr nm _ => [nm]
  | .eptr nm _ _ => [nm]
  | .own nm _ _ _ _ => [nm]
  | .xown nm _ _ _ => [nm]
  | .fn _ cs => namesL cs
  | .iface _ v => namesV v
  | .agg cs => namesL cs
  | .tup cs => namesL cs
  | _ => []
def namesL : List AV → List Nat
  | [] => []
  | v :: r => namesV v ++ namesL r
end
def memN : Nat → List Nat → Bool
  | _, [] => false
  | n, m :: r => match Nat.beq n m with | true => true | false => memN n r
def namesB : Option Blk → List Nat
  | some (.exp cs) => namesL cs
  | some (.rexp cs) => namesL cs
  | _ => []
def rootsH (base : Nat) : AH → List Nat
  | [] => []
  | (m, b) :: r => match Nat.blt m base with
    | true => namesB (some b) ++ rootsH base r
    | false => rootsH base r
/-- The names from base on that can be reached, each once. -/
def reach (h : AH) (base : Nat) : Nat → List Nat → List Nat → List Nat
  | 0, _, seen => seen
  | _, [], seen => seen
  | f + 1, n :: q, seen => match Nat.blt n base with
    | true => reach h base f q seen
    | false => match memN n seen with
      | true => reach h base f q seen
      | false => reach h base f (q ++ namesB (hget h n)) (seen ++ [n])
/-- Where a name stands in a list, from i on. -/
def posN : Nat → List Nat → Nat → Option Nat
  | _, [], _ => none
  | n, m :: r, i => match Nat.beq n m with | true => some i | false => posN n r (i + 1)
def newN (base : Nat) (ns : List Nat) (n : Nat) : Option Nat := match Nat.blt n base with
  | true => some n
  | false => posN n ns base
mutual
def renV (g : Nat → Option Nat) : AV → AV
  | .ptr nm off => match g nm with | some m => .ptr m off | none => .top
  | .eptr nm i sub => match g nm with | some m => .eptr m i sub | none => .top
  | .own nm c off len tl => match g nm with | some m => .own m c off len tl | none => .top
  | .xown nm c off len => match g nm with | some m => .xown m c off len | none => .top
  | .fn f cs => .fn f (renL g cs)
  | .iface t v => .iface t (renV g v)
  | .agg cs => .agg (renL g cs)
  | .tup cs => .tup (renL g cs)
  | v => v
def renL (g : Nat → Option Nat) : List AV → List AV
  | [] => []
  | v :: r => renV g v :: renL g r
end
def renB (g : Nat → Option Nat) : Blk → Blk
  | .exp cs => .exp (renL g cs)
  | .rexp cs => .rexp (renL g cs)
  | b => b
def lowH (g : Nat → Option Nat) (base : Nat) : AH → AH
  | [] => []
  | (m, b) :: r => match Nat.blt m base with
    | true => (m, renB g b) :: lowH g base r
    | false => lowH g base r
def highH (g : Nat → Option Nat) (h : AH) : Nat → List Nat → AH
  | _, [] => []
  | i, n :: r => match hget h n with
    | some b => (i, renB g b) :: highH g h (i + 1) r
    | none => highH g h (i + 1) r
/-- Only these slots are kept; the rest is forgotten. -/
def keepT (keep : List Nat) : Nat → List AV → List AV
  | _, [] => []
  | i, v :: r => (match memN i keep with | true => v | false => .top) :: keepT keep (i + 1) r
/-- A state of which only some slots, and what can be reached from them, are kept, the names counted anew from base on. -/
def canon (base : Nat) (keep : List Nat) (s : St) : St :=
  let tm := keepT keep 0 s.tmps
  let ns := reach s.heap base 10000 (rootsH base s.heap ++ namesL tm) []
  let g := newN base ns
  { tmps := renL g tm, heap := lowH g base s.heap ++ highH g s.heap base ns, ctr := base + ns.length }

/-! ### 8. Calls that stand alone: what they see is lent -/

def lendB : Blk → Blk
  | .exp cs => .rexp cs
  | .row c l => .lrow c l
  | b => b
/-- The blocks of these names. -/
def pickH (ns : List Nat) : AH → AH
  | [] => []
  | (m, b) :: r => match memN m ns with
    | true => (m, b) :: pickH ns r
    | false => pickH ns r
def dropH (ns : List Nat) : AH → AH
  | [] => []
  | (m, b) :: r => match memN m ns with
    | true => dropH ns r
    | false => (m, b) :: dropH ns r
def lendH : AH → AH
  | [] => []
  | (m, b) :: r => (m, lendB b) :: lendH r
/-- All names that can be reached. -/
def closN (h : AH) (vs : List AV) : List Nat := reach h 0 10000 (namesL vs) []

mutual
/-- A result: what it names is named anew from nb on; the old names, and the blocks, so far. -/
def expV (h : AH) (nb : Nat) : AV → List Nat → List Blk → Option (AV × List Nat × List Blk)
  | .own nm c off len tl, ns, bs => match hget h nm with
    | some (.row c' l) => match memN nm ns with
      | true => none
      | false => some (.own (nb + ns.length) c off len tl, ns ++ [nm], bs ++ [.row c' l])
    | some (.frz c' l) => match castL c' c l with
      | some l => some (.imm c ((l.drop off).take len), ns, bs)
      | none => none
    | _ => none
  | .xown nm c off len, ns, bs => match hget h nm with
    | some (.exp cs) => match decN0 h false c len (cs.drop (off * csz c)) with
      | some l => some (.imm c l, ns, bs)
      | none => none
    | _ => none
  | .agg cs, ns, bs => match expL h nb cs ns bs with
    | some (cs, ns, bs) => some (.agg cs, ns, bs)
    | none => none
  | .tup cs, ns, bs => match expL h nb cs ns bs with
    | some (cs, ns, bs) => some (.tup cs, ns, bs)
    | none => none
  | .iface t v, ns, bs => match expV h nb v ns bs with
    | some (v, ns, bs) => some (.iface t v, ns, bs)
    | none => none
  | .ptr _ _, _, _ => none
  | .eptr _ _ _, _, _ => none
  | .fn f [], ns, bs => some (.fn f [], ns, bs)
  | .fn _ _, _, _ => none
  | v, ns, bs => some (v, ns, bs)
def expL (h : AH) (nb : Nat) : List AV → List Nat → List Blk → Option (List AV × List Nat × List Blk)
  | [], ns, bs => some ([], ns, bs)
  | v :: r, ns, bs => match expV h nb v ns bs with
    | some (v, ns, bs) => match expL h nb r ns bs with
      | some (r, ns, bs) => some (v :: r, ns, bs)
      | none => none
    | none => none
end
/-- Rows that go out within others are not written any more. -/
def frzX1 (h : AH) (v : AV) : AH := match v with
  | .xown nm _ _ _ => match hget h nm with
    | some (.exp cs) => frzL h cs
    | _ => h
  | _ => h
def frzXL : AH → List AV → AH
  | h, [] => h
  | h, v :: r => frzXL (frzX1 h v) r
def frzX (h : AH) (v : AV) : AH := match v with
  | .agg cs => frzXL h cs
  | .tup cs => frzXL h cs
  | v => frzX1 h v

/-! ### 9. Regions that draw their order -/

def cls (g : Cfg) (o : Oper) : Nat := match o.op with
  | .box _ _ => 1
  | .alloc _ => 1
  | .load _ _ => 1
  | .buildSlice _ _ _ => 1
  | .makeSlice _ _ _ => 1
  | .convert _ d _ => match g.P.underlying d with
    | some (.int _) => 0
    | _ => 1
  | .store _ _ _ => 2
  | .call c => match c.callee with
    | .builtin .len => 0
    | .builtin .min => 0
    | .builtin .max => 0
    | .builtin _ => 2
    | .value (.func f) => match g.inpl f with | true => 2 | false => 1
    | .value _ => 2
    | .invoke _ _ => 1
  | _ => 0

/-- A call that names what it makes from the counter on. -/
def useC (g : Cfg) (o : Oper) : Bool := match cls g o with
  | 0 => false
  | 1 => false
  | _ => match o.op with
    | .call c => match c.callee with
      | .value _ => true
      | _ => false
    | _ => false
def fpCls (g : Cfg) (o : Oper) : Nat := match useC g o with
  | true => 3
  | false => cls g o

def opndT : Operand → List Nat
  | .tmp t => [t]
  | _ => []
def gdT (ops : List Oper) (o : Oper) : List Nat := match o.guard with
  | some (j, _) => match ops[j]? with
    | some p => match p.dst with | some t => [t] | none => []
    | none => []
  | none => []
def readsT (ops : List Oper) (o : Oper) : List Nat := o.op.operands.toList.flatMap opndT ++ gdT ops o
def dstT (o : Oper) : List Nat := match o.dst with | some t => [t] | none => []
def disj (a b : List Nat) : Bool := a.all fun x => !memN x b
/-- For each operation the positions that must be ahead of it. -/
def anc : List Oper → List (List Nat) → List (List Nat)
  | [], acc => acc
  | o :: r, acc => anc r (acc ++ [o.after.toList.foldl (fun l e => match Region.binds .any e with
    | true => l ++ (e.on :: acc.getD e.on [])
    | false => l) []])
/-- Slots: may two operations that are not ordered change places? -/
def okPairT (ops : List Oper) (x y : Oper) : Bool :=
  disj (dstT x) (dstT y) && (disj (dstT x) (readsT ops y) && disj (dstT y) (readsT ops x))
def okDrawAt (ops : List Oper) (y : Oper) (aj : List Nat) : Nat → List Oper → Bool
  | _, [] => true
  | i, x :: r => (memN i aj || okPairT ops x y) && okDrawAt ops y aj (i + 1) r
def okDrawFrom (ops : List Oper) (as : List (List Nat)) : Nat → List Oper → Bool
  | _, [] => true
  | j, y :: r => okDrawAt ops y (as.getD j []) 0 (ops.take j) && okDrawFrom ops as (j + 1) r
/-- Edges lead back. -/
def backE : Nat → List Oper → Bool
  | _, [] => true
  | j, o :: r => (o.after.toList.all fun e => !Region.binds .any e || Nat.blt e.on j) && backE (j + 1) r
def okDraw (ops : List Oper) : Bool := backE 0 ops && okDrawFrom ops (anc ops []) 0 ops

/-- What an operation touched: its class and the names. -/
abbrev FP := Nat × List Nat
/-- Is a name one that an operation made? nc: names from there on are made by calls that write. -/
def madeBy (c0 nc i : Nat) (fp : FP) (m : Nat) : Bool :=
  (Nat.ble (c0 + 64 * i) m && Nat.blt m (c0 + 64 * i + 64)) || (Nat.beq fp.1 3 && Nat.ble nc m)
def noneMade (c0 nc i : Nat) (fp : FP) : List Nat → Bool
  | [] => true
  | m :: r => !madeBy c0 nc i fp m && noneMade c0 nc i fp r
def okPairF (c0 nc i j : Nat) (x y : FP) : Bool :=
  Nat.beq x.1 0 || (Nat.beq y.1 0 || (noneMade c0 nc i x y.2 && (noneMade c0 nc j y x.2 &&
    (((Nat.beq x.1 1 && Nat.beq y.1 1) || disj x.2 y.2) && !(Nat.beq x.1 3 && Nat.beq y.1 3)))))
def okFpAt (c0 nc j : Nat) (y : FP) (aj : List Nat) : Nat → List FP → Bool
  | _, [] => true
  | i, x :: r => (memN i aj || okPairF c0 nc i j x y) && okFpAt c0 nc j y aj (i + 1) r
/-- fps: of all operations, in order. -/
def okFps (c0 nc : Nat) (as : List (List Nat)) (fps : List FP) : Nat → List FP → Bool
  | _, [] => true
  | j, y :: r => okFpAt c0 nc j y (as.getD j []) 0 (fps.take j) && okFps c0 nc as fps (j + 1) r

def ptrN : AV → List Nat
  | .ptr nm _ => [nm]
  | .eptr nm _ _ => [nm]
  | _ => []
/-- The names that an operation may touch. -/
def fpOf (g : Cfg) (o : Oper) (s : St) : List Nat := match cls g o with
  | 0 => []
  | _ => match o.op with
    | .load _ p => ptrN (ev1 s.tmps p)
    | .store _ p v => match ev1 s.tmps p with
      | .eptr nm _ _ => nm :: namesL (cells (ev1 s.tmps v))
      | .ptr nm _ => [nm]
      | _ => []
    | .box _ _ => []
    | .alloc _ => []
    | op => closN s.heap (op.operands.toList.map (ev1 s.tmps))

/-- Blocks laid over others. -/
def putH : AH → AH → AH
  | h, [] => h
  | h, (m, b) :: r => hset (putH h r) m b

/-! ### 10. The evaluator -/

section
variable {R : Type} (g : Cfg)

abbrev CallIn (R : Type) := FuncId → List AV → AH → Nat → (AV → AH → Nat → Option R) → Option R

def optB {α β : Type} (x : Option α) (f : α → Option β) : Option β := match x with
  | some a => f a
  | none => none

/-- What a call that stands alone hands back. -/
def isoFin (nb : Nat) (v : AV) (h : AH) (k : AV → List Blk → Option R) : Option R := match expV h nb v [] [] with
  | some (v, _, bs) => match Nat.blt bs.length 64 with | true => k v bs | false => none
  | none => none
/-- The names that it sees are counted from 0. -/
def isoArgs (h : AH) (args : List AV) (ns : List Nat) : List AV := renL (fun m => posN m ns 0) args
def isoHeap (h : AH) (ns : List Nat) : AH := lendH (highH (fun m => posN m ns 0) h 0 ns)

/-- A call that writes nothing that it is handed. -/
def callIso (cin : CallIn R) (n : Nat) (f : FuncId) (args : List AV) (h : AH) (nb : Nat) (k : AV → List Blk → Option R) : Option R :=
  match closN h args with
  | ns => match g.spec f with
    | some sp => match sp.dec ns.length (isoHeap h ns) (isoArgs h args ns) with
      | some x => (sp.out x).k fun p => isoFin nb p.1 p.2 k
      | none => none
    | none => cin f (isoArgs h args ns) (isoHeap h ns) ns.length fun v h _ => isoFin nb v (frzX h v) k

def setG (b : Bool) (tm : List AV) (t : Nat) : List AV := setT tm t (.bool b)

/-- An operation, as if it had no guard, upon a part of the memory; what becomes of it. -/
def evOp1 (cin : CallIn R) (n : Nat) (h : AH) (nb : Nat) (o : Oper) (tm : List AV) (ctr : Nat) (k : AV → AH → Nat → Option R) : Option R :=
  match cls g o with
  | 0 => match opP g.P g.tc tm o with
    | some (ok, v) => ifb ok (k v h ctr) none
    | none => none
  | 1 => match o.op with
    | .call c => match c.callee with
      | .value (.func f) => callIso g cin n f (c.args.toList.map (ev1 tm)) h nb fun v bs => k v (hsetAll h nb bs) ctr
      | .invoke r m => match ev1 tm r with
        | .iface t v => match g.meth t m with
          | some f => callIso g cin n f (v :: c.args.toList.map (ev1 tm)) h nb fun v bs => k v (hsetAll h nb bs) ctr
          | none => none
        | _ => none
      | _ => none
    | _ => match opN g.P g.tc h tm nb o with
      | some (ok, v, bs) => ifb ok (k v (hsetAll h nb bs) ctr) none
      | none => none
  | _ => match o.op with
    | .call c => match c.callee with
      | .value (.func f) => cin f (c.args.toList.map (ev1 tm)) h ctr k
      | .value x => match ev1 tm x with
        | .fn f cs => cin f (c.args.toList.map (ev1 tm) ++ cs) h ctr k
        | _ => none
      | _ => match opW g.P g.tc h tm nb o with
        | some (ok, v, h) => ifb ok (k v h ctr) none
        | none => none
    | _ => match opW g.P g.tc h tm nb o with
      | some (ok, v, h) => ifb ok (k v h ctr) none
      | none => none

/-- The slot that tells whether an operation is wanted, and for which answer. -/
def gdOf (ops : List Oper) (o : Oper) : Option (Option (Nat × Bool)) := match o.guard with
  | none => some none
  | some (j, want) => match ops[j]? with
    | some p => match p.dst with
      | some t => some (some (t, want))
      | none => none
    | none => none

/-- With the guard: run: what is done if it is wanted. -/
def guarded (ops : List Oper) (o : Oper) (s : St) (run : St → Option R) (skip : St → Option R) : Option R :=
  match gdOf ops o with
  | none => none
  | some none => run s
  | some (some (t, want)) => match getT s.tmps t with
    | .bool b => match want with
      | true => ifb b (run { s with tmps := setG true s.tmps t }) (skip { s with tmps := putT (setG false s.tmps t) o.dst .top })
      | false => ifb b (skip { s with tmps := putT (setG true s.tmps t) o.dst .top }) (run { s with tmps := setG false s.tmps t })
    | _ => none

def evOps (cin : CallIn R) (n : Nat) (ops : List Oper) (c0 : Nat) : Nat → List Oper → St → (St → Option R) → Option R
  | _, [], s, k => k s
  | i, o :: r, s, k => guarded ops o s
    (fun s => evOp1 g cin n s.heap (c0 + 64 * i) o s.tmps s.ctr fun v h ctr => evOps cin n ops c0 (i + 1) r { tmps := putT s.tmps o.dst v, heap := h, ctr := ctr } k)
    (fun s => evOps cin n ops c0 (i + 1) r s k)

/-- The names of a part of the memory behind an operation: those that it saw, or made. -/
def okNm (fp : List Nat) (nb ctr ctr' : Nat) : AH → Bool
  | [] => true
  | (m, _) :: r => (memN m fp || ((Nat.ble nb m && Nat.blt m (nb + 64)) || (Nat.ble ctr m && Nat.blt m ctr'))) && okNm fp nb ctr ctr' r
/-- An operation that sees no more than some names. -/
def evOpF (cin : CallIn R) (n : Nat) (nb : Nat) (fp : List Nat) (o : Oper) (s : St) (k : St → Option R) : Option R :=
  evOp1 g cin n (pickH fp s.heap) nb o s.tmps s.ctr fun v h ctr => match okNm fp nb s.ctr ctr h with
    | true => k { tmps := putT s.tmps o.dst v, heap := putH (dropH fp s.heap) h, ctr := ctr }
    | false => none

/-- A region that draws its order, in the order of its text; what each operation touched is kept, and looked at in the end. -/
def evDraw (cin : CallIn R) (n : Nat) (ops : List Oper) (as : List (List Nat)) (c0 nc : Nat) : Nat → List Oper → List FP → St → (St → Option R) → Option R
  | _, [], fps, s, k => match okFps c0 nc as fps 0 fps with | true => k s | false => none
  | i, o :: r, fps, s, k => guarded ops o s
    (fun s => evOpF g cin n (c0 + 64 * i) (fpOf g o s) o s fun s' => evDraw cin n ops as c0 nc (i + 1) r (fps ++ [(fpCls g o, fpOf g o s)]) s' k)
    (fun s => evDraw cin n ops as c0 nc (i + 1) r (fps ++ [(0, [])]) s k)

def evReg (cin : CallIn R) (n : Nat) (ops : List Oper) (dr : Bool) (s : St) (k : St → Option R) : Option R :=
  match dr with
  | false => evOps g cin n ops s.ctr 0 ops { s with ctr := s.ctr + 64 * ops.length } k
  | true => match okDraw ops with
    | true => evDraw g cin n ops (anc ops []) s.ctr (s.ctr + 64 * ops.length) 0 ops [] { s with ctr := s.ctr + 64 * ops.length } k
    | false => none

def loopN (body : St → (Ex → St → Option R) → Option R) (can : St → St) : Nat → St → (Ex → St → Option R) → Option R
  | 0, _, _ => none
  | n + 1, s, k => body s fun e s => match e with
    | .norm => loopN body can n (can s) k
    | .ret => k .ret s
    | .exit i => k (.exit i) s

def ev (cin : CallIn R) (n : Nat) (f base : Nat) : Nat → Code → St → (Ex → St → Option R) → Option R
  | _, .skip, s, k => k .norm s
  | _, .region id ops dr, s, k => evReg g cin n ops.toList dr (nrA (g.hook f id) s) (k .norm)
  | bid, .seq a b, s, k => ev cin n f base bid a s fun e s => match e with
    | .norm => ev cin n f base bid b s k
    | .ret => k .ret s
    | .exit i => k (.exit i) s
  | bid, .cond c a b, s, k => match ev1 s.tmps c with
    | .bool t => ifb t (ev cin n f base bid a s k) (ev cin n f base bid b s k)
    | _ => none
  | _, .block id b, s, k => ev cin n f base id b s fun e s => match e with
    | .norm => k .norm s
    | .ret => k .ret s
    | .exit j => match Nat.beq j id with | true => k .norm s | false => k (.exit j) s
  | _, .exit id, s, k => k (.exit id) s
  | _, .ret, s, k => k .ret s
  | bid, .loop b, s, k => match g.lspec f bid with
    | some ls => match ls.dec base (canon base (g.keep f bid) s) with
      | some x => (ls.out x).k fun p => k p.1 p.2
      | none => none
    | none => loopN (fun s k => ev cin n f base bid b s k) (canon base (g.keep f bid)) n (canon base (g.keep f bid) s) k
  | _, _, _, _ => none

def tops (n : Nat) : List AV := List.replicate n .top

def res1 (s : St) : ResultVar → Option AV
  | .tmp t => some (getT s.tmps t)
  | .cell a t => match isSome (g.P.underlying t), loadCs s.heap (g.P.cellsOf t) (getT s.tmps a) with
    | true, some cs => pack g.P t cs
    | _, _ => none
def resL (s : St) : List ResultVar → Option (List AV)
  | [] => some []
  | r :: rs => match res1 g s r with
    | some v => match resL s rs with
      | some vs => some (v :: vs)
      | none => none
    | none => none
def resV (s : St) (rs : List ResultVar) : Option AV := match resL g s rs with
  | some [v] => some v
  | some vs => some (.tup vs)
  | none => none

def callIn : Nat → CallIn R
  | 0, _, _, _, _, _ => none
  | n + 1, f, args, h, ctr, k => match g.P.funcs[f]? with
    | some fn => match fn.body with
      | some c => ev g (callIn n) n f ctr 0 c { tmps := args ++ tops (fn.ntmps - args.length), heap := h, ctr := ctr } fun e s => match e with
        | .exit _ => none
        | _ => match resV g s fn.results.toList with
          | some v => k v s.heap s.ctr
          | none => none
      | none => none
    | none => none
end
end Go.Eng

set_option linter.unusedVariables false
set_option linter.unusedSimpArgs false
namespace Go.Eng
open Go.RowKit

/-! ### What abstract values say of values -/

structure NI where
  blk : Option (Nat × Nat)
  len : Nat
  c : Cd
abbrev Gh := Nat → Option NI

@[reducible] def ad (b o : Nat) : Addr := ⟨b, o, none⟩

inductive VR (w : World) (G : Gh) (Z : Nat → Prop) : AV → Value → Prop
  | top (v : Value) : VR w G Z .top v
  | known (v : Value) : VR w G Z (.known v) v
  | bool (b : Bool) : VR w G Z (.bool b) (.bool b)
  | int (k : IntKind) (n : Int) : inR k n = true → VR w G Z (.int k n) (.int k n)
  | str (l : List UInt8) : VR w G Z (.str l) (.string ⟨l.toArray⟩)
  | nilp : VR w G Z .nilp (.pointer none)
  | ptr (nm off : Nat) (ni : NI) (b o : Nat) : G nm = some ni → ni.blk = some (b, o) → VR w G Z (.ptr nm off) (.pointer (some (ad b (o + off))))
  | eptr (nm i sub : Nat) (ni : NI) (b o : Nat) : G nm = some ni → ni.blk = some (b, o) → i < ni.len →
      VR w G Z (.eptr nm i sub) (.pointer (some (ad b (o + i * csz ni.c + sub))))
  | iptr (c : Cd) (x : c.T) (sub b o : Nat) (vs : Nat → Value) : Z b → (∀ j, j < csz c → w.cell? (ad b (o + j)) = some (vs j)) →
      (∀ j, j < csz c → VR w G Z (getT (enc c x) j) (vs j)) → VR w G Z (.iptr c x sub) (.pointer (some (ad b (o + sub))))
  | nils : VR w G Z .nils (.slice none 0 0)
  | cap0 (c : Cd) (a : Option Addr) : VR w G Z (.cap0 c) (.slice a 0 0)
  | imm (c : Cd) (l : List c.T) (b o cap : Nat) (vs : Nat → Nat → Value) : Z b → l.length ≤ cap →
      (∀ i, i < l.length → ∀ j, j < csz c → w.cell? (ad b (o + i * csz c + j)) = some (vs i j)) →
      (∀ i, i < l.length → ∀ j, j < csz c → VR w G Z (getT (enc c (l.getD i (dflt c))) j) (vs i j)) →
      VR w G Z (.imm c l) (.slice (some (ad b o)) l.length cap)
  | imm0 (c : Cd) (a : Option Addr) (cap : Nat) : VR w G Z (.imm c []) (.slice a 0 cap)
  | clip (c : Cd) (l : List c.T) (b o : Nat) (vs : Nat → Nat → Value) : Z b →
      (∀ i, i < l.length → ∀ j, j < csz c → w.cell? (ad b (o + i * csz c + j)) = some (vs i j)) →
      (∀ i, i < l.length → ∀ j, j < csz c → VR w G Z (getT (enc c (l.getD i (dflt c))) j) (vs i j)) →
      VR w G Z (.clip c l) (.slice (some (ad b o)) l.length l.length)
  | clip0 (c : Cd) (a : Option Addr) : VR w G Z (.clip c []) (.slice a 0 0)
  | own (nm : Nat) (c : Cd) (off len : Nat) (tl : Bool) (ni : NI) (b o cap : Nat) (e : TypeId) (S : Nat) : G nm = some ni → ni.blk = some (b, o) → ni.c = c →
      off + len ≤ ni.len → (tl = true → off + len = ni.len) → len ≤ cap → w.shape? b = some (e, S) → o + (off + cap) * csz c ≤ S →
      VR w G Z (.own nm c off len tl) (.slice (some (ad b (o + off * csz c))) len cap)
  | own0 (nm : Nat) (c : Cd) (off : Nat) (tl : Bool) (ni : NI) (a : Option Addr) : G nm = some ni → ni.c = c → off ≤ ni.len → (tl = true → off = ni.len) →
      VR w G Z (.own nm c off 0 tl) (.slice a 0 0)
  | xown (nm : Nat) (c : Cd) (off len : Nat) (ni : NI) (b o cap : Nat) : G nm = some ni → ni.blk = some (b, o) → len ≤ cap →
      VR w G Z (.xown nm c off len) (.slice (some (ad b (o + off * csz c))) len cap)
  | xown0 (nm : Nat) (c : Cd) (off : Nat) (a : Option Addr) : VR w G Z (.xown nm c off 0) (.slice a 0 0)
  | fn (f : FuncId) (cs : List AV) (vs : Array Value) : cs.length = vs.size → (∀ j, j < cs.length → VR w G Z (getT cs j) (vs.getD j undef)) →
      VR w G Z (.fn f cs) (.func (.func f) #[] vs)
  | nilf : VR w G Z .nilf .nilFunc
  | iface (t : TypeId) (v : AV) (u : Value) : VR w G Z v u → VR w G Z (.iface t v) (.iface t u)
  | nili : VR w G Z .nili .nilIface
  | agg (cs : List AV) (vs : Array Value) : cs.length = vs.size → (∀ j, j < cs.length → VR w G Z (getT cs j) (vs.getD j undef)) →
      (∀ j, j < cs.length → (vs.getD j undef).oneCell' = true) → VR w G Z (.agg cs) (.agg vs)
  | tup (cs : List AV) (vs : Array Value) : cs.length = vs.size → (∀ j, j < cs.length → VR w G Z (getT cs j) (vs.getD j undef)) →
      VR w G Z (.tup cs) (.tuple vs)

/-! ### How the world goes on -/

/-- No cell of a block is frozen. -/
def NoFrz (w : World) (b : Nat) : Prop := ∀ cs e lo hi, w.heap[b]? = some (.cells cs e (lo, hi)) → lo = hi ∨ cs.size ≤ lo

structure Ext (Wr : Nat → Nat → Prop) (w w' : World) : Prop where
  os : w'.os = w.os
  tape : w'.tape = w.tape
  output : w'.output = w.output
  size : w.heap.size ≤ w'.heap.size
  blk : ∀ b, b < w.heap.size → (∀ j, ¬ Wr b j) → w'.heap[b]? = w.heap[b]?
  shp : ∀ b, b < w.heap.size → w'.shape? b = w.shape? b
  cell : ∀ b j, b < w.heap.size → ¬ Wr b j → w'.cell? (ad b j) = w.cell? (ad b j)
  frz : ∀ b, b < w.heap.size → NoFrz w b → NoFrz w' b

theorem lt_of_cell {w : World} {b j : Nat} {v : Value} (h : w.cell? (ad b j) = some v) : b < w.heap.size :=
  World.block_lt_of_cell? w (ad b j) h
theorem lt_of_shape {w : World} {b : Nat} {S : TypeId × Nat} (h : w.shape? b = some S) : b < w.heap.size := by
  unfold World.shape? at h
  rcases Nat.lt_or_ge b w.heap.size with h1 | h1
  · exact h1
  · rw [Array.getElem?_eq_none h1] at h; cases h

theorem Ext.refl (Wr : Nat → Nat → Prop) (w : World) : Ext Wr w w :=
  ⟨rfl, rfl, rfl, Nat.le_refl _, fun _ _ _ => rfl, fun _ _ => rfl, fun _ _ _ _ => rfl, fun _ _ h => h⟩
theorem Ext.mono {Wr Wr' : Nat → Nat → Prop} {w w' : World} (h : Ext Wr w w') (hw : ∀ b j, b < w.heap.size → Wr b j → Wr' b j) : Ext Wr' w w' :=
  ⟨h.os, h.tape, h.output, h.size, fun b hb hn => h.blk b hb fun j hj => hn j (hw b j hb hj), h.shp, fun b j hb hn => h.cell b j hb fun hj => hn (hw b j hb hj), h.frz⟩
theorem Ext.trans {Wr Wr' : Nat → Nat → Prop} {w w' w'' : World} (h : Ext Wr w w') (k : Ext Wr' w' w'') (hw : ∀ b j, b < w.heap.size → Wr' b j → Wr b j) : Ext Wr w w'' where
  os := k.os.trans h.os
  tape := k.tape.trans h.tape
  output := k.output.trans h.output
  size := Nat.le_trans h.size k.size
  blk b hb hn := (k.blk b (Nat.lt_of_lt_of_le hb h.size) fun j hj => hn j (hw b j hb hj)).trans (h.blk b hb hn)
  shp b hb := (k.shp b (Nat.lt_of_lt_of_le hb h.size)).trans (h.shp b hb)
  cell b j hb hn := (k.cell b j (Nat.lt_of_lt_of_le hb h.size) fun hj => hn (hw b j hb hj)).trans (h.cell b j hb hn)
  frz b hb hf := k.frz b (Nat.lt_of_lt_of_le hb h.size) (h.frz b hb hf)

/-- Values mean the same as long as names keep their places, and frozen blocks their cells. -/
theorem VR.mono {w w' : World} {G G' : Gh} {Z Z' : Nat → Prop} {Wr : Nat → Nat → Prop} {x : AV} {v : Value} (h : VR w G Z x v)
    (he : Ext Wr w w') (hz : ∀ b, Z b → ∀ j, ¬ Wr b j) (hg : ∀ nm ni, G nm = some ni → G' nm = some ni) (hzz : ∀ b, Z b → Z' b) : VR w' G' Z' x v := by
  induction h with
  | top v => exact .top v
  | known v => exact .known v
  | bool b => exact .bool b
  | int k n h => exact .int k n h
  | str l => exact .str l
  | nilp => exact .nilp
  | ptr nm off ni b o h1 h2 => exact .ptr nm off ni b o (hg _ _ h1) h2
  | eptr nm i sub ni b o h1 h2 h3 => exact .eptr nm i sub ni b o (hg _ _ h1) h2 h3
  | iptr c x sub b o vs h1 h2 _ ih => exact .iptr c x sub b o vs (hzz b h1) (fun j hj => (he.cell b _ (lt_of_cell (h2 j hj)) (hz b h1 _)).trans (h2 j hj)) ih
  | nils => exact .nils
  | cap0 c a => exact .cap0 c a
  | imm c l b o cap vs h1 h2 h3 _ ih => exact .imm c l b o cap vs (hzz b h1) h2 (fun i hi j hj => (he.cell b _ (lt_of_cell (h3 i hi j hj)) (hz b h1 _)).trans (h3 i hi j hj)) ih
  | imm0 c a cap => exact .imm0 c a cap
  | clip c l b o vs h1 h3 _ ih => exact .clip c l b o vs (hzz b h1) (fun i hi j hj => (he.cell b _ (lt_of_cell (h3 i hi j hj)) (hz b h1 _)).trans (h3 i hi j hj)) ih
  | clip0 c a => exact .clip0 c a
  | own nm c off len tl ni b o cap e S h1 h2 h3 h4 h5 h6 h7 h8 => exact .own nm c off len tl ni b o cap e S (hg _ _ h1) h2 h3 h4 h5 h6 ((he.shp b (lt_of_shape h7)).trans h7) h8
  | own0 nm c off tl ni a h1 h2 h3 h4 => exact .own0 nm c off tl ni a (hg _ _ h1) h2 h3 h4
  | xown nm c off len ni b o cap h1 h2 h3 => exact .xown nm c off len ni b o cap (hg _ _ h1) h2 h3
  | xown0 nm c off a => exact .xown0 nm c off a
  | fn f cs vs h1 _ ih => exact .fn f cs vs h1 ih
  | nilf => exact .nilf
  | iface t v u _ ih => exact .iface t v u ih
  | nili => exact .nili
  | agg cs vs h1 _ h3 ih => exact .agg cs vs h1 ih h3
  | tup cs vs h1 _ ih => exact .tup cs vs h1 ih

/-! ### What a block says -/

def wr : Blk → Bool
  | .exp _ => true
  | .row _ _ => true
  | _ => false

/-- Cells from a place on. -/
structure CR (w : World) (G : Gh) (Z : Nat → Prop) (b o : Nat) (cs : List AV) (vs : Nat → Value) : Prop where
  cell : ∀ j, j < cs.length → w.cell? (ad b (o + j)) = some (vs j)
  one : ∀ j, j < cs.length → (vs j).oneCell' = true
  vr : ∀ j, j < cs.length → VR w G Z (getT cs j) (vs j)
/-- A row's cells. -/
structure RR (w : World) (G : Gh) (Z : Nat → Prop) (b o : Nat) (c : Cd) (l : List c.T) (vs : Nat → Nat → Value) : Prop where
  cell : ∀ i, i < l.length → ∀ j, j < csz c → w.cell? (ad b (o + i * csz c + j)) = some (vs i j)
  vr : ∀ i, i < l.length → ∀ j, j < csz c → VR w G Z (getT (enc c (l.getD i (dflt c))) j) (vs i j)

def BR (w : World) (G : Gh) (Z : Nat → Prop) (ni : NI) : Blk → Prop
  | .exp cs => ∃ b o vs, ni.blk = some (b, o) ∧ ni.len = cs.length ∧ CR w G Z b o cs vs ∧ NoFrz w b ∧ b < w.heap.size
  | .rexp cs => ∃ b o vs, ni.blk = some (b, o) ∧ ni.len = cs.length ∧ CR w G Z b o cs vs ∧ b < w.heap.size
  | .row c l => ni.c = c ∧ ni.len = l.length ∧ ((ni.blk = none ∧ l = []) ∨ ∃ b o vs, ni.blk = some (b, o) ∧ RR w G Z b o c l vs ∧ NoFrz w b ∧ b < w.heap.size)
  | .lrow c l => ni.c = c ∧ ni.len = l.length ∧ ((ni.blk = none ∧ l = []) ∨ ∃ b o vs, ni.blk = some (b, o) ∧ RR w G Z b o c l vs ∧ b < w.heap.size)
  | .frz c l => ni.c = c ∧ ni.len = l.length ∧ ((ni.blk = none ∧ l = []) ∨ ∃ b o vs, ni.blk = some (b, o) ∧ RR w G Z b o c l vs ∧ b < w.heap.size ∧ Z b)

/-- What may be written: whole blocks. -/
def WrH (G : Gh) (h : AH) (b : Nat) (_ : Nat) : Prop := ∃ nm bl ni o, hget h nm = some bl ∧ wr bl = true ∧ G nm = some ni ∧ ni.blk = some (b, o)

structure HR (w : World) (G : Gh) (Z : Nat → Prop) (h : AH) : Prop where
  blk : ∀ nm bl, hget h nm = some bl → ∃ ni, G nm = some ni ∧ BR w G Z ni bl
  sep : ∀ n m bn bm ni mi b o o', hget h n = some bn → wr bn = true → hget h m = some bm → n ≠ m → G n = some ni → G m = some mi → ni.blk = some (b, o) → mi.blk ≠ some (b, o')
  zsep : ∀ n bn ni b o, hget h n = some bn → wr bn = true → G n = some ni → ni.blk = some (b, o) → ¬ Z b
  zlt : ∀ b, Z b → b < w.heap.size

theorem CR.mono {w w' : World} {G G' : Gh} {Z Z' : Nat → Prop} {Wr : Nat → Nat → Prop} {b o : Nat} {cs : List AV} {vs : Nat → Value} (h : CR w G Z b o cs vs)
    (he : Ext Wr w w') (hz : ∀ b, Z b → ∀ j, ¬ Wr b j) (hg : ∀ nm ni, G nm = some ni → G' nm = some ni) (hzz : ∀ b, Z b → Z' b)
    (hb : ∀ j, o ≤ j → j < o + cs.length → ¬ Wr b j) : CR w' G' Z' b o cs vs :=
  ⟨fun j hj => (he.cell b _ (lt_of_cell (h.cell j hj)) (hb _ (by omega) (by omega))).trans (h.cell j hj), h.one, fun j hj => (h.vr j hj).mono he hz hg hzz⟩
theorem RR.mono {w w' : World} {G G' : Gh} {Z Z' : Nat → Prop} {Wr : Nat → Nat → Prop} {b o : Nat} {c : Cd} {l : List c.T} {vs : Nat → Nat → Value} (h : RR w G Z b o c l vs)
    (he : Ext Wr w w') (hz : ∀ b, Z b → ∀ j, ¬ Wr b j) (hg : ∀ nm ni, G nm = some ni → G' nm = some ni) (hzz : ∀ b, Z b → Z' b)
    (hb : ∀ j, ¬ Wr b j) : RR w' G' Z' b o c l vs :=
  ⟨fun i hi j hj => (he.cell b _ (lt_of_cell (h.cell i hi j hj)) (hb _)).trans (h.cell i hi j hj), fun i hi j hj => (h.vr i hi j hj).mono he hz hg hzz⟩
theorem NoFrz.mono {w w' : World} {Wr : Nat → Nat → Prop} {b : Nat} (h : NoFrz w b) (he : Ext Wr w w') (hb : b < w.heap.size) : NoFrz w' b := he.frz b hb h
theorem NoFrz.at {w : World} {b j : Nat} {e : TypeId} {S : Nat} (h : NoFrz w b) (hs : w.shape? b = some (e, S)) (hj : j < S) : w.frozen? (ad b j) = false := by
  unfold World.shape? at hs
  unfold World.frozen?
  split at hs
  · rename_i c el fr hc
    cases hs
    obtain ⟨lo, hi⟩ := fr
    simp only [hc]
    have := h c e lo hi hc
    simp only [Bool.and_eq_false_iff, decide_eq_false_iff_not]
    omega
  · cases hs

theorem BR.mono {w w' : World} {G G' : Gh} {Z Z' : Nat → Prop} {Wr : Nat → Nat → Prop} {ni : NI} {bl : Blk} (h : BR w G Z ni bl)
    (he : Ext Wr w w') (hz : ∀ b, Z b → ∀ j, ¬ Wr b j) (hg : ∀ nm ni, G nm = some ni → G' nm = some ni) (hzz : ∀ b, Z b → Z' b)
    (hb : ∀ b o, ni.blk = some (b, o) → ∀ j, ¬ Wr b j) : BR w' G' Z' ni bl := by
  cases bl with
  | exp cs =>
    obtain ⟨b, o, vs, h1, h2, h3, h4, h5⟩ := h
    exact ⟨b, o, vs, h1, h2, h3.mono he hz hg hzz fun j _ _ => hb b o h1 j, h4.mono he h5, Nat.lt_of_lt_of_le h5 he.size⟩
  | rexp cs =>
    obtain ⟨b, o, vs, h1, h2, h3, h5⟩ := h
    exact ⟨b, o, vs, h1, h2, h3.mono he hz hg hzz fun j _ _ => hb b o h1 j, Nat.lt_of_lt_of_le h5 he.size⟩
  | row c l =>
    obtain ⟨h1, h2, h3⟩ := h
    refine ⟨h1, h2, h3.imp id ?_⟩
    rintro ⟨b, o, vs, h4, h5, h6, h7⟩
    exact ⟨b, o, vs, h4, h5.mono he hz hg hzz (hb b o h4), h6.mono he h7, Nat.lt_of_lt_of_le h7 he.size⟩
  | lrow c l =>
    obtain ⟨h1, h2, h3⟩ := h
    refine ⟨h1, h2, h3.imp id ?_⟩
    rintro ⟨b, o, vs, h4, h5, h7⟩
    exact ⟨b, o, vs, h4, h5.mono he hz hg hzz (hb b o h4), Nat.lt_of_lt_of_le h7 he.size⟩
  | frz c l =>
    obtain ⟨h1, h2, h3⟩ := h
    refine ⟨h1, h2, h3.imp id ?_⟩
    rintro ⟨b, o, vs, h4, h5, h7, h8⟩
    exact ⟨b, o, vs, h4, h5.mono he hz hg hzz (hb b o h4), Nat.lt_of_lt_of_le h7 he.size, hzz b h8⟩
end Go.Eng

set_option linter.unusedVariables false
set_option linter.unusedSimpArgs false
namespace Go.Eng
open Go.RowKit

variable {P : Program} {w : World} {G : Gh} {Z : Nat → Prop}

structure TR (w : World) (G : Gh) (Z : Nat → Prop) (tm : List AV) (a : Array Value) : Prop where
  len : tm.length = a.size
  at_ : ∀ t, VR w G Z (getT tm t) (a.getD t undef)

theorem getT_ge : ∀ (l : List AV) (n : Nat), l.length ≤ n → getT l n = .top
  | [], _, _ => rfl
  | _ :: _, 0, h => by simp at h
  | _ :: r, n + 1, h => getT_ge r n (by simpa using h)
theorem setT_length : ∀ (l : List AV) (n : Nat) (v : AV), (setT l n v).length = l.length
  | [], _, _ => rfl
  | _ :: _, 0, _ => rfl
  | _ :: r, n + 1, v => by simp [setT, setT_length r n v]
theorem getT_setT : ∀ (l : List AV) (n m : Nat) (v : AV), getT (setT l n v) m = if m = n ∧ n < l.length then v else getT l m
  | [], n, m, v => by simp [setT, getT]
  | x :: r, 0, 0, v => by simp [setT, getT]
  | x :: r, 0, m + 1, v => by simp [setT, getT]
  | x :: r, n + 1, 0, v => by simp [setT, getT]
  | x :: r, n + 1, m + 1, v => by simp [setT, getT, getT_setT r n m v]
theorem getT_lt : ∀ (l : List AV) (n : Nat) (h : n < l.length), getT l n = l[n]
  | [], _, h => by simp at h
  | _ :: _, 0, _ => rfl
  | _ :: r, n + 1, h => by simp [getT, getT_lt r n (by simpa using h)]
theorem getT_getElem? (l : List AV) (n : Nat) : getT l n = (l[n]?).getD .top := by
  rcases Nat.lt_or_ge n l.length with h | h
  · simp [getT_lt l n h, h]
  · simp [getT_ge l n h, List.getElem?_eq_none h]

theorem TR.set {tm : List AV} {a : Array Value} (h : TR w G Z tm a) {x : AV} {v : Value} (hv : VR w G Z x v) (t : Nat) : TR w G Z (setT tm t x) (a.setIfInBounds t v) := by
  refine ⟨by rw [setT_length]; simpa using h.len, fun m => ?_⟩
  rw [getT_setT]
  have hl := h.len
  by_cases hm : m = t ∧ t < tm.length
  · rw [if_pos hm]
    obtain ⟨rfl, ht⟩ := hm
    rw [hl] at ht
    simpa [Array.getD_eq_getD_getElem?, Array.getElem?_setIfInBounds, ht] using hv
  · rw [if_neg hm]
    have := h.at_ m
    rw [Array.getD_eq_getD_getElem?] at this ⊢
    rw [Array.getElem?_setIfInBounds]
    by_cases e : t = m
    · subst e
      have : ¬ t < a.size := by rw [← hl]; simpa using hm
      simp [this] at *
      assumption
    · simp [e]; exact this
theorem TR.put {tm : List AV} {a : Act} (h : TR w G Z tm a.tmps) {x : AV} {v : Value} (hv : VR w G Z x v) (d : Option Tmp) : TR w G Z (putT tm d x) (a.put d v).tmps := by
  cases d with
  | none => exact h
  | some t => exact h.set hv t

theorem ofVal_ok (v : Value) : VR w G Z (ofVal v) v := by
  cases v with
  | bool b => exact .bool b
  | int k n =>
    cases h : inR k n with
    | true => simp only [ofVal, h]; exact .int k n h
    | false => simp only [ofVal, h]; exact .top _
  | string s =>
    have : VR w G Z (.str s.data.toList) (.string ⟨s.data.toList.toArray⟩) := .str _
    simpa [ofVal] using this
  | pointer a => cases a with
    | none => exact .nilp
    | some a => exact .top _
  | slice a n c =>
    cases a with
    | some a => exact .top _
    | none => cases n with
      | succ n => exact .top _
      | zero => cases c with
        | succ c => exact .top _
        | zero => exact .nils
  | nilFunc => exact .nilf
  | nilIface => exact .nili
  | float k b => exact .top _
  | complex k a b => exact .top _
  | map r => exact .top _
  | chan r => exact .top _
  | func f a b => exact .top _
  | iface t v => exact .top _
  | agg c => exact .top _
  | tuple c => exact .top _

theorem ev1_ok {tm : List AV} {a : Act} (h : TR w G Z tm a.tmps) (x : Operand) : VR w G Z (ev1 tm x) (a.eval x) := by
  cases x with
  | tmp t => exact h.at_ t
  | const v => exact ofVal_ok v
  | global g => exact .top _
  | func f => exact .fn f [] #[] rfl (fun j hj => by simp at hj)

/-! ### Bytes stay bytes -/

theorem wrap_u8 (n : Int) : inR .u8 (IntKind.u8.wrap n) = true := by
  simp only [inR, IntKind.wrap, IntKind.bits, IntKind.signed, Bool.false_and, Bool.false_eq_true, if_false, Bool.and_eq_true, decide_eq_true_eq]
  omega
theorem inR_wrap (k : IntKind) (n : Int) : inR k (k.wrap n) = true := by
  cases k <;> first | exact wrap_u8 n | rfl
theorem inR_u8 {n : Int} : inR .u8 n = true ↔ 0 ≤ n ∧ n < 256 := by simp [inR]
theorem inR_of {k : IntKind} {n : Int} (h : k = .u8 → 0 ≤ n ∧ n < 256) : inR k n = true := by
  cases k <;> first | (rw [inR_u8]; exact h rfl) | rfl

theorem kEq_eq {k k' : IntKind} (h : kEq k k' = true) : k = k' := by
  cases k <;> cases k' <;> first | rfl | (simp [kEq] at h)

/-! ### Running -/

theorem run_und {t : TypeId} {d : TypeDesc} (h : P.underlying t = some d) (w : World) : (underlying t).run P w = .ok d w := run_underlying h w
theorem cellsOf_eq {t : TypeId} {i : TypeInfo} (h : P.info? t = some i) : P.cellsOf t = i.size := by simp [Program.cellsOf, h]
theorem run_sz {t : TypeId} (h : P.cellsOf t ≠ 0) (w : World) : (sizeOf t).run P w = .ok (P.cellsOf t) w := by
  cases hi : P.info? t with
  | none => simp [Program.cellsOf, hi] at h
  | some i => simp [sizeOf, typeInfo, hi, Program.cellsOf]
theorem info_of_und {t : TypeId} {d : TypeDesc} (h : P.underlying t = some d) : ∃ i, P.info? t = some i := by
  unfold Program.underlying at h
  split at h
  · exact ⟨_, by assumption⟩
  · exact ⟨_, by assumption⟩
  · cases h
theorem run_sz' {t : TypeId} {i : TypeInfo} (h : P.info? t = some i) (w : World) : (sizeOf t).run P w = .ok (P.cellsOf t) w := by
  simp [sizeOf, typeInfo, h, Program.cellsOf]
theorem isAgg_run {t : TypeId} {d : TypeDesc} (h : P.underlying t = some d) (w : World) : (isAgg t).run P w = .ok (isAgg? P t) w := by
  unfold isAgg isAgg?
  simp only [Sem.run_bind, run_und h, Result.andThen_ok, h]
  cases d <;> rfl

/-! ### Whole numbers -/

theorem tmod_byte {a b : Int} (ha : 0 ≤ a ∧ a < 256) (hb : b ≠ 0) : 0 ≤ a.tmod b ∧ a.tmod b < 256 := by
  refine ⟨Int.tmod_nonneg b ha.1, ?_⟩
  have h1 := Int.tmod_nonneg b ha.1
  have := Int.natAbs_tmod a b
  have h2 : (a.tmod b).natAbs ≤ a.natAbs := by rw [this]; exact Nat.mod_le _ _
  omega
theorem fdiv_byte {a : Int} (ha : 0 ≤ a ∧ a < 256) (n : Nat) : 0 ≤ a.fdiv (2 ^ n) ∧ a.fdiv (2 ^ n) < 256 := by
  have hp : (0 : Int) < 2 ^ n := Int.pow_pos (by decide)
  rw [Int.fdiv_eq_ediv_of_nonneg a (Int.le_of_lt hp)]
  refine ⟨Int.ediv_nonneg ha.1 (Int.le_of_lt hp), ?_⟩
  exact Int.lt_of_le_of_lt (Int.ediv_le_self _ ha.1) ha.2

theorem bin_int {op : BinOp} {t : TypeId} {k k' : IntKind} {a b : Int} {v : AV} (h : opBin P op t (.int k a) (.int k' b) = some (true, v))
    (ha : inR k a = true) (hb : inR k' b = true) : ∃ u, (binOp op t (.int k a) (.int k' b)).run P w = .ok u w ∧ VR w G Z v u := by
  by_cases hs : op = .shl ∨ op = .shr
  · rcases hs with rfl | rfl
    · simp only [opBin, Option.some.injEq, Prod.mk.injEq, decide_eq_true_eq] at h
      obtain ⟨h0, rfl⟩ := h
      refine ⟨_, ?_, .int k _ (inR_wrap k _)⟩
      simp [binOp, Op.shift, shN, show ¬ b < 0 by omega]
    · simp only [opBin, Option.some.injEq, Prod.mk.injEq, decide_eq_true_eq] at h
      obtain ⟨h0, rfl⟩ := h
      refine ⟨_, ?_, .int k _ (inR_of fun e => by subst e; exact fdiv_byte (inR_u8.1 ha) _)⟩
      simp [binOp, Op.shift, shN, show ¬ b < 0 by omega]
  · have hne1 : op ≠ .shl := fun e => hs (.inl e)
    have hne2 : op ≠ .shr := fun e => hs (.inr e)
    have hk : kEq k k' = true := by
      cases hkk : kEq k k' with
      | true => rfl
      | false => cases op <;> simp_all [opBin]
    obtain rfl := kEq_eq hk
    have cmp : ∀ r : Bool, v = .bool r → (binOp op t (.int k a) (.int k b)).run P w = .ok (.bool r) w → ∃ u, (binOp op t (.int k a) (.int k b)).run P w = .ok u w ∧ VR w G Z v u :=
      fun r hv hr => ⟨_, hr, by rw [hv]; exact .bool r⟩
    have num : ∀ n : Int, v = .int k n → inR k n = true → (binOp op t (.int k a) (.int k b)).run P w = .ok (.int k n) w → ∃ u, (binOp op t (.int k a) (.int k b)).run P w = .ok u w ∧ VR w G Z v u :=
      fun n hv hn hr => ⟨_, hr, by rw [hv]; exact .int k n hn⟩
    cases op <;> first | exact absurd rfl hne1 | exact absurd rfl hne2 | skip
    all_goals simp only [opBin, hk, cmpI, pv, Option.some.injEq, Prod.mk.injEq, true_and, bne_iff_ne, ne_eq, reduceCtorEq] at h
    case quo => exact num _ h.2.symm (inR_wrap k _) (by simp [binOp, Op.intDiv, h.1])
    case rem => exact num _ h.2.symm (inR_of fun e => by subst e; exact tmod_byte (inR_u8.1 ha) h.1) (by simp [binOp, Op.intDiv, h.1])
    case add => exact num _ h.symm (inR_wrap k _) (by simp [binOp, Op.intArith])
    case sub => exact num _ h.symm (inR_wrap k _) (by simp [binOp, Op.intArith])
    case mul => exact num _ h.symm (inR_wrap k _) (by simp [binOp, Op.intArith])
    case and => exact num _ h.symm (by unfold bitI; exact inR_wrap k _) (by simp [binOp, Op.intBits, bitI])
    case or => exact num _ h.symm (by unfold bitI; exact inR_wrap k _) (by simp [binOp, Op.intBits, bitI])
    case xor => exact num _ h.symm (by unfold bitI; exact inR_wrap k _) (by simp [binOp, Op.intBits, bitI])
    case andNot => exact num _ h.symm (by unfold bitI; exact inR_wrap k _) (by simp [binOp, Op.intBits, bitI])
    all_goals exact cmp _ h.symm (by simp [binOp, Op.intCmp])
end Go.Eng

set_option linter.unusedVariables false
set_option linter.unusedSimpArgs false
namespace Go.Eng
open Go.RowKit

variable {P : Program} {w : World} {G : Gh} {Z : Nat → Prop}

def RT (P : Program) (w : World) (G : Gh) (Z : Nat → Prop) (s : Sem Value) (v : AV) : Prop := ∃ u, s.run P w = .ok u w ∧ VR w G Z v u

theorem toListB (l : List UInt8) : (⟨l.toArray⟩ : ByteArray).toList = l := by rw [ByteArray.toList_eq]

/-! ### Parts of values -/

theorem part_ok {t : TypeId} {d : TypeDesc} (hd : P.underlying t = some d) {cs : List AV} {vs : Array Value} {off : Nat} {v : AV} (h : part? P t cs off = some v)
    (hr : VR w G Z (.agg cs) (.agg vs)) : ∃ u, (part t vs off).run P w = .ok u w ∧ VR w G Z v u := by
  obtain ⟨i, hi⟩ := info_of_und hd
  cases hr with
  | agg _ _ h1 h2 h3 =>
  unfold part? at h
  cases hag : isAgg? P t with
  | true =>
    rw [hag] at h
    simp only at h
    split at h
    · rename_i hle
      have hle' : off + P.cellsOf t ≤ cs.length := by simpa using hle
      obtain rfl := Option.some.inj h
      refine ⟨.agg (vs.extract off (off + P.cellsOf t)), by simp [part, isAgg_run hd, hag, run_sz' hi], .agg _ _ ?_ ?_ ?_⟩
      · simp only [List.length_take, List.length_drop, Array.size_extract]; omega
      all_goals
        intro j hj
        simp only [List.length_take, List.length_drop] at hj
        have e1 : (vs.extract off (off + P.cellsOf t)).getD j undef = vs.getD (off + j) undef := by
          simp only [Array.getD_eq_getD_getElem?, Array.getElem?_extract]
          rw [if_pos (by omega)]
        rw [e1]
      · have e2 : getT ((cs.drop off).take (P.cellsOf t)) j = getT cs (off + j) := by
          rw [getT_getElem?, getT_getElem?, List.getElem?_take, if_pos (by omega), List.getElem?_drop]
        rw [e2]
        exact h2 _ (by omega)
      · exact h3 _ (by omega)
    · cases h
  | false =>
    rw [hag] at h
    simp only at h
    split at h
    · rename_i hlt
      have hlt' : off < cs.length := by have := hlt; simp [Nat.blt, Nat.ble_eq] at this; omega
      obtain rfl := Option.some.inj h
      refine ⟨vs.getD off undef, ?_, h2 off hlt'⟩
      have : off < vs.size := by omega
      simp [part, isAgg_run hd, hag, this, Array.getD]
    · cases h

/-! ### Equality -/

theorem bne_of_beq {f : Field} (h : (f.name == "_") = false) : f.name ≠ "_" := by simpa using h

theorem eq_ok : ∀ n : Nat,
    (∀ (t : TypeId) (x y : AV) (r : Bool) (u v : Value), eqIn P n t x y = some r → VR w G Z x u → VR w G Z y v → ∀ d, n ≤ d → (Op.equalIn d t u v).run P w = .ok r w) ∧
    (∀ (fs : List Field) (a b : List AV) (r : Bool) (xs ys : Array Value), eqFs P n fs a b = some r → VR w G Z (.agg a) (.agg xs) → VR w G Z (.agg b) (.agg ys) → ∀ d, n ≤ d + 1 → (Op.eqFields d xs ys fs).run P w = .ok r w) ∧
    (∀ (e : TypeId) (sz k i : Nat) (a b : List AV) (r : Bool) (xs ys : Array Value), eqAr P n e sz k i a b = some r → VR w G Z (.agg a) (.agg xs) → VR w G Z (.agg b) (.agg ys) → ∀ d, n ≤ d + 1 → (Op.eqItems d e sz xs ys (List.range' i k)).run P w = .ok r w) := by
  intro n
  induction n with
  | zero =>
    refine ⟨fun t x y r u v h => by simp [eqIn] at h, fun fs a b r xs ys h => by simp [eqFs] at h, fun e sz k i a b r xs ys h => by simp [eqAr] at h⟩
  | succ n ih =>
    obtain ⟨ih1, ih2, ih3⟩ := ih
    refine ⟨?_, ?_, ?_⟩
    · intro t x y r u v h hx hy d hd
      obtain ⟨d, rfl⟩ : ∃ d', d = d' + 1 := ⟨d - 1, by omega⟩
      unfold eqIn at h
      split at h
      · rename_i hu
        split at h
        · cases hx; cases hy; cases h
          simp [Op.equalIn, run_und hu]
        · cases h
      · rename_i k hu
        split at h
        · rename_i k1 a k2 b
          split at h
          · rename_i hk
            obtain rfl := kEq_eq hk
            cases hx; cases hy; cases h
            simp [Op.equalIn, run_und hu]
          · cases h
        · cases h
      · rename_i hu
        split at h
        · cases hx; cases hy; cases h
          rename_i a b
          rw [run_equalIn_string w d t _ _ hu, toListB, toListB]
        · cases h
      · rename_i fs hu
        split at h
        · rename_i hst
          have hf : P.fieldsOf t = fs := by simp [Program.fieldsOf, hu]
          cases hx with
          | agg _ xs h1 h2 h3 =>
          cases hy with
          | agg _ ys g1 g2 g3 =>
          rw [run_equalIn_struct w d t xs ys (by rw [hf]; exact hu) hst, hf]
          exact ih2 _ _ _ _ _ _ h (.agg _ _ h1 h2 h3) (.agg _ _ g1 g2 g3) d (by omega)
        · cases h
      · rename_i len e hu
        split at h
        · rename_i hsz
          cases hx with
          | agg _ xs h1 h2 h3 =>
          cases hy with
          | agg _ ys g1 g2 g3 =>
          cases hi : P.info? e with
          | none => simp [Program.cellsOf, hi] at hsz
          | some i =>
            rw [run_equalIn_array w d xs ys hu hi, List.range_eq_range']
            exact ih3 _ _ _ _ _ _ _ _ _ h (.agg _ _ h1 h2 h3) (.agg _ _ g1 g2 g3) d (by omega)
        · cases h
      · cases h
    · intro fs a b r xs ys h hx hy d hd
      cases fs with
      | nil => simp [eqFs] at h; subst h; simp [Op.eqFields]
      | cons f fs =>
        simp only [eqFs] at h
        split at h
        · rename_i x y hne hpx hpy
          split at h
          · rename_i r1 q hr1 hq
            obtain rfl := Option.some.inj h
            have hdx : ∃ dd, P.underlying f.type = some dd := by
              cases n with
              | zero => simp [eqIn] at hr1
              | succ n => cases hu : P.underlying f.type with
                | none => simp [eqIn, hu] at hr1
                | some dd => exact ⟨dd, rfl⟩
            obtain ⟨dd, hdd⟩ := hdx
            obtain ⟨u, hu, hvu⟩ := part_ok hdd hpx hx
            obtain ⟨v, hv, hvv⟩ := part_ok hdd hpy hy
            have e1 := ih1 _ _ _ _ _ _ hr1 hvu hvv d (by omega)
            have e2 := ih2 _ _ _ _ _ _ hq hx hy d (by omega)
            simp only [Op.eqFields, ne_eq, bne_of_beq hne, not_false_eq_true, if_true, Sem.run_bind, hu, hv, Result.andThen_ok, e1]
            have hfin : andL fs r1 q = (r1 && q) := by
              cases fs with
              | nil =>
                cases n with
                | zero => simp [eqIn] at hr1
                | succ n => simp [eqFs] at hq; subst hq; simp [andL]
              | cons _ _ => rfl
            rw [hfin]
            cases r1 with
            | true => simp [e2]
            | false => simp
          · cases h
        · cases h
    · intro e sz k i a b r xs ys h hx hy d hd
      cases k with
      | zero => simp [eqAr] at h; subst h; simp [Op.eqItems]
      | succ k =>
        simp only [eqAr] at h
        split at h
        · rename_i x y hpx hpy
          split at h
          · rename_i r1 q hr1 hq
            obtain rfl := Option.some.inj h
            have hdx : ∃ dd, P.underlying e = some dd := by
              cases n with
              | zero => simp [eqIn] at hr1
              | succ n => cases hu : P.underlying e with
                | none => simp [eqIn, hu] at hr1
                | some dd => exact ⟨dd, rfl⟩
            obtain ⟨dd, hdd⟩ := hdx
            obtain ⟨u, hu, hvu⟩ := part_ok hdd hpx hx
            obtain ⟨v, hv, hvv⟩ := part_ok hdd hpy hy
            have e1 := ih1 _ _ _ _ _ _ hr1 hvu hvv d (by omega)
            have e2 := ih3 _ _ _ _ _ _ _ _ _ hq hx hy d (by omega)
            simp only [List.range'_succ, Op.eqItems, Sem.run_bind, hu, hv, Result.andThen_ok, e1]
            have hfin : andK k r1 q = (r1 && q) := by
              cases k with
              | zero =>
                cases n with
                | zero => simp [eqIn] at hr1
                | succ n => simp [eqAr] at hq; subst hq; simp [andK]
              | succ _ => rfl
            rw [hfin]
            cases r1 with
            | true => simpa using e2
            | false => simp
          · cases h
        · cases h
end Go.Eng

set_option linter.unusedVariables false
set_option linter.unusedSimpArgs false
namespace Go.Eng
open Go.RowKit

variable {P : Program} {w : World} {G : Gh} {Z : Nat → Prop} {tc : Nat → Cd}

theorem eqGuard_ne {op : BinOp} {t : TypeId} {x y : Operand} {a b : Value} (h : ∀ w : World, (eqGuard op t x y a b).run P w = .ok () w) {s : Sem Value} :
    (do eqGuard op t x y a b; s).run P w = s.run P w := by simp [h w]

theorem run_equal_of {t : TypeId} {a b : Value} {r : Bool} (h : ∀ d, (Op.equalIn (d + 1) t a b).run P w = .ok r w) : (Op.equal t a b).run P w = .ok r w := h 9999
theorem run_eqv {s : Sem Bool} {r : Bool} (h : s.run P w = .ok r w) : (s >>= fun b => (pure (.bool b) : Sem Value)).run P w = .ok (.bool r) w := by
  rw [Sem.run_bind, h]; rfl
theorem run_nev {s : Sem Bool} {r : Bool} (h : s.run P w = .ok r w) : (s >>= fun b => (pure (.bool (!b)) : Sem Value)).run P w = .ok (.bool (!r)) w := by
  rw [Sem.run_bind, h]; rfl

/-- Both operations that ask for equality. -/
theorem eqlB_ok {op : BinOp} {r : Bool} {v : AV} (h : eqlB op r = some (true, v)) {t : TypeId} {x y : Operand} {a b : Value}
    (hg : (op = .eql ∨ op = .neq) → ∀ w : World, (eqGuard op t x y a b).run P w = .ok () w)
    (he : (binOp .eql t a b).run P w = .ok (.bool r) w) (hn : (binOp .neq t a b).run P w = .ok (.bool (!r)) w) :
    RT P w G Z (do eqGuard op t x y a b; binOp op t a b) v := by
  unfold eqlB at h
  split at h
  · cases h; exact ⟨_, by rw [eqGuard_ne (hg (.inl rfl))]; exact he, .bool _⟩
  · cases h; exact ⟨_, by rw [eqGuard_ne (hg (.inr rfl))]; exact hn, .bool _⟩
  · cases h

theorem opBin_ok {op : BinOp} {t : TypeId} {x y : Operand} {a b v : AV} {u u' : Value} (h : opBin P op t a b = some (true, v)) (ha : VR w G Z a u) (hb : VR w G Z b u')
    (hgt : (∃ cs, a = .agg cs) → P.eqGuardType P.depth t = false) :
    RT P w G Z (do eqGuard op t x y u u'; binOp op t u u') v := by
  have plain : (∀ w : World, (eqGuard op t x y u u').run P w = .ok () w) → (∃ z, (binOp op t u u').run P w = .ok z w ∧ VR w G Z v z) → RT P w G Z (do eqGuard op t x y u u'; binOp op t u u') v := by
    intro hg ⟨z, hz, hv⟩
    exact ⟨z, by rw [eqGuard_ne hg]; exact hz, hv⟩
  cases a with
  | int k n =>
    cases b with
    | int k' n' =>
      cases ha with
      | int _ _ hn =>
      cases hb with
      | int _ _ hn' =>
      exact plain (fun w => by cases op <;> simp [eqGuard]) (bin_int h hn hn')
    | nilp => unfold opBin at h; simp only at h; split at h <;> cases h
    | _ => simp [opBin] at h
  | str l =>
    cases b with
    | str l' =>
      cases ha; cases hb
      simp only [opBin] at h
      split at h
      · simp only [Option.some.injEq, Prod.mk.injEq, decide_eq_true_eq] at h
        obtain ⟨hle, rfl⟩ := h
        refine plain (fun w => by simp [eqGuard]) ⟨.string ⟨(l ++ l').toArray⟩, ?_, .str _⟩
        have e : (⟨l.toArray⟩ : ByteArray) ++ ⟨l'.toArray⟩ = ⟨(l ++ l').toArray⟩ := by
          apply ByteArray.ext
          simp
        simp only [binOp, Op.stringOp]
        have hb : ¬ (((⟨l.toArray⟩ : ByteArray).size + (⟨l'.toArray⟩ : ByteArray).size : Nat) : Int) > IntKind.i64.max := by
          show ¬ ((l.toArray.size + l'.toArray.size : Nat) : Int) > IntKind.i64.max
          simp [IntKind.max, IntKind.signed, IntKind.bits]
          omega
        rw [if_neg hb, e]; rfl
      · refine eqlB_ok h (fun _ w => by cases op <;> simp [eqGuard]) ?_ ?_
        · simp [binOp, Op.stringOp, toListB]
        · simp [binOp, Op.stringOp, toListB]
    | nilp => unfold opBin at h; simp only at h; split at h <;> cases h
    | _ => simp [opBin] at h
  | bool l =>
    cases b with
    | bool l' =>
      cases ha; cases hb
      simp only [opBin] at h
      split at h
      · rename_i hu
        refine eqlB_ok h (fun _ w => by cases op <;> simp [eqGuard]) ?_ ?_
        · exact run_eqv (run_equal_of fun d => by simp [Op.equalIn, run_und hu])
        · exact run_nev (run_equal_of fun d => by simp [Op.equalIn, run_und hu])
      · cases h
    | nilp => unfold opBin at h; simp only at h; split at h <;> cases h
    | _ => simp [opBin] at h
  | agg cs =>
    cases b with
    | agg cs' =>
      cases ha with
      | agg _ vs h1 h2 h3 =>
      cases hb with
      | agg _ vs' g1 g2 g3 =>
      simp only [opBin] at h
      split at h
      · rename_i r hr
        have := (eq_ok (P := P) (w := w) (G := G) (Z := Z) 40).1 _ _ _ _ _ _ hr (.agg _ _ h1 h2 h3) (.agg _ _ g1 g2 g3) 10000 (by omega)
        refine eqlB_ok h (fun _ w => run_eqGuard_agg w op t x y vs vs' (hgt ⟨_, rfl⟩)) ?_ ?_
        · rw [run_eql_struct, this]; rfl
        · rw [run_neq_struct, this]; rfl
      · cases h
    | nilp => unfold opBin at h; simp only at h; split at h <;> cases h
    | _ => simp [opBin] at h
  | nilp =>
    cases b with
    | nilp =>
      cases ha; cases hb
      simp only [opBin] at h
      split at h
      · rename_i e hu
        refine eqlB_ok h (fun _ w => by cases op <;> simp [eqGuard]) ?_ ?_
        · exact run_eqv (run_equal_of fun d => by simp [Op.equalIn, run_und hu])
        · exact run_nev (run_equal_of fun d => by simp [Op.equalIn, run_und hu])
      · cases h
    | _ => simp [opBin] at h
  | ptr nm off =>
    cases b with
    | nilp =>
      cases ha; cases hb
      simp only [opBin] at h
      split at h
      · rename_i e hu
        refine eqlB_ok h (fun _ w => by cases op <;> simp [eqGuard]) ?_ ?_
        · exact run_eqv (run_equal_of fun d => by simp [Op.equalIn, run_und hu])
        · exact run_nev (run_equal_of fun d => by simp [Op.equalIn, run_und hu])
      · cases h
    | _ => simp [opBin] at h
  | eptr nm i sub =>
    cases b with
    | nilp =>
      cases ha; cases hb
      simp only [opBin] at h
      split at h
      · rename_i e hu
        refine eqlB_ok h (fun _ w => by cases op <;> simp [eqGuard]) ?_ ?_
        · exact run_eqv (run_equal_of fun d => by simp [Op.equalIn, run_und hu])
        · exact run_nev (run_equal_of fun d => by simp [Op.equalIn, run_und hu])
      · cases h
    | _ => simp [opBin] at h
  | iptr c x sub =>
    cases b with
    | nilp =>
      cases ha; cases hb
      simp only [opBin] at h
      split at h
      · rename_i e hu
        refine eqlB_ok h (fun _ w => by cases op <;> simp [eqGuard]) ?_ ?_
        · exact run_eqv (run_equal_of fun d => by simp [Op.equalIn, run_und hu])
        · exact run_nev (run_equal_of fun d => by simp [Op.equalIn, run_und hu])
      · cases h
    | _ => simp [opBin] at h
  | iface t' x =>
    cases b with
    | nili =>
      cases ha; cases hb
      simp only [opBin] at h
      split at h
      · rename_i e hu
        refine eqlB_ok h (fun _ w => by cases op <;> simp [eqGuard]) ?_ ?_
        · exact run_eqv (run_equal_of fun d => by simp [Op.equalIn, run_und hu])
        · exact run_nev (run_equal_of fun d => by simp [Op.equalIn, run_und hu])
      · cases h
    | nilp => unfold opBin at h; simp only at h; split at h <;> cases h
    | _ => simp [opBin] at h
  | _ =>
    cases b with
    | nilp => unfold opBin at h; simp only at h; split at h <;> cases h
    | _ => simp [opBin] at h

theorem opUn_ok {op : UnOp} {a v : AV} {u : Value} (h : opUn op a = some (true, v)) (ha : VR w G Z a u) : RT P w G Z (Op.unary op u) v := by
  unfold opUn at h
  split at h
  · cases ha; cases h; exact ⟨_, by simp [Op.unary], .bool _⟩
  · cases ha; cases h; exact ⟨_, by simp [Op.unary, Op.intArith], .int _ _ (inR_wrap _ _)⟩
  · rename_i k n
    cases ha; cases h
    refine ⟨_, ?_, .int _ _ (by unfold bitI; exact inR_wrap _ _)⟩
    cases k <;> simp [Op.unary, Op.intBits, bitI, IntKind.signed]
  · cases h

theorem opConvP_ok {s d : TypeId} {a v : AV} {u : Value} (h : opConvP P s d a = some (true, v)) (ha : VR w G Z a u) : RT P w G Z (convert s d u) v := by
  unfold opConvP at h
  split at h
  · rename_i sd k k' n hs hd
    cases ha; cases h
    exact ⟨_, by simp [convert, run_und hs, run_und hd, Conv.intToInt], .int _ _ (inR_wrap _ _)⟩
  · rename_i l hs hd
    cases ha; cases h
    exact ⟨_, by simp [convert, run_und hs, run_und hd], .str _⟩
  · cases h
end Go.Eng
