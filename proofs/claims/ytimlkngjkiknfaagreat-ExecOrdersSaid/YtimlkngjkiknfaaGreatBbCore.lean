/- The abstract machine: values by value, local variables and arrays in slots, objects in a heap list. Plain definitions; nothing of Go's memory model is used here. -/
import Derived.Orders
import Derived.KernelRfl
namespace Go.Proofs.Bb
open Go

inductive Loc where
  | v (s : Nat)
  | a (s : Nat)
  | h (b : Nat)
  deriving DecidableEq, Inhabited

inductive AV where
  | bool (b : Bool)
  | int (k : IntKind) (n : Int)
  | str (s : ByteArray)
  | nilp
  | nilm
  | nilf
  | nili
  | sl (z : Nat) (els : List (List AV)) (tl : Option (List (List AV)))
  | rs (l : Loc) (g z off len cap : Nat)
  | own (z : Nat) (els : List (List AV)) (len : Nat)
  | ip (cs : List AV) (o : Nat)
  | pt (l : Loc) (g i o : Nat)
  | map (b : Nat)
  | fn (f : FuncId) (first cap : List AV)
  | agg (cs : List AV)
  | tup (vs : List AV)
  | any
  deriving Inhabited

structure Blk where
  z : Nat
  els : List (List AV)
  ex : Bool
  fz : Bool
  deriving Inhabited

structure Slot where
  g : Nat
  b : Option Blk
  deriving Inhabited

structure Ent where
  key : AV
  val : AV
  born : Nat
  deriving Inhabited

inductive HB where
  | blk (b : Blk)
  | map (es : List Ent) (clock : Nat)
  | dead
  deriving Inhabited

structure St where
  t : Nat → AV
  v : Nat → Slot
  a : Nat → Slot
  h : List HB
  ro : Bool
  deriving Inhabited

def upd {α : Type} (f : Nat → α) (k : Nat) (x : α) : Nat → α := fun i => if i = k then x else f i
theorem upd_eq {α : Type} (f : Nat → α) (k : Nat) (x : α) : upd f k x k = x := by simp [upd]
theorem upd_ne {α : Type} (f : Nat → α) {k i : Nat} (x : α) (h : i ≠ k) : upd f k x i = f i := by simp [upd, h]

/-- An operand. -/
inductive X where
  | t (n : Nat)
  | c (v : AV)
  | f (f : FuncId)
  deriving Inhabited

def ev (t : Nat → AV) : X → AV
  | .t n => t n
  | .c v => v
  | .f f => .fn f [] []

inductive Mode where
  | iso
  | isoh
  | ro
  | rw
  deriving DecidableEq, Inhabited

/-- A kind of cell that is held against another. -/
inductive Kd where
  | b
  | i
  | s
  deriving DecidableEq, Inhabited

/-- An instruction. -/
inductive I where
  | mv (x : X)
  | pick (c a b : X)
  | allocv (zero : List AV)
  | alloch (zero : List AV)
  | boxv (n : Nat) (x : X)
  | boxh (n : Nat) (keep : Bool) (x : X)
  | build (zero : List AV) (parts : List (Nat × Nat × X))
  | bsl (z : Nat) (zero : List AV) (n : Nat) (parts : List (Nat × X))
  | load (w : Nat) (n : Option Nat) (a : X)
  | store (w : Nat) (n : Nat) (md : Nat) (a v : X)
  | nilc (x : X)
  | bin (op : BinOp) (x y : X)
  | eqv (neg ag : Bool) (ks : List Kd) (x y : X)
  | eqn (neg fn : Bool) (x y : X)
  | not (x : X)
  | convi (k : IntKind) (x : X)
  | s2b (x : X)
  | b2s (w : Nat) (x : X)
  | mkfn (f : FuncId) (first cap : List X)
  | mkmap (r : Option X)
  | mksl (z : Nat) (zero : List AV) (len cap : X)
  | slice (z : Nat) (x : X) (lo hi mx : Option X)
  | slicestr (x : X) (lo hi : Option X)
  | slicearr (z n : Nat) (x : X) (lo hi : Option X)
  | faddr (x : X) (off : Nat)
  | fld (x : X) (off : Nat) (n : Option Nat)
  | iaddr (z : Nat) (x i : X)
  | iaddra (z n : Nat) (x i : X)
  | idx (z n : Nat) (m : Option Nat) (x i : X)
  | idxs (x i : X)
  | lookup (ag : Bool) (ks : List Kd) (zero : AV) (x k : X) (ok : Bool)
  | mupd (ag : Bool) (ks : List Kd) (keep : Bool) (m k v : X)
  | ment (ag : Bool) (ks : List Kd) (zero : AV) (m k : X)
  | est (keep : Bool) (m s v : X)
  | ext (x : X) (i : Nat)
  | call (md : Mode) (aa : Bool) (f : FuncId) (args : List X)
  | callv (md : Mode) (aa : Bool) (f : X) (args : List X)
  | len (x : X)
  | lens (x : X)
  | lenm (x : X)
  | lena (n : Nat)
  | cap (x : X)
  | app (hh : Bool) (z : Nat) (s x : X)
  | apps (s x : X)
  | appz (z : Nat) (zero : List AV) (s n : X)
  | cpy (hh : Bool) (z : Nat) (d s : X)
  | clr (z : Nat) (zero : List AV) (x : X)
  | del (ag : Bool) (ks : List Kd) (m k : X)
  | max (xs : List X)
  | min (xs : List X)
  | bad
  deriving Inhabited

structure AI where
  d : Option Nat
  g : Option (Nat × Bool)
  i : I
  deriving Inhabited

inductive ACode where
  | skip
  | ins (l : List AI)
  | seq (a b : ACode)
  | cond (c : X) (a b : ACode)
  | block (id : Nat) (c : ACode)
  | loop (c : ACode)
  | exit (id : Nat)
  | ret
  deriving Inhabited

/-! ### Reading and writing -/

def notTup : AV → Bool
  | .tup _ => false
  | _ => true

def cellsOf : AV → List AV
  | .agg cs => cs
  | v => [v]

def blkAt : Option HB → Option Blk
  | some (.blk b) => some b
  | _ => none

def St.getB (s : St) : Loc → Nat → Option Blk
  | .v i, g => if (s.v i).g = g then (s.v i).b else none
  | .a i, g => if (s.a i).g = g then (s.a i).b else none
  | .h i, g => if g = 0 then blkAt s.h[i]? else none

def St.setB (s : St) (l : Loc) (b : Blk) : St :=
  match l with
  | .v i => { s with v := upd s.v i ⟨(s.v i).g, some b⟩ }
  | .a i => { s with a := upd s.a i ⟨(s.a i).g, some b⟩ }
  | .h i => { s with h := s.h.set i (.blk b) }

def St.kill (s : St) (l : Loc) : St :=
  match l with
  | .v i => { s with v := upd s.v i ⟨(s.v i).g, none⟩ }
  | .a i => { s with a := upd s.a i ⟨(s.a i).g, none⟩ }
  | .h i => { s with h := s.h.set i .dead }

def St.put (s : St) (d : Option Nat) (x : AV) : St :=
  match d with
  | some d => { s with t := upd s.t d x }
  | none => s

def ldc (cs : List AV) (o : Nat) : Option Nat → Option AV
  | none => cs[o]?
  | some n => if o + n ≤ cs.length then some (.agg ((cs.drop o).take n)) else none

/-- cells laid over others from o on -/
def putc (cs : List AV) (o : Nat) (vs : List AV) : List AV := cs.take o ++ vs ++ cs.drop (o + vs.length)


/-- What a local array holds between two places. -/
def Blk.part (b : Blk) (off len : Nat) : List (List AV) := (b.els.drop off).take len

def mapS (f : AV → St → Option (AV × St)) : List AV → St → Option (List AV × St)
  | [], s => some ([], s)
  | x :: xs, s => match f x s with
    | none => none
    | some (y, s) => match mapS f xs s with
      | none => none
      | some (ys, s) => some (y :: ys, s)

/-- Nothing of the frame's own in it: one cell. -/
def clean1 : AV → Bool
  | .bool _ | .int _ _ | .str _ | .nilp | .nilm | .nilf | .nili | .sl _ _ _ | .ip _ _ | .map _ | .pt (.h _) _ _ _ | .fn _ _ _ | .rs (.h _) _ _ _ _ _ => true
  | _ => false
def clean0 : AV → Bool
  | .agg cs => cs.all clean1
  | x => clean1 x
def clean : AV → Bool
  | .tup vs => vs.all clean0
  | x => clean0 x

/-- A one-cell value without references into the frame. A local array is told by its cells, and frozen (k = 0, 2), or moved to the heap (k = 1); an array of the heap is told by its cells where k = 2. -/
def conv1 (k : Nat) (x : AV) (s : St) : Option (AV × St) :=
  match x with
  | .rs (.a i) g z off len cap => match s.getB (.a i) g with
    | some b =>
      if k = 1 then
        if b.fz then none
        else some (.rs (.h s.h.length) 0 z off len cap, { s.kill (.a i) with h := s.h ++ [.blk b] })
      else some (.sl z (b.part off len) none, s.setB (.a i) { b with fz := true })
    | none => none
  | .rs (.h i) g z off len cap =>
    if k = 2 then
      match s.getB (.h i) g with
      | some b => some (.sl z (b.part off len) none, s)
      | none => none
    else some (.rs (.h i) g z off len cap, s)
  | x => if clean1 x then some (x, s) else none

def conv (k : Nat) (x : AV) (s : St) : Option (AV × St) :=
  match x with
  | .agg cs => match mapS (conv1 k) cs s with
    | some (cs, s) => some (.agg cs, s)
    | none => none
  | x => conv1 k x s

/-- What a function value captures: a local variable's address is told by its cells, frozen. -/
def capt (x : AV) (s : St) : Option (AV × St) :=
  match x with
  | .pt (.v i) g e o => match s.getB (.v i) g with
    | some b => match b.els[e]? with
      | some cs => if cs.all clean1 then some (.ip cs o, s.setB (.v i) { b with fz := true }) else none
      | none => none
    | none => none
  | x => if clean1 x then some (x, s) else none

/-- No slice, no pointer, no function in it. -/
def scal1 : AV → Bool
  | .bool _ | .int _ _ | .str _ | .nilp | .nilm | .nilf | .nili => true
  | _ => false
def scal0 : AV → Bool
  | .agg cs => cs.all scal1
  | x => scal1 x
def scal : AV → Bool
  | .tup vs => vs.all scal0
  | x => scal0 x

/-- A result: what is local is frozen, or, where own is set, handed over. -/
def res1 (own : Bool) (x : AV) (s : St) : Option (AV × St) :=
  match x with
  | .rs (.a i) g z off len cap =>
    if own && off == 0 then
      match s.getB (.a i) g with
      | some b => if b.fz || (b.els.isEmpty && !b.ex) || cap != b.els.length then conv 0 (.rs (.a i) g z off len cap) s else some (.own z b.els len, s.kill (.a i))
      | none => none
    else conv 0 (.rs (.a i) g z off len cap) s
  | x => conv 0 x s
/-- Of several results the first one alone is handed over. -/
def res (own : Bool) (x : AV) (s : St) : Option (AV × St) :=
  match x with
  | .tup (v :: vs) => match mapS (conv 0) vs s with
    | some (vs, s) => match res1 own v s with
      | some (v, s) => some (.tup (v :: vs), s)
      | none => none
    | none => none
  | .tup [] => some (.tup [], s)
  | x => res1 own x s

/-- A result that comes in: what is handed over gets the slot d. -/
def imp1 (d : Nat) (x : AV) (s : St) : AV × St :=
  match x with
  | .own z els len => (.rs (.a d) ((s.a d).g + 1) z 0 len els.length, { s with a := upd s.a d ⟨(s.a d).g + 1, some ⟨z, els, els.isEmpty, false⟩⟩ })
  | x => (x, s)
def impL (d : Nat) : List AV → St → List AV × St
  | [], s => ([], s)
  | x :: xs, s => let (y, s) := imp1 d x s; let (ys, s) := impL (d + 1000) xs s; (y :: ys, s)
def imp (d : Nat) (x : AV) (s : St) : AV × St :=
  match x with
  | .tup vs => let (vs, s) := impL (d + 1000) vs s; (.tup vs, s)
  | x => imp1 d x s

/-! ### Operations on values -/

def abin (op : BinOp) (x y : AV) : Option AV :=
  match x, y with
  | .int k a, .int k' b =>
    match op with
    | .shl => if b < 0 then none else some (.int k (k.wrap (a * 2 ^ (min b.toNat k.bits))))
    | .shr => if b < 0 then none else some (.int k (a.fdiv (2 ^ (min b.toNat k.bits))))
    | op =>
      if k = k' then
        match op with
        | .add => some (.int k (k.wrap (a + b)))
        | .sub => some (.int k (k.wrap (a - b)))
        | .mul => some (.int k (k.wrap (a * b)))
        | .quo => if b = 0 then none else some (.int k (k.wrap (a.tdiv b)))
        | .rem => if b = 0 then none else some (.int k (a.tmod b))
        | .and => some (.int k (k.wrap ((BitVec.ofInt k.bits a &&& BitVec.ofInt k.bits b).toNat)))
        | .or => some (.int k (k.wrap ((BitVec.ofInt k.bits a ||| BitVec.ofInt k.bits b).toNat)))
        | .xor => some (.int k (k.wrap ((BitVec.ofInt k.bits a ^^^ BitVec.ofInt k.bits b).toNat)))
        | .andNot => some (.int k (k.wrap ((BitVec.ofInt k.bits a &&& ~~~ BitVec.ofInt k.bits b).toNat)))
        | .eql => some (.bool (a == b))
        | .neq => some (.bool (a != b))
        | .lss => some (.bool (a < b))
        | .leq => some (.bool (a ≤ b))
        | .gtr => some (.bool (a > b))
        | .geq => some (.bool (a ≥ b))
        | _ => none
      else none
  | .str a, .str b =>
    match op with
    | .eql => some (.bool (a.toList == b.toList))
    | .neq => some (.bool (!(a.toList == b.toList)))
    | .add => if a.size + b.size < 2 ^ 62 then some (.str (a ++ b)) else none
    | _ => none
  | _, _ => none

/-- Are two one-cell values of a kind alike? -/
def eqK : Kd → AV → AV → Option Bool
  | .b, .bool a, .bool b => some (a == b)
  | .i, .int k a, .int k' b => if k = k' then some (a == b) else none
  | .s, .str a, .str b => some (a == b)
  | _, _, _ => none
def eqKs : List Kd → List AV → List AV → Option Bool
  | [], [], [] => some true
  | k :: ks, x :: xs, y :: ys => match eqK k x y with
    | some true => eqKs ks xs ys
    | some false => some false
    | none => none
  | _, _, _ => none
/-- Are two values alike? Structs and arrays cell by cell. -/
def eqV (ag : Bool) (ks : List Kd) (x y : AV) : Option Bool :=
  match ag, x, y with
  | true, .agg a, .agg b => if a.length = ks.length ∧ b.length = ks.length then eqKs ks a b else none
  | false, x, y => eqKs ks [x] [y]
  | _, _, _ => none
/-- A pointer, a function held against nil. -/
def eqN (fn : Bool) (x y : AV) : Option Bool :=
  match fn, x, y with
  | false, .nilp, .nilp => some true
  | false, .nilp, .pt _ _ _ _ | false, .pt _ _ _ _, .nilp | false, .nilp, .ip _ _ | false, .ip _ _, .nilp => some false
  | true, .nilf, .nilf => some true
  | true, .nilf, .fn _ _ _ | true, .fn _ _ _, .nilf => some false
  | _, _, _ => none

def asI : AV → Option Int
  | .int _ n => some n
  | _ => none

def evL (t : Nat → AV) (xs : List X) : List AV := xs.map (ev t)

def fillA (cs : List AV) : List (Nat × Nat × AV) → Option (List AV)
  | [] => some cs
  | (o, n, v) :: rest => if (cellsOf v).length = n ∧ o + n ≤ cs.length ∧ notTup v = true then fillA (putc cs o (cellsOf v)) rest else none

def fillE (n : Nat) (els : List (List AV)) : List (Nat × AV) → Option (List (List AV))
  | [] => some els
  | (i, v) :: rest => if (cellsOf v).length = n ∧ i < els.length ∧ notTup v = true then fillE n (els.set i (cellsOf v)) rest else none

def one : List AV → Option AV
  | [x] => some x
  | _ => none

/-- Bounds of a cut: low, high, max. -/
def cutB (len cap : Nat) (lo hi mx : Option AV) : Option (Nat × Nat × Nat) :=
  match (match mx with | none => some (cap : Int) | some v => asI v) with
  | none => none
  | some m => if 0 ≤ m ∧ m ≤ cap then
      match (match hi with | none => if mx.isSome then none else some (len : Int) | some v => asI v) with
      | none => none
      | some h => if 0 ≤ h ∧ h ≤ m then
          match (match lo with | none => some 0 | some v => asI v) with
          | none => none
          | some l => if 0 ≤ l ∧ l ≤ h then some (l.toNat, h.toNat, m.toNat) else none
        else none
    else none

def evO (t : Nat → AV) : Option X → Option AV
  | none => none
  | some x => some (ev t x)

def findE (ag : Bool) (ks : List Kd) (k : AV) : List Ent → Nat → Option (Option (Nat × Ent))
  | [], _ => some none
  | e :: es, i => match eqV ag ks k e.key with
    | some true => some (some (i, e))
    | some false => findE ag ks k es (i + 1)
    | none => none

/-- A key as it should be: an integer, or a struct of integers. -/
def isInt : AV → Bool
  | .int _ _ => true
  | _ => false
def keyA (ag : Bool) (ks : List Kd) (k : AV) : Bool :=
  match ag, k with
  | true, .agg cs => decide (cs.length = ks.length) && cs.all isInt
  | false, .int _ _ => true
  | _, _ => false
def findK (ag : Bool) (ks : List Kd) (k : AV) (es : List Ent) : Option (Option (Nat × Ent)) := if keyA ag ks k then findE ag ks k es 0 else none

def bytesA (s : ByteArray) : List (List AV) := s.data.toList.map fun b => [.int .u8 b.toNat]
def unbyteA : List (List AV) → Option (List UInt8)
  | [] => some []
  | [.int .u8 n] :: rest => match unbyteA rest with
    | some l => some (UInt8.ofNat n.toNat :: l)
    | none => none
  | _ => none

def isV : Loc → Bool
  | .v _ => true
  | _ => false
def isH : Loc → Bool
  | .h _ => true
  | _ => false

/-- The elements of a slice that is read: els, of z cells each. -/
def elsOf (hh : Bool) (s : St) : AV → Option (Nat × List (List AV))
  | .sl z els _ => some (z, els)
  | .rs l g z off len _ => if isH l && !hh then none else match s.getB l g with
    | some b => some (z, b.part off len)
    | none => none
  | _ => none

/-- The same; w = 2: of a slice that is told by its cells alone. -/
def srcOf (w : Nat) (s : St) : AV → Option (Nat × List (List AV))
  | .sl z els _ => some (z, els)
  | x => if w = 2 then none else elsOf (w == 1) s x

/-- What copy takes from. -/
def cpySrc (hh : Bool) (s : St) : AV → Option (Nat × List (List AV))
  | .str b => some (1, bytesA b)
  | y => elsOf hh s y

def bigLen : Nat := 2 ^ 32

def newA (d z : Nat) (s : St) (els : List (List AV)) (len : Nat) (ex : Bool) : AV × St :=
  (.rs (.a d) ((s.a d).g + 1) z 0 len els.length, { s with a := upd s.a d ⟨(s.a d).g + 1, some ⟨z, els, ex, false⟩⟩ })

def setEls (b : Blk) (off : Nat) (ys : List (List AV)) : Blk := { b with els := b.els.take off ++ ys ++ b.els.drop (off + ys.length) }

/-- append to s of the elements ys (z cells each) into the slot d. -/
def appA (hh ro : Bool) (d z : Nat) (s : St) (x : AV) (ys : List (List AV)) : Option (AV × St) :=
  match x with
  | .sl z' els tl =>
    if z' = z ∨ els = [] then
      if ys = [] then some (x, s)
      else match tl with
        | some [] => if els.length + ys.length ≤ bigLen then some (newA d z s (els ++ ys) (els.length + ys.length) false) else none
        | _ => none
    else none
  | .rs l g z' off len cap => if isH l && (!hh || ro) then none else match s.getB l g with
    | some b =>
      if z' = z then
        if ys = [] then some (x, s)
        else if len + ys.length ≤ cap then
          if b.fz then none
          else some (.rs l g z off (len + ys.length) cap, s.setB l (setEls b (off + len) ys))
        else if len + ys.length ≤ bigLen then
          if isH l then
            if b.ex = false ∧ off = 0 ∧ b.fz = false then
              some (.rs (.h s.h.length) 0 z 0 (len + ys.length) (len + ys.length), { s with h := s.h.set (match l with | .h i => i | _ => 0) .dead ++ [.blk ⟨z, b.part off len ++ ys, false, false⟩] })
            else none
          else if b.ex then some (newA d z s (b.part off len ++ ys) (len + ys.length) false)
          else if off = 0 ∧ b.fz = false then some (newA d z (s.kill l) (b.part off len ++ ys) (len + ys.length) false)
          else none
        else none
      else none
    | none => none
  | _ => none

def locW (l : Loc) (w : Nat) : Bool :=
  match l with
  | .v s => w == 0 || w == s + 3
  | .a _ => w == 1
  | .h _ => w == 2


/-- One store. -/
def storeA (w n md : Nat) (a v : AV) (s : St) (ro : Bool) : Option St :=
  match a with
  | .pt l g i o => if locW l w = false then none else
    match (if isH l then if ro then none else conv md v s else if isV l || (cellsOf v).all clean1 then some (v, s) else none) with
    | none => none
    | some (v, s) => match s.getB l g with
      | some b =>
        if b.fz then none else
        match b.els[i]? with
        | some cs => if (cellsOf v).length = n ∧ o + n ≤ cs.length ∧ notTup v = true then some (s.setB l { b with els := b.els.set i (putc cs o (cellsOf v)) }) else none
        | none => none
      | none => none
  | _ => none

def foldI (f : Int → Int → Int) (k : IntKind) : Int → List AV → Option AV
  | n, [] => some (.int k n)
  | n, .int k' m :: rest => if k = k' then foldI f k (f n m) rest else none
  | _, _ => none
def maxA : List AV → Option AV
  | .int k a :: rest => foldI (fun x y => if y > x then y else x) k a rest
  | _ => none
def minA : List AV → Option AV
  | .int k a :: rest => foldI (fun x y => if y < x then y else x) k a rest
  | _ => none

abbrev Orc := Bool → FuncId → List AV → List HB → Option (AV × List HB)

def deaden (h : List HB) : List HB := h.map fun _ => .dead

def callA (C : Orc) (ro : Bool) (md : Mode) (aa : Bool) (d : Nat) (f : FuncId) (args : List AV) (s : St) : Option (AV × St) :=
  match (if aa then mapS (conv (if md = .isoh then 2 else 0)) args s else if args.all clean0 then some (args, s) else none) with
  | none => none
  | some (vs, s1) =>
    match md with
    | .iso | .isoh => match C false f vs (deaden s.h) with
      | some (r, h') => if scal r = true ∧ h'.length = s.h.length then some (r, s) else none
      | none => none
    | .ro => match C true f vs s.h with
      | some (r, _) => if scal r then some (r, s) else if aa then some (imp d r s1) else if clean r then some (r, s) else none
      | none => none
    | .rw => if ro then none else match C false f vs s.h with
      | some (r, h') => if scal r then some (r, { s1 with h := h' }) else if aa then some (imp d r { s1 with h := h' }) else if clean r then some (r, { s with h := h' }) else none
      | none => none

/-- One instruction: its value, the state behind it. -/
def step (C : Orc) (ro : Bool) (d : Nat) (s : St) : I → Option (AV × St)
  | .mv x => some (ev s.t x, s)
  | .pick c a b => match ev s.t c with
    | .bool t => some (if t then ev s.t a else ev s.t b, s)
    | _ => none
  | .allocv zero => some (.pt (.v d) ((s.v d).g + 1) 0 0, { s with v := upd s.v d ⟨(s.v d).g + 1, some ⟨zero.length, [zero], true, false⟩⟩ })
  | .alloch zero => if ro then none else some (.pt (.h s.h.length) 0 0 0, { s with h := s.h ++ [.blk ⟨zero.length, [zero], true, false⟩] })
  | .boxv n x => if (cellsOf (ev s.t x)).length = n ∧ notTup (ev s.t x) = true then some (.pt (.v d) ((s.v d).g + 1) 0 0, { s with v := upd s.v d ⟨(s.v d).g + 1, some ⟨n, [cellsOf (ev s.t x)], true, false⟩⟩ }) else none
  | .boxh n keep x => if ro then none else match conv (if keep then 1 else 0) (ev s.t x) s with
    | some (y, s) => if (cellsOf y).length = n ∧ notTup y = true then some (.pt (.h s.h.length) 0 0 0, { s with h := s.h ++ [.blk ⟨n, [cellsOf y], true, false⟩] }) else none
    | none => none
  | .build zero parts => match fillA zero (parts.map fun (o, n, x) => (o, n, ev s.t x)) with
    | some cs => some (.agg cs, s)
    | none => none
  | .bsl z zero n parts =>
    if parts.all (fun (_, x) => clean0 (ev s.t x)) then match fillE z (List.replicate n zero) (parts.map fun (i, x) => (i, ev s.t x)) with
      | some els => some (.sl z els (some []), s)
      | none => none
    else none
  | .load w n a => match ev s.t a with
    | .ip cs o => (ldc cs o n).map fun v => (v, s)
    | .pt l g i o => if locW l w = false then none else match s.getB l g with
      | some b => match b.els[i]? with
        | some cs => (ldc cs o n).map fun v => (v, s)
        | none => none
      | none => none
    | _ => none
  | .store w n md a v => (storeA w n md (ev s.t a) (ev s.t v) s ro).map fun s => (.tup [], s)
  | .nilc x => match ev s.t x with
    | .pt l g i o => some (.pt l g i o, s)
    | .ip cs o => some (.ip cs o, s)
    | .fn f a b => some (.fn f a b, s)
    | _ => none
  | .bin op x y => (abin op (ev s.t x) (ev s.t y)).map fun v => (v, s)
  | .eqv neg ag ks x y => (eqV ag ks (ev s.t x) (ev s.t y)).map fun b => (.bool (if neg then !b else b), s)
  | .eqn neg fn x y => (eqN fn (ev s.t x) (ev s.t y)).map fun b => (.bool (if neg then !b else b), s)
  | .not x => match ev s.t x with
    | .bool b => some (.bool (!b), s)
    | _ => none
  | .convi k x => match ev s.t x with
    | .int _ n => some (.int k (k.wrap n), s)
    | _ => none
  | .s2b x => match ev s.t x with
    | .str b => if b.size ≤ bigLen then some (newA d 1 s (bytesA b) b.size false) else none
    | _ => none
  | .b2s w x => match srcOf w s (ev s.t x) with
    | some (_, els) => match unbyteA els with
      | some l => some (.str ⟨l.toArray⟩, s)
      | none => none
    | _ => none
  | .mkfn f first caps => match mapS capt (evL s.t first) s with
    | some (first, s1) => match mapS capt (evL s.t caps) s1 with
      | some (caps, s2) => some (.fn f first caps, s2)
      | none => none
    | none => none
  | .mkmap r => if ro then none else match r with
    | none => some (.map s.h.length, { s with h := s.h ++ [.map [] 0] })
    | some x => match ev s.t x with
      | .int _ _ => some (.map s.h.length, { s with h := s.h ++ [.map [] 0] })
      | _ => none
  | .bad => none
  | .mksl z zero len cap => match ev s.t len, ev s.t cap with
    | .int .i64 l, .int .i64 c => if 0 ≤ l ∧ l ≤ c ∧ c ≤ bigLen then some (newA d z s (List.replicate c.toNat zero) l.toNat true) else none
    | _, _ => none
  | .slice z x lo hi mx => match ev s.t x with
    | .sl z' els tl => if z' = z ∨ els = [] ∧ tl.any List.isEmpty = true then
        match tl with
        | some t => match cutB els.length (els.length + t.length) (evO s.t lo) (evO s.t hi) (evO s.t mx) with
          | some (l, h, m) => some (.sl z' (((els ++ t).take h).drop l) (some (((els ++ t).take m).drop h)), s)
          | none => none
        | none => match cutB els.length els.length (evO s.t lo) (evO s.t hi) (evO s.t mx) with
          | some (l, h, m) => some (.sl z' ((els.take h).drop l) (if mx.isSome then some ((els.take m).drop h) else none), s)
          | none => none
      else none
    | .rs loc g z' off len cap => if z' = z ∧ mx.isNone then match cutB len cap (evO s.t lo) (evO s.t hi) none with
        | some (l, h, m) => some (.rs loc g z (off + l) (h - l) (m - l), s)
        | none => none
      else none
    | _ => none
  | .slicestr x lo hi => match ev s.t x with
    | .str b => match cutB b.size b.size (evO s.t lo) (evO s.t hi) none with
      | some (l, h, _) => some (.str (b.extract l h), s)
      | none => none
    | _ => none
  | .slicearr z n x lo hi => match ev s.t x with
    | .pt (.v i) g e o => match s.getB (.v i) g with
      | some b => match b.els[e]? with
        | some cs => if z = 1 ∧ o + n ≤ cs.length ∧ cs.all clean1 = true then match cutB n n (evO s.t lo) (evO s.t hi) none with
            | some (l, h, _) => some (.sl 1 ((((cs.drop o).take h).drop l).map fun c => [c]) none, s.setB (.v i) { b with fz := true })
            | none => none
          else none
        | none => none
      | none => none
    | _ => none
  | .faddr x off => match ev s.t x with
    | .pt l g i o => some (.pt l g i (o + off), s)
    | .ip cs o => some (.ip cs (o + off), s)
    | _ => none
  | .fld x off n => match ev s.t x with
    | .agg cs => (ldc cs off n).map fun v => (v, s)
    | _ => none
  | .iaddr z x i => match ev s.t i with
    | .int _ i => match ev s.t x with
      | .sl z' els _ => if z' = z ∧ 0 ≤ i then match els[i.toNat]? with
          | some cs => some (.ip cs 0, s)
          | none => none
        else none
      | .rs l g z' off len _ => if z' = z ∧ 0 ≤ i ∧ i < len then some (.pt l g (off + i.toNat) 0, s) else none
      | _ => none
    | _ => none
  | .iaddra z n x i => match ev s.t i with
    | .int _ i => if 0 ≤ i ∧ i < n then
        match ev s.t x with
        | .pt l g e o => some (.pt l g e (o + i.toNat * z), s)
        | .ip cs o => some (.ip cs (o + i.toNat * z), s)
        | _ => none
      else none
    | _ => none
  | .idx z n m x i => match ev s.t x, ev s.t i with
    | .agg cs, .int _ i => if 0 ≤ i ∧ i < n then (ldc cs (i.toNat * z) m).map fun v => (v, s) else none
    | _, _ => none
  | .idxs x i => match ev s.t x, ev s.t i with
    | .str b, .int _ i => if 0 ≤ i then match b[i.toNat]? with
        | some c => some (.int .u8 c.toNat, s)
        | none => none
      else none
    | _, _ => none
  | .lookup ag ks zero m k ok => match ev s.t m with
    | .map r => match s.h[r]? with
      | some (.map es _) => match findK ag ks (ev s.t k) es with
        | some (some (_, e)) => some (if ok then .tup [e.val, .bool true] else e.val, s)
        | some none => some (if ok then .tup [zero, .bool false] else zero, s)
        | none => none
      | _ => none
    | _ => none
  | .mupd ag ks keep m k v => if ro then none else match ev s.t m with
    | .map r => match conv (if keep then 1 else 0) (ev s.t v) s with
      | some (v, s1) => match s1.h[r]? with
        | some (.map es c) => if scal0 (ev s.t k) then match findK ag ks (ev s.t k) es with
            | some (some (i, e)) => some (.tup [], { s1 with h := s1.h.set r (.map (es.set i { e with key := ev s.t k, val := v }) c) })
            | some none => some (.tup [], { s1 with h := s1.h.set r (.map (es ++ [⟨ev s.t k, v, c⟩]) (c + 1)) })
            | none => none
          else none
        | _ => none
      | none => none
    | _ => none
  | .ment ag ks zero m k => if ro then none else match ev s.t m with
    | .map r => match s.h[r]? with
      | some (.map es c) => if scal0 (ev s.t k) then match findK ag ks (ev s.t k) es with
          | some (some (_, e)) => some (.tup [e.val, .int .i64 e.born], s)
          | some none => some (.tup [zero, .int .i64 c], { s with h := s.h.set r (.map (es ++ [⟨ev s.t k, zero, c⟩]) (c + 1)) })
          | none => none
        else none
      | _ => none
    | _ => none
  | .est keep m b v => if ro then none else match ev s.t m, ev s.t b with
    | .map r, .int _ n => match conv (if keep then 1 else 0) (ev s.t v) s with
      | some (v, s1) => match s1.h[r]? with
        | some (.map es c) => match es.findIdx? (fun e => (e.born : Int) == n) with
          | some i => match es[i]? with
            | some e => some (.tup [], { s1 with h := s1.h.set r (.map (es.set i { e with val := v }) c) })
            | none => none
          | none => none
        | _ => none
      | none => none
    | _, _ => none
  | .ext x i => match ev s.t x with
    | .tup vs => (vs[i]?).map fun v => (v, s)
    | _ => none
  | .call md aa f args => callA C ro md aa d f (evL s.t args) s
  | .callv md aa f args => match ev s.t f with
    | .fn g first caps => callA C ro md aa d g (first ++ evL s.t args ++ caps) s
    | _ => none
  | .len x => match ev s.t x with
    | .sl _ els _ => some (.int .i64 els.length, s)
    | .rs _ _ _ _ len _ => some (.int .i64 len, s)
    | _ => none
  | .lens x => match ev s.t x with
    | .str b => some (.int .i64 b.size, s)
    | _ => none
  | .lenm x => match ev s.t x with
    | .map r => match s.h[r]? with
      | some (.map es _) => some (.int .i64 es.length, s)
      | _ => none
    | _ => none
  | .lena n => some (.int .i64 n, s)
  | .cap x => match ev s.t x with
    | .sl _ els (some tl) => some (.int .i64 (els.length + tl.length : Nat), s)
    | _ => none
  | .app hh z x y => match elsOf hh s (ev s.t y) with
    | some (z', ys) => if z' = z ∨ ys = [] then appA hh ro d z s (ev s.t x) ys else none
    | none => none
  | .apps x y => match ev s.t y with
    | .str b => appA false ro d 1 s (ev s.t x) (bytesA b)
    | _ => none
  | .appz z zero x n => match ev s.t n with
    | .int .i64 n => if 0 ≤ n ∧ n ≤ bigLen then appA false ro d z s (ev s.t x) (List.replicate n.toNat zero) else none
    | _ => none
  | .cpy hh z x y => match cpySrc hh s (ev s.t y) with
    | some (z', ys) => match ev s.t x with
      | .rs l g z'' off len _ => if isH l && (!hh || ro) then none else match s.getB l g with
        | some b =>
          if z'' = z ∧ (z' = z ∨ ys = []) ∧ b.fz = false then
            some (.int .i64 (Nat.min ys.length len : Nat), s.setB l (setEls b off (ys.take (Nat.min ys.length len))))
          else none
        | none => none
      | .sl _ els _ => if els = [] ∨ ys = [] then some (.int .i64 0, s) else none
      | _ => none
    | none => none
  | .clr z zero x => match ev s.t x with
    | .rs (.a i) g z' off len _ => match s.getB (.a i) g with
      | some b => if z' = z ∧ b.fz = false then some (.tup [], s.setB (.a i) (setEls b off (List.replicate len zero))) else none
      | none => none
    | .sl _ [] _ => some (.tup [], s)
    | _ => none
  | .del ag ks m k => if ro then none else match ev s.t m with
    | .map r => match s.h[r]? with
      | some (.map es c) => match findK ag ks (ev s.t k) es with
        | some (some (i, _)) => some (.tup [], { s with h := s.h.set r (.map (es.eraseIdx i) c) })
        | some none => some (.tup [], s)
        | none => none
      | _ => none
    | _ => none
  | .max xs => (maxA (evL s.t xs)).map fun v => (v, s)
  | .min xs => (minA (evL s.t xs)).map fun v => (v, s)

/-! ### Running -/

def wantA (t : Nat → AV) : Option (Nat × Bool) → Option Bool
  | none => some true
  | some (n, b) => match t n with
    | .bool c => some (c == b)
    | .tup [] => some false
    | _ => none

/-- One instruction, asked by its guard. -/
def stepG (C : Orc) (i : AI) (s : St) : Option (AV × St) :=
  match wantA s.t i.g with
  | some true => step C s.ro (i.d.getD 0) s i.i
  | some false => some (.tup [], s)
  | none => none
def stepA (C : Orc) (i : AI) (s : St) : Option St :=
  match stepG C i s with
  | some (v, s) => some (s.put i.d v)
  | none => none
def runI (C : Orc) : List AI → St → Option St
  | [], s => some s
  | i :: is, s => match stepA C i s with
    | some s => runI C is s
    | none => none

inductive Ex where
  | nor
  | ext (id : Nat)
  | ret
  deriving DecidableEq, Inhabited

def Ex.out : Ex → Bool
  | .ext _ => true
  | _ => false

def exec (C : Orc) (L : ACode → St → Option (Ex × St)) : ACode → St → Option (Ex × St)
  | .skip, s => some (.nor, s)
  | .ins l, s => match runI C l s with
    | some s => some (.nor, s)
    | none => none
  | .seq a b, s => match exec C L a s with
    | some (.nor, s) => exec C L b s
    | r => r
  | .cond c a b, s => match ev s.t c with
    | .bool t => if t then exec C L a s else exec C L b s
    | _ => none
  | .block id c, s => match exec C L c s with
    | some (.ext j, s) => if j = id then some (.nor, s) else some (.ext j, s)
    | r => r
  | .loop c, s => L c s
  | .exit id, s => some (.ext id, s)
  | .ret, s => some (.ret, s)

inductive RV where
  | tmp (t : Nat)
  | cell (a : Nat) (n : Option Nat)
  deriving Inhabited

structure AFn where
  n : Nat
  rs : List RV
  own : Bool
  code : ACode
  deriving Inhabited

def rval (s : St) : RV → Option AV
  | .tmp t => some (s.t t)
  | .cell a n => match s.t a with
    | .pt l g i o => match s.getB l g with
      | some b => match b.els[i]? with
        | some cs => ldc cs o n
        | none => none
      | none => none
    | _ => none

def rvals (s : St) (l : List RV) : Option AV :=
  match l.mapM (rval s) with
  | some [v] => some v
  | some vs => some (.tup vs)
  | none => none

def start (args : List AV) (h : List HB) (ro : Bool) : St := ⟨fun i => args.getD i (.tup []), fun _ => ⟨0, none⟩, fun _ => ⟨0, none⟩, h, ro⟩

def runF (C : Orc) (L : ACode → St → Option (Ex × St)) (ro : Bool) (fn : AFn) (args : List AV) (h : List HB) : Option (AV × List HB) :=
  if args.length = fn.n then
    match exec C L fn.code (start args h ro) with
    | some (e, s) => if e.out then none else match rvals s fn.rs with
      | some v => match res fn.own v s with
        | some (v, s) => some (v, s.h)
        | none => none
      | none => none
    | none => none
  else none

/-- What calls and loops come to, in so many steps. -/
def lvl (F : FuncId → Option AFn) (S : Orc) : Nat → (Orc × (ACode → St → Option (Ex × St)))
  | 0 => (fun _ _ _ _ => none, fun _ _ => none)
  | n + 1 =>
    let p := lvl F S n
    (fun ro f args h => match F f with
      | some fn => runF p.1 p.2 ro fn args h
      | none => S ro f args h,
     fun c s => match exec p.1 p.2 c s with
      | some (.nor, s) => p.2 c s
      | r => r)

end Go.Proofs.Bb
