/- The check that a compact instruction tells what an operation of the program does. -/
import Derived.Test.YtimlkngjkiknfaaGreatBbCore
namespace Go.Proofs.Bb
open Go

def liftOK : Value → AV → Bool
  | .bool a, .bool b => a == b
  | .int k a, .int k' b => decide (k = k') && decide (a = b)
  | .string a, .str b => decide (a.data = b.data)
  | .pointer none, .nilp | .map none, .nilm | .nilFunc, .nilf | .nilIface, .nili => true
  | .slice none 0 0, .sl _ [] (some []) => true
  | _, _ => false

def liftL : List Value → List AV → Bool
  | [], [] => true
  | v :: vs, x :: xs => liftOK v x && liftL vs xs
  | _, _ => false

def chkX : Operand → X → Bool
  | .tmp n, .t m => decide (n = m)
  | .const v, .c x => liftOK v x
  | .func f, .f g => decide (f = g)
  | _, _ => false

def chkXs : List Operand → List X → Bool
  | [], [] => true
  | o :: os, x :: xs => chkX o x && chkXs os xs
  | _, _ => false

def chkXo : Option Operand → Option X → Bool
  | none, none => true
  | some o, some x => chkX o x
  | _, _ => false

section
variable (P : Program)

def isA (t : TypeId) : Option Bool :=
  match P.underlying t with
  | some (.struct _) | some (.array _ _) => some true
  | some _ => some false
  | none => none
def szO (t : TypeId) : Option Nat := (P.info? t).map (·.size)
/-- What a load, or a part, of a type is: so many cells, or one. -/
def nOf (t : TypeId) : Option (Option Nat) :=
  match isA P t with
  | some true => (szO P t).map some
  | some false => some none
  | none => none
def zeroC (t : TypeId) : Option (List Value) := ((P.info? t).bind (·.zero)).map fun v => v.cells.toList
def elemO (t : TypeId) : Option TypeId :=
  match P.underlying t with
  | some (.slice e) => some e
  | _ => none
def arrO (t : TypeId) : Option (Nat × TypeId) :=
  match P.underlying t with
  | some (.array n e) => some (n, e)
  | _ => none
def fldO (t : TypeId) : Option (List Field) :=
  match P.underlying t with
  | some (.struct fs) => some fs.toList
  | _ => none
def mapO (t : TypeId) : Option (TypeId × TypeId) :=
  match P.underlying t with
  | some (.map k e) => some (k, e)
  | _ => none
def bytesOK (t : TypeId) : Bool :=
  match P.info? t with
  | some i => decide (i.bytes ≤ 32768) && decide (0 < i.size)
  | none => false
def zlen (t : TypeId) (z : Nat) : Bool :=
  match zeroC P t with
  | some l => decide (l.length = z)
  | none => false
def zeroOK (t : TypeId) (zero : List AV) : Bool :=
  match zeroC P t with
  | some vs => liftL vs zero
  | none => false

/-- What the cells of fields are. -/
def fldKs (rec : TypeId → Option (List Kd)) : List Field → Nat → Option (List Kd)
  | [], _ => some []
  | f :: fs, k => if f.name ≠ "_" ∧ f.offset = k then (match rec f.type with
      | some ks => if nOf P f.type = some none ∧ ks.length = 1 ∨ nOf P f.type = some (some ks.length) then (match fldKs rec fs (k + ks.length) with
          | some ls => some (ks ++ ls)
          | none => none) else none
      | none => none) else none

/-- What the cells are of a type whose values are held against each other cell by cell. -/
def cellKs : Nat → TypeId → Option (List Kd)
  | 0, _ => none
  | n + 1, t => match P.underlying t with
    | some .bool => some [.b]
    | some (.int _) => some [.i]
    | some .string => some [.s]
    | some (.struct fs) => if P.stoodInHeld t = false then fldKs P (cellKs n) fs.toList 0 else none
    | some (.array len e) => match P.underlying e with
      | some (.int _) => if szO P e = some 1 then some (List.replicate len .i) else none
      | _ => none
    | _ => none

def eqOK (t : TypeId) (ag : Bool) (ks : List Kd) : Bool := decide (nOf P t = some (if ag then some ks.length else none)) && decide (cellKs P 9 t = some ks) && (ag || decide (ks.length = 1))
/-- A map's keys: an integer, or a struct of integers. -/
def keyOK (t : TypeId) (ag : Bool) (ks : List Kd) : Bool := eqOK P t ag ks && ks.all (fun k => decide (k = .i)) && (match P.underlying t with
  | some (.int _) => !ag
  | some (.struct fs) => ag && fs.toList.all (fun f => match P.underlying f.type with | some (.int _) => true | _ => false)
  | _ => false)

def fillOK (place : Nat → Option (Nat × Nat)) : List (Nat × Operand) → List (Nat × Nat × X) → Bool
  | [], [] => true
  | (i, o) :: os, (off, n, x) :: xs => decide (place i = some (off, n)) && chkX o x && fillOK place os xs
  | _, _ => false
def fillEOK : List (Nat × Operand) → List (Nat × X) → Bool
  | [], [] => true
  | (i, o) :: os, (j, x) :: xs => decide (i = j) && chkX o x && fillEOK os xs
  | _, _ => false

def binOK (_ : BinOp) (t : TypeId) : Bool :=
  match P.underlying t with
  | some (.int _) | some .string => true
  | _ => false

/-- The check of one operation. -/
def chkI (o : Op) (i : I) : Bool :=
  match i with
  | .bad => true
  | .mv x => match o with
    | .move y | .assign y => chkX y x
    | _ => false
  | .pick c a b => match o with
    | .pick c' a' b' => chkX c' c && chkX a' a && chkX b' b
    | _ => false
  | .allocv zero | .alloch zero => match o with
    | .alloc e => zeroOK P e zero
    | _ => false
  | .boxv _ x | .boxh _ _ x => match o with
    | .box _ y => chkX y x
    | _ => false
  | .build zero parts => match o with
    | .build t ps => zeroOK P t zero && (match P.underlying t with
      | some (.struct fs) => fs.toList.all (fun f => (szO P f.type).isSome) && fillOK (fun i => (fs.toList[i]?).bind fun f => (szO P f.type).map fun n => (f.offset, n)) ps.toList parts
      | some (.array _ e) => match szO P e with
        | some n => fillOK (fun i => some (i * n, n)) ps.toList parts
        | none => false
      | _ => false)
    | _ => false
  | .bsl z zero n parts => match o with
    | .buildSlice t m ps => match elemO P t with
      | some e => decide (m = n) && decide (szO P e = some z) && decide (n * z ≤ 2 ^ 24) && decide (0 < z) && zeroOK P e zero && decide (zero.length = z) && fillEOK ps.toList parts
      | none => false
    | _ => false
  | .load _ n a => match o with
    | .load t b => chkX b a && decide (nOf P t = some n)
    | _ => false
  | .store _ n md a v => match o with
    | .store t b u => chkX b a && chkX u v && decide (szO P t = some n) && decide (md ≤ 1)
    | _ => false
  | .nilc x => match o with
    | .nilCheck y => chkX y x
    | _ => false
  | .bin op x y => match o with
    | .binOp op' t a b _ => decide (op' = op) && chkX a x && chkX b y && binOK P op t
    | _ => false
  | .eqv neg ag ks x y => match o with
    | .binOp op t a b _ => (match op with | .eql => !neg | .neq => neg | _ => false) && chkX a x && chkX b y && eqOK P t ag ks && !P.eqGuardType P.depth t && (ag || decide (ks = [.b]))
    | _ => false
  | .eqn neg fn x y => match o with
    | .binOp op t a b _ => (match op with | .eql => !neg | .neq => neg | _ => false) && chkX a x && chkX b y &&
      (match P.underlying t with
        | some (.pointer _) => !fn
        | some (.func _ _ _) => fn
        | _ => false)
    | _ => false
  | .not x => match o with
    | .unOp .not _ y => chkX y x
    | _ => false
  | .convi k x => match o with
    | .convert s d y => chkX y x && (match P.underlying s, P.underlying d with | some (.int _), some (.int k') => decide (k = k') | _, _ => false)
    | _ => false
  | .s2b _ => false
  | .b2s _ x => match o with
    | .convert s d y => chkX y x && (match P.underlying s, P.underlying d with | some (.slice e), some .string => (match P.underlying e with | some (.int .u8) => true | _ => false) | _, _ => false)
    | _ => false
  | .mkfn f first cap => match o with
    | .makeFunc (.func g) a b => decide (f = g) && chkXs a.toList first && chkXs b.toList cap
    | _ => false
  | .mkmap r => match o with
    | .makeMap t r' => chkXo r' r && (mapO P t).isSome
    | _ => false
  | .mksl z zero l c => match o with
    | .makeSlice t l' c' => match elemO P t with
      | some e => chkX l' l && chkX c' c && decide (szO P e = some z) && decide (zero.length = z) && bytesOK P e && zeroOK P e zero
      | none => false
    | _ => false
  | .slice z x lo hi mx => match o with
    | .slice t y lo' hi' mx' => match elemO P t with
      | some e => chkX y x && chkXo lo' lo && chkXo hi' hi && chkXo mx' mx && decide (szO P e = some z)
      | none => false
    | _ => false
  | .slicestr x lo hi => match o with
    | .slice t y lo' hi' none => chkX y x && chkXo lo' lo && chkXo hi' hi && (match P.underlying t with | some .string => true | _ => false)
    | _ => false
  | .slicearr z n x lo hi => match o with
    | .slice t y lo' hi' none => match arrO P t with
      | some (m, e) => chkX y x && chkXo lo' lo && chkXo hi' hi && decide (m = n) && decide (szO P e = some z)
      | none => false
    | _ => false
  | .faddr x off => match o with
    | .fieldAddr t y f => match fldO P t with
      | some fs => match fs[f]? with
        | some fd => chkX y x && decide (fd.offset = off) && (match szO P fd.type with | some n => decide (0 < n) | none => false)
        | none => false
      | none => false
    | _ => false
  | .fld x off n => match o with
    | .field t y f => match fldO P t with
      | some fs => match fs[f]? with
        | some fd => chkX y x && decide (fd.offset = off) && decide (nOf P fd.type = some n)
        | none => false
      | none => false
    | _ => false
  | .iaddr z x i => match o with
    | .indexAddr t y j => match elemO P t with
      | some e => chkX y x && chkX j i && decide (szO P e = some z)
      | none => false
    | _ => false
  | .iaddra z n x i => match o with
    | .indexAddr t y j => match arrO P t with
      | some (m, e) => chkX y x && chkX j i && decide (szO P e = some z) && decide (m = n)
      | none => false
    | _ => false
  | .idx z n m x i => match o with
    | .index t y j => match arrO P t with
      | some (k, e) => chkX y x && chkX j i && decide (szO P e = some z) && decide (k = n) && decide (nOf P e = some m)
      | none => false
    | _ => false
  | .idxs x i => match o with
    | .index t y j => chkX y x && chkX j i && (match P.underlying t with | some .string => true | _ => false)
    | _ => false
  | .lookup ag ks zero m k ok => match o with
    | .lookup t m' k' ok' => match mapO P t with
      | some (kt, e) => chkX m' m && chkX k' k && decide (ok = ok') && keyOK P kt ag ks && (match (P.info? e).bind (·.zero) with
        | some v => (match v, zero with | .agg cs, .agg xs => liftL cs.toList xs | v, x => liftOK v x)
        | none => false)
      | none => false
    | _ => false
  | .mupd ag ks _ m k v => match o with
    | .mapUpdate t m' k' v' | .insert t m' k' v' => match mapO P t with
      | some (kt, _) => chkX m' m && chkX k' k && chkX v' v && keyOK P kt ag ks
      | none => false
    | _ => false
  | .ment ag ks zero m k => match o with
    | .mapEntry t m' k' => match mapO P t with
      | some (kt, e) => chkX m' m && chkX k' k && keyOK P kt ag ks && (match (P.info? e).bind (·.zero) with
        | some v => (match v, zero with | .agg cs, .agg xs => liftL cs.toList xs | v, x => liftOK v x)
        | none => false)
      | none => false
    | _ => false
  | .est _ m s v => match o with
    | .entryStore _ m' s' v' => chkX m' m && chkX s' s && chkX v' v
    | _ => false
  | .ext x i => match o with
    | .extract y j => chkX y x && decide (i = j)
    | _ => false
  | .call _ _ f args => match o with
    | .call c => match c.callee with
      | .value (.func g) => decide (f = g) && chkXs c.args.toList args
      | _ => false
    | _ => false
  | .callv _ _ f args => match o with
    | .call c => match c.callee with
      | .value g => chkX g f && chkXs c.args.toList args
      | _ => false
    | _ => false
  | .len x => match o with
    | .call c => match c.callee, c.args.toList, c.argTypes.toList with
      | .builtin .len, [y], [t] => chkX y x && (elemO P t).isSome
      | _, _, _ => false
    | _ => false
  | .lens x => match o with
    | .call c => match c.callee, c.args.toList, c.argTypes.toList with
      | .builtin .len, [y], [t] => chkX y x && (match P.underlying t with | some .string => true | _ => false)
      | _, _, _ => false
    | _ => false
  | .lenm x => match o with
    | .call c => match c.callee, c.args.toList, c.argTypes.toList with
      | .builtin .len, [y], [t] => chkX y x && (mapO P t).isSome
      | _, _, _ => false
    | _ => false
  | .lena n => match o with
    | .call c => match c.callee, c.args.toList, c.argTypes.toList with
      | .builtin .len, [_], [t] => (match arrO P t with
        | some (m, _) => decide (m = n)
        | none => match P.underlying t with
          | some (.pointer a) => (match arrO P a with | some (m, _) => decide (m = n) | none => false)
          | _ => false)
      | _, _, _ => false
    | _ => false
  | .cap x => match o with
    | .call c => match c.callee, c.args.toList, c.argTypes.toList with
      | .builtin .cap, [y], [t] => chkX y x && (elemO P t).isSome
      | _, _, _ => false
    | _ => false
  | .app _ z s x => match o with
    | .call c => match c.callee, c.args.toList, c.argTypes.toList with
      | .builtin .append, [s', x'], [t, u] => match elemO P t with
        | some e => chkX s' s && chkX x' x && (elemO P u).isSome && decide (szO P e = some z) && bytesOK P e && zlen P e z
        | none => false
      | _, _, _ => false
    | _ => false
  | .apps s x => match o with
    | .call c => match c.callee, c.args.toList, c.argTypes.toList with
      | .builtin .append, [s', x'], [t, u] => match elemO P t with
        | some e => chkX s' s && chkX x' x && (match P.underlying u with | some .string => true | _ => false) && decide (szO P e = some 1) && bytesOK P e && zlen P e 1
        | none => false
      | _, _, _ => false
    | _ => false
  | .appz z zero s n => match o with
    | .call c => match c.callee, c.args.toList, c.argTypes.toList with
      | .builtin .append, [s', n'], [t, u] => match elemO P t with
        | some e => chkX s' s && chkX n' n && (match P.underlying u with | some (.int _) => true | _ => false) && decide (szO P e = some z) && bytesOK P e && zeroOK P e zero && decide (zero.length = z)
        | none => false
      | _, _, _ => false
    | _ => false
  | .cpy _ z d s => match o with
    | .call c => match c.callee, c.args.toList, c.argTypes.toList with
      | .builtin .copy, [d', s'], t :: _ => match elemO P t with
        | some e => chkX d' d && chkX s' s && decide (szO P e = some z)
        | none => false
      | _, _, _ => false
    | _ => false
  | .clr z zero x => match o with
    | .call c => match c.callee, c.args.toList, c.argTypes.toList with
      | .builtin .clear, [y], [t] => match elemO P t with
        | some e => chkX y x && decide (szO P e = some z) && zeroOK P e zero && decide (zero.length = z)
        | none => false
      | _, _, _ => false
    | _ => false
  | .del ag ks m k => match o with
    | .call c => match c.callee, c.args.toList, c.argTypes.toList with
      | .builtin .delete, [m', k'], t :: _ => match mapO P t with
        | some (kt, _) => chkX m' m && chkX k' k && keyOK P kt ag ks
        | none => false
      | _, _, _ => false
    | _ => false
  | .max xs => match o with
    | .call c => match c.callee with
      | .builtin .max => chkXs c.args.toList xs
      | _ => false
    | _ => false
  | .min xs => match o with
    | .call c => match c.callee with
      | .builtin .min => chkXs c.args.toList xs
      | _ => false
    | _ => false

end
end Go.Proofs.Bb
