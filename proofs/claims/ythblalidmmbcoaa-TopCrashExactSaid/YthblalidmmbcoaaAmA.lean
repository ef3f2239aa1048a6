/- The abstract machine: values by value, the call's own blocks by key; its operations, its code, and the compiler from the model's code. Generic over the program. -/
import Derived.WalkKit
import Derived.WalkSpells
set_option linter.unusedSimpArgs false
set_option linter.unusedVariables false
namespace Go.AM

/-- Data: scalars; slices and pointers into memory that nobody writes ('vs', 'vp'), into blocks of the call's own ('sl', 'pt'); 'ow': a result's slice in a block of its own. -/
inductive D where
  | int (k : IntKind) (n : Int)
  | bool (b : Bool)
  | str (s : ByteArray)
  | nil
  | emp
  | vs (sz : Nat) (cells : List D) (len : Nat)
  | ow (sz : Nat) (cells : List D) (len : Nat)
  | sl (k : Nat) (sz off len : Nat)
  | vp (cells : List D) (off : Nat)
  | pt (k : Nat) (off : Nat)
  | agg (cs : List D)
  | tup (vs : List D)
  | fn (f : Nat) (fst caps : List D)
  | nilp
  | nilf
  | mp (k : Nat)
  | mpc (l : List Int)
  | vn (sz : Nat) (cells : List D) (len : Nat)
  | undef
  deriving Inhabited

abbrev Heap := Nat → Option (List D)
def upd (h : Heap) (k : Nat) (c : List D) : Heap := fun i => if i = k then some c else h i
def del (h : Heap) (k : Nat) : Heap := fun i => if i = k then none else h i

abbrev Env := List (Nat × D)
def get : Env → Nat → Option D
  | [], _ => none
  | (a, d) :: r, t => if a = t then some d else get r t
def norm : List Nat → Env → Env
  | [], _ => []
  | t :: r, e => match get e t with | some d => (t, d) :: norm r e | none => norm r e

structure St where
  env : Env
  heap : Heap

inductive O where
  | tmp (t : Nat)
  | cst (d : D)
  | fnc (f : Nat)
  deriving Inhabited

abbrev Look := Nat → Option D
def evO (e : Look) : O → Option D
  | .tmp t => e t
  | .cst d => some d
  | .fnc f => some (.fn f [] [])

inductive AOp where
  | mv (x : O)
  | pick (c a b : O)
  | alloc (zero : List D)
  | box (x : O)
  | build (zero : List D) (parts : List (Nat × Nat × O))
  | buildS (sz : Nat) (zero : List D) (len : Nat) (parts : List (Nat × Nat × O))
  | load (agg : Bool) (n : Nat) (a : O)
  | store (n : Nat) (a x : O)
  | nilck (x : O)
  | bin (op : BinOp) (x y : O)
  | eqB (neg : Bool) (x y : O)
  | eqA (neg : Bool) (tags : List Nat) (x y : O)
  | eqN (neg : Bool) (x : O)
  | un (op : UnOp) (x : O)
  | conv (k : IntKind) (x : O)
  | strB (x : O)
  | mkfn (f : Nat) (fst caps : List O)
  | mkslice (sz bytes : Nat) (zero : List D) (len cap : O)
  | slice (sz : Nat) (x : O) (lo hi : Option O)
  | slice3 (sz : Nat) (x : O) (lo : Option O) (hi mx : O)
  | sliceM (sz : Nat) (x lo hi : O)
  | clear (sz : Nat) (zero : List D) (x : O)
  | faddr (off : Nat) (x : O)
  | field (agg : Bool) (n off : Nat) (x : O)
  | iaddr (sz : Nat) (x i : O)
  | iaddrA (len sz : Nat) (x i : O)
  | index (agg : Bool) (len sz : Nat) (x i : O)
  | indexS (x i : O)
  | extract (i : Nat) (x : O)
  | len (x : O)
  | lenS (x : O)
  | append (sz bytes : Nat) (x y : O)
  | copy (sz : Nat) (x y : O)
  | mima (mx : Bool) (xs : List O)
  | mkmap
  | mapHas (x i : O)
  | mapPut (x i v : O)
  | call (f : O) (args : List O)
  | bad
  deriving Inhabited

structure AIns where
  dst : Option Nat
  op : AOp
  guard : Option (Nat × Bool)
  deriving Inhabited

inductive ACode where
  | skip
  | reg (ops : List AIns) (keep : List Nat)
  | dreg (ops : List AIns) (bef : List (List Nat)) (keep : List Nat)
  | oreg (ops : List AIns) (bef : List (List Nat)) (keep : List Nat)
  | seq (a b : ACode)
  | cond (c : O) (ka : List Nat) (a : ACode) (kb : List Nat) (b : ACode)
  | block (id : Nat) (body : ACode)
  | loop (body : ACode)
  | exit (id : Nat)
  | ret
  deriving Inhabited

/-! ### Operations -/
def cellsD : D → Option (List D)
  | .agg cs => some cs
  | .tup _ => none
  | .undef => none
  | .ow _ _ _ => none
  | d => some [d]

/-- The block of cells and the place that an address names. -/
def memAt (h : Heap) : D → Option (List D × Nat)
  | .vp cells off => some (cells, off)
  | .pt k off => match h k with | some c => some (c, off) | none => none
  | _ => none

def ldD (agg : Bool) (n : Nat) (cells : List D) (off : Nat) : Option D :=
  if agg then (if off + n ≤ cells.length then some (.agg ((cells.drop off).take n)) else none) else cells[off]?

def splice (c : List D) (off : Nat) (x : List D) : List D := c.take off ++ x ++ c.drop (off + x.length)

def b2i (op : BinOp) (k : IntKind) (x y : Int) : Option Int :=
  match op with
  | .add => some (k.wrap (x + y))
  | .sub => some (k.wrap (x - y))
  | .mul => some (k.wrap (x * y))
  | .quo => if y = 0 then none else some (k.wrap (x.tdiv y))
  | .rem => if y = 0 then none else some (x.tmod y)
  | .and => some (k.wrap (BitVec.ofInt k.bits x &&& BitVec.ofInt k.bits y).toNat)
  | .or => some (k.wrap (BitVec.ofInt k.bits x ||| BitVec.ofInt k.bits y).toNat)
  | .xor => some (k.wrap (BitVec.ofInt k.bits x ^^^ BitVec.ofInt k.bits y).toNat)
  | .andNot => some (k.wrap (BitVec.ofInt k.bits x &&& ~~~BitVec.ofInt k.bits y).toNat)
  | _ => none
def cmpI (op : BinOp) (x y : Int) : Option Bool :=
  match op with
  | .eql => some (x == y)
  | .neq => some (x != y)
  | .lss => some (decide (x < y))
  | .leq => some (decide (x ≤ y))
  | .gtr => some (decide (x > y))
  | .geq => some (decide (x ≥ y))
  | _ => none
def shI (op : BinOp) (k : IntKind) (x y : Int) : Option Int :=
  match op with
  | .shl => if y < 0 then none else some (k.wrap (x * 2 ^ (min y.toNat k.bits)))
  | .shr => if y < 0 then none else some (x.fdiv (2 ^ (min y.toNat k.bits)))
  | _ => none

def binD (op : BinOp) : D → D → Option D
  | .int k a, .int k' b =>
    match op with
    | .shl | .shr => (shI op k a b).map (.int k)
    | .add | .sub | .mul | .quo | .rem | .and | .or | .xor | .andNot => if k = k' then (b2i op k a b).map (.int k) else none
    | _ => if k = k' then (cmpI op a b).map .bool else none
  | .str a, .str b => match op with | .eql => some (.bool (a.toList == b.toList)) | .neq => some (.bool (!(a.toList == b.toList))) | _ => none
  | _, _ => none

def eqD : Nat → D → D → Option Bool
  | 0, .bool a, .bool b => some (a == b)
  | 1, .int k a, .int k' b => if k = k' then some (a == b) else none
  | 2, .str a, .str b => some (a.toList == b.toList)
  | _, _, _ => none
def eqL : List Nat → List D → List D → Option Bool
  | [], [], [] => some true
  | t :: ts, a :: x, b :: y => match eqD t a b, eqL ts x y with | some p, some q => some (p && q) | _, _ => none
  | _, _, _ => none

def isNilD : D → Option Bool
  | .nil => some true
  | .vs _ _ len => if len = 0 then none else some false
  | .sl _ _ _ len => if len = 0 then none else some false
  | _ => none

def lenD : D → Option Nat
  | .nil => some 0
  | .emp => some 0
  | .vs _ _ n => some n
  | .sl _ _ _ n => some n
  | _ => none
def lenV : D → Option Nat
  | .vn _ _ n => some n
  | d => lenD d
theorem lenV_of {d : D} {n : Nat} (h : lenD d = some n) : lenV d = some n := by cases d <;> first | exact h | (simp [lenD] at h)
def lenA : D → Option Nat
  | .str s => some s.size
  | d => lenD d

def rep (n : Nat) (zero : List D) : List D := (List.replicate n zero).flatten

/-- The first n elements' cells of what is appended or copied. -/
def srcD (h : Heap) (sz n : Nat) : D → Option (List D)
  | .nil => if n = 0 then some [] else none
  | .emp => if n = 0 then some [] else none
  | .vs sz' cells len => if sz' = sz ∧ n ≤ len ∧ cells.length = len * sz then some (cells.take (n * sz)) else none
  | .sl k sz' off len => if sz' = sz ∧ n ≤ len then
      match h k with | some c => if off + len * sz ≤ c.length then some ((c.drop off).take (n * sz)) else none | none => none else none
  | .str s => if sz = 1 ∧ n ≤ s.size then some ((s.data.toList.take n).map fun b => .int .u8 b.toNat) else none
  | _ => none

def fillB (c : List D) : List (Nat × Nat × List D) → Option (List D)
  | [] => some c
  | (off, n, x) :: r => if x.length = n ∧ off + n ≤ c.length then fillB (splice c off x) r else none

def bytesD : List D → Option (List Int)
  | [] => some []
  | .int .u8 n :: r => match bytesD r with | some l => some (n :: l) | none => none
  | _ :: _ => none
def strOf (ns : List Int) : ByteArray := ns.foldl (fun r n => r.push (UInt8.ofNat n.toNat)) ByteArray.empty
/-- The string of the bytes of a slice. -/
def strD (h : Heap) (d : D) : Option D :=
  match lenD d with
  | some (n + 1) => (match srcD h 1 (n + 1) d with | some c => (match bytesD c with | some ns => some (.str (strOf ns)) | none => none) | none => none)
  | some 0 => some (.str (strOf []))
  | none => none

def evOs (e : Look) : List O → Option (List D)
  | [] => some []
  | x :: r => match evO e x, evOs e r with | some d, some l => some (d :: l) | _, _ => none
def evQ (e : Look) : List (Nat × Nat × O) → Option (List (Nat × Nat × List D))
  | [] => some []
  | (i, n, x) :: r => match (evO e x).bind cellsD, evQ e r with | some d, some l => some ((i, n, d) :: l) | _, _ => none

def room : Nat := 2 ^ 47

def appD (h : Heap) (key sz bytes : Nat) (x y : D) : Option (D × Heap) :=
  match lenA y with
  | none => none
  | some n =>
    match srcD h sz n y with
    | none => none
    | some new =>
      match x with
      | .nil => if n = 0 then some (.nil, h) else if n * bytes ≤ room then some (.sl key sz 0 n, upd h key new) else none
      | .emp => if n = 0 then some (.emp, h) else if n * bytes ≤ room then some (.sl key sz 0 n, upd h key new) else none
      | .sl k sz' off len =>
        if sz' = sz then
          match h k with
          | none => none
          | some c =>
            if n = 0 then some (.sl k sz off len, h)
            else if off + (len + n) * sz ≤ c.length then some (.sl k sz off (len + n), upd h k (splice c (off + len * sz) new))
            else if off = 0 ∧ len * sz = c.length ∧ (len + n) * bytes ≤ room then some (.sl key sz 0 (len + n), upd (del h k) key (c ++ new))
            else none
        else none
      | _ => none

def copyD (h : Heap) (sz : Nat) (x y : D) : Option (D × Heap) :=
  match lenD x, lenA y with
  | some m, some n' =>
    let n := min n' m
    match srcD h sz n y with
    | none => none
    | some new =>
      match x with
      | .nil | .emp => some (.int .i64 n, h)
      | .sl k sz' off len =>
        if sz' = sz then
          match h k with
          | some c => if off + len * sz ≤ c.length then some (.int .i64 n, upd h k (splice c off new)) else none
          | none => none
        else none
      | _ => none
  | _, _ => none

def bndD (e : Look) (dflt : Nat) : Option O → Option Nat
  | none => some dflt
  | some x => match evO e x with | some (.int _ n) => if 0 ≤ n then some n.toNat else none | _ => none

def mimaF (mx : Bool) (k : IntKind) (a : Int) : List D → Option D
  | [] => some (.int k a)
  | .int k' b :: r => if k = k' then mimaF mx k (if mx then (if b > a then b else a) else (if b < a then b else a)) r else none
  | _ :: _ => none
def mimaD (mx : Bool) : List D → Option D
  | .int k a :: r => mimaF mx k a r
  | _ => none

/-- What an operation (no call) gives and does; 'key': the name of the block that it makes, if it makes one. -/
def evOp (e : Look) (h : Heap) (key : Nat) : AOp → Option (D × Heap)
  | .mv x => match evO e x with | some d => some (d, h) | none => none
  | .pick c a b => match evO e c with | some (.bool t) => (match evO e (if t then a else b) with | some d => some (d, h) | none => none) | _ => none
  | .alloc zero => some (.pt key 0, upd h key zero)
  | .box x => match (evO e x).bind cellsD with | some c => some (.pt key 0, upd h key c) | none => none
  | .build zero parts => match evQ e parts with | some ps => (match fillB zero ps with | some c => some (.agg c, h) | none => none) | none => none
  | .buildS sz zero len parts =>
    match evQ e parts with
    | some ps => if zero.length = sz ∧ 0 < sz then (match fillB (rep len zero) ps with | some c => some (.sl key sz 0 len, upd h key c) | none => none) else none
    | none => none
  | .load agg n a => match (evO e a).bind (memAt h) with | some (c, off) => (match ldD agg n c off with | some d => some (d, h) | none => none) | none => none
  | .store n a x =>
    match evO e a, (evO e x).bind cellsD with
    | some (.pt k off), some new =>
      (match h k with
       | some c => if new.length = n ∧ off + n ≤ c.length then some (.undef, upd h k (splice c off new)) else none
       | none => none)
    | _, _ => none
  | .nilck x => match evO e x with
    | some (.vp c o) => some (.vp c o, h)
    | some (.pt k o) => some (.pt k o, h)
    | some (.fn f fs cs) => some (.fn f fs cs, h)
    | _ => none
  | .bin op x y => match evO e x, evO e y with | some a, some b => (match binD op a b with | some d => some (d, h) | none => none) | _, _ => none
  | .eqB neg x y => match evO e x, evO e y with | some (.bool a), some (.bool b) => some (.bool (if neg then !(a == b) else a == b), h) | _, _ => none
  | .eqA neg tags x y =>
    match evO e x, evO e y with
    | some (.agg a), some (.agg b) => (match eqL tags a b with | some t => some (.bool (if neg then !t else t), h) | none => none)
    | _, _ => none
  | .eqN neg x => match (evO e x).bind isNilD with | some t => some (.bool (if neg then !t else t), h) | none => none
  | .un op x => match op, evO e x with
    | .not, some (.bool b) => some (.bool (!b), h)
    | .neg, some (.int k n) => some (.int k (k.wrap (0 - n)), h)
    | _, _ => none
  | .conv k x => match evO e x with | some (.int _ n) => some (.int k (k.wrap n), h) | _ => none
  | .strB x => match evO e x with | some d => (match strD h d with | some r => some (r, h) | none => none) | none => none
  | .mkfn f fst caps => match evOs e fst, evOs e caps with | some fs, some cs => some (.fn f fs cs, h) | _, _ => none
  | .mkslice sz bytes zero len cap =>
    match evO e len, evO e cap with
    | some (.int _ n), some (.int _ c) =>
      if zero.length = sz ∧ 0 < sz ∧ 0 ≤ n ∧ n ≤ c ∧ c * bytes ≤ room ∧ c ≤ 9223372036854775807 then some (.sl key sz 0 n.toNat, upd h key (rep n.toNat zero)) else none
    | _, _ => none
  | .slice sz x lo hi =>
    match (evO e x), (evO e x).bind lenD with
    | some d, some len =>
      (match bndD e 0 lo, bndD e len hi with
       | some l, some r =>
         if l ≤ r ∧ r ≤ len then
           (match d with
            | .vs sz' cells n => if sz' = sz then some (.vs sz ((cells.drop (l * sz)).take ((r - l) * sz)) (r - l), h) else none
            | .sl k sz' off n => if sz' = sz then some (.sl k sz (off + l * sz) (r - l), h) else none
            | .nil => some (.nil, h)
            | .emp => some (.emp, h)
            | _ => none)
         else none
       | _, _ => none)
    | _, _ => none
  | .slice3 sz x lo hi mx =>
    match evO e x with
    | some (.sl _ sz' _ n) =>
      (match bndD e 0 lo, bndD e 0 (some hi), bndD e 0 (some mx) with
       | some l, some r, some m => if sz' = sz ∧ l ≤ r ∧ r ≤ m ∧ m ≤ n then some (.undef, h) else none
       | _, _, _ => none)
    | _ => none
  | .sliceM sz x lo hi =>
    match evO e x with
    | some (.sl k sz' off _) =>
      (match h k, bndD e 0 (some lo), bndD e 0 (some hi) with
       | some c, some l, some r => if sz' = sz ∧ 0 < sz ∧ l ≤ r ∧ off + r * sz ≤ c.length then some (.sl k sz (off + l * sz) (r - l), h) else none
       | _, _, _ => none)
    | _ => none
  | .clear sz zero x =>
    match evO e x with
    | some (.sl k sz' off n) =>
      (match h k with
       | some c => if sz' = sz ∧ off + n * sz ≤ c.length then some (.undef, upd h k (splice c off (rep n zero))) else none
       | none => none)
    | _ => none
  | .faddr off x => match evO e x with | some (.vp c o) => some (.vp c (o + off), h) | some (.pt k o) => some (.pt k (o + off), h) | _ => none
  | .field agg n off x => match evO e x with | some (.agg cs) => (match ldD agg n cs off with | some d => some (d, h) | none => none) | _ => none
  | .iaddr sz x i =>
    match evO e x, evO e i with
    | some (.vs sz' cells len), some (.int _ n) => if sz' = sz ∧ 0 ≤ n ∧ n < len then some (.vp cells (n.toNat * sz), h) else none
    | some (.sl k sz' off len), some (.int _ n) => if sz' = sz ∧ 0 ≤ n ∧ n < len then (match h k with | some _ => some (.pt k (off + n.toNat * sz), h) | none => none) else none
    | _, _ => none
  | .iaddrA len sz x i =>
    match evO e x, evO e i with
    | some (.vp c o), some (.int _ n) => if 0 ≤ n ∧ n < len then some (.vp c (o + n.toNat * sz), h) else none
    | some (.pt k o), some (.int _ n) => if 0 ≤ n ∧ n < len then some (.pt k (o + n.toNat * sz), h) else none
    | _, _ => none
  | .index agg len sz x i =>
    match evO e x, evO e i with
    | some (.agg cs), some (.int _ n) => if 0 ≤ n ∧ n < len then (match ldD agg sz cs (n.toNat * sz) with | some d => some (d, h) | none => none) else none
    | _, _ => none
  | .indexS x i =>
    match evO e x, evO e i with
    | some (.str s), some (.int _ n) => if 0 ≤ n then (match s[n.toNat]? with | some b => some (.int .u8 b.toNat, h) | none => none) else none
    | _, _ => none
  | .extract i x => match evO e x with | some (.tup vs) => (match vs[i]? with | some d => some (d, h) | none => none) | _ => none
  | .len x => match (evO e x).bind lenV with | some n => some (.int .i64 n, h) | none => none
  | .lenS x => match evO e x with | some (.str s) => some (.int .i64 s.size, h) | _ => none
  | .append sz bytes x y => match evO e x, evO e y with | some a, some b => appD h key sz bytes a b | _, _ => none
  | .copy sz x y => match evO e x, evO e y with | some a, some b => copyD h sz a b | _, _ => none
  | .mima mx xs => match (evOs e xs).bind (mimaD mx) with | some d => some (d, h) | none => none
  | .mkmap => some (.mp key, upd h key [.mpc []])
  | .mapHas x i => match evO e x, evO e i with
    | some (.mp k), some (.int .i64 n) => (match h k with
      | some [.mpc l] => if -9223372036854775808 ≤ n ∧ n ≤ 9223372036854775807 then some (.bool (l.contains n), h) else none
      | _ => none)
    | _, _ => none
  | .mapPut x i v => match evO e x, evO e i, evO e v with
    | some (.mp k), some (.int .i64 n), some (.bool true) => (match h k with
      | some [.mpc l] => if -9223372036854775808 ≤ n ∧ n ≤ 9223372036854775807 ∧ l.length < 9223372036854775807 then some (.undef, upd h k [.mpc (n :: l)]) else none
      | _ => none)
    | _, _, _ => none
  | .call _ _ => none
  | .bad => none

/-! ### The compiler -/
def ofScalar : Value → Option D
  | .int k n => some (.int k n)
  | .bool b => some (.bool b)
  | .string s => some (.str s)
  | .slice none 0 0 => some .nil
  | .pointer none => some .nilp
  | .nilFunc => some .nilf
  | _ => none
def ofScalars : List Value → Option (List D)
  | [] => some []
  | v :: r => match ofScalar v, ofScalars r with | some d, some l => some (d :: l) | _, _ => none
def ofConst : Value → Option D
  | .agg cs => (ofScalars cs.toList).map .agg
  | v => ofScalar v

def cO : Operand → Option O
  | .tmp t => some (.tmp t)
  | .const v => (ofConst v).map .cst
  | .func f => some (.fnc f)
  | .global _ => none
def cOs : List Operand → Option (List O)
  | [] => some []
  | x :: r => match cO x, cOs r with | some y, some l => some (y :: l) | _, _ => none
def cOo : Option Operand → Option (Option O)
  | none => some none
  | some x => match cO x with | some y => some (some y) | none => none

def szOf (P : Program) (t : TypeId) : Option Nat := match P.info? t with | some i => some i.size | none => none
def zeroOf (P : Program) (t : TypeId) : Option (List D) :=
  match P.info? t with | some i => (match i.zero with | some z => ofScalars z.cells.toList | none => none) | none => none
def aggOf (P : Program) (t : TypeId) : Option Bool :=
  match P.underlying t with | some (.struct _) => some true | some (.array _ _) => some true | some _ => some false | none => none

def tagOf (P : Program) (t : TypeId) : Option Nat :=
  match P.underlying t with | some .bool => some 0 | some (.int _) => some 1 | some .string => some 2 | _ => none
/-- The fields are scalars, one cell each, one behind the other, none of them blank: their tags. -/
def flatFs (P : Program) : Nat → List Field → Option (List Nat)
  | _, [] => some []
  | i, f :: r => if f.offset = i ∧ f.name ≠ "_" then (match tagOf P f.type, flatFs P (i + 1) r with | some t, some l => some (t :: l) | _, _ => none) else none

def cPartsF (P : Program) (fs : List Field) : List (Nat × Operand) → Option (List (Nat × Nat × O))
  | [] => some []
  | (i, x) :: r => match fs[i]?, cO x, cPartsF P fs r with
    | some f, some y, some l => (match szOf P f.type with | some n => some ((f.offset, n, y) :: l) | none => none)
    | _, _, _ => none
def cPartsA (sz : Nat) : List (Nat × Operand) → Option (List (Nat × Nat × O))
  | [] => some []
  | (i, x) :: r => match cO x, cPartsA sz r with | some y, some l => some ((i * sz, sz, y) :: l) | _, _ => none

def cBin (P : Program) (op : BinOp) (t : TypeId) (x y : Operand) : Option AOp :=
  match cO x, cO y with
  | some a, some b =>
    match P.underlying t with
    | some (.int _) => some (.bin op a b)
    | some .string => some (.bin op a b)
    | some .bool => (match op with | .eql => some (.eqB false a b) | .neq => some (.eqB true a b) | _ => none)
    | some (.struct fs) => (match flatFs P 0 fs.toList with
      | some tags => if P.stoodInHeld t = false ∧ P.eqGuardType P.depth t = false then
        (match op with | .eql => some (.eqA false tags a b) | .neq => some (.eqA true tags a b) | _ => none) else none
      | none => none)
    | some (.slice _) => (match y with
      | .const (.slice none 0 0) => (match op with | .eql => some (.eqN false a) | .neq => some (.eqN true a) | _ => none)
      | _ => none)
    | _ => none
  | _, _ => none

def cCall (P : Program) (c : Call) : Option AOp :=
  match c.callee with
  | .value f => (match cO f, cOs c.args.toList with | some g, some l => some (.call g l) | _, _ => none)
  | .builtin .len => (match c.argTypes.toList, cOs c.args.toList with
    | [t], some [x] => (match P.underlying t with | some (.slice _) => some (.len x) | some .string => some (.lenS x) | _ => none)
    | _, _ => none)
  | .builtin .append => (match c.argTypes.toList, cOs c.args.toList with
    | [t, u], some [x, y] => (match P.underlying t, P.underlying u with
      | some (.slice e), some (.slice _) => (match P.info? e with | some i => if 0 < i.size ∧ 0 < i.bytes then (match zeroOf P e with | some z => if z.length = i.size then some (.append i.size i.bytes x y) else none | none => none) else none | none => none)
      | some (.slice e), some .string => (match P.info? e with | some i => if 0 < i.size ∧ 0 < i.bytes then (match zeroOf P e with | some z => if z.length = i.size then some (.append i.size i.bytes x y) else none | none => none) else none | none => none)
      | _, _ => none)
    | _, _ => none)
  | .builtin .copy => (match c.argTypes.toList, cOs c.args.toList with
    | [t, _], some [x, y] => (match P.underlying t with
      | some (.slice e) => (match szOf P e with | some n => if 0 < n then some (.copy n x y) else none | none => none)
      | _ => none)
    | _, _ => none)
  | .builtin .clear => (match c.argTypes.toList, cOs c.args.toList with
    | [t], some [x] => (match P.underlying t with
      | some (.slice e) => (match szOf P e, zeroOf P e with | some n, some z => if z.length = n ∧ 0 < n then some (.clear n z x) else none | _, _ => none)
      | _ => none)
    | _, _ => none)
  | .builtin .max => (match cOs c.args.toList with | some l => some (.mima true l) | none => none)
  | .builtin .min => (match cOs c.args.toList with | some l => some (.mima false l) | none => none)
  | _ => none

/-- 'map[int]bool'. -/
def mapT (P : Program) (t : TypeId) : Bool :=
  match P.underlying t with
  | some (.map k e) => (match P.underlying k, P.underlying e, P.info? e with | some (.int .i64), some .bool, some i => (match i.zero with | some (.bool false) => true | _ => false) | _, _, _ => false)
  | _ => false
def cOp (P : Program) : Op → Option AOp
  | .move x => (cO x).map .mv
  | .assign x => (cO x).map .mv
  | .pick c a b => (match cO c, cO a, cO b with | some c', some a', some b' => some (.pick c' a' b') | _, _, _ => none)
  | .alloc t => (match szOf P t, zeroOf P t with | some _, some z => some (.alloc z) | _, _ => none)
  | .box _ x => (cO x).map .box
  | .build t parts => (match zeroOf P t, P.underlying t with
    | some z, some (.struct fs) => if fs.toList.all (fun f => (szOf P f.type).isSome) then (match cPartsF P fs.toList parts.toList with | some l => some (.build z l) | none => none) else none
    | some z, some (.array _ e) => (match szOf P e with | some n => (match cPartsA n parts.toList with | some l => some (.build z l) | none => none) | none => none)
    | _, _ => none)
  | .buildSlice t len parts => (match P.underlying t with
    | some (.slice e) => (match szOf P e, zeroOf P e with
      | some n, some z => if len * n ≤ 2 ^ 24 ∧ z.length = n then (match cPartsA n parts.toList with | some l => some (.buildS n z len l) | none => none) else none
      | _, _ => none)
    | _ => none)
  | .load t a => (match szOf P t, aggOf P t, cO a with
    | some n, some g, some y => if (g && 0 < n) || n == 1 then some (.load g n y) else none
    | _, _, _ => none)
  | .store t a x => (match szOf P t, cO a, cO x with | some n, some y, some z => some (.store n y z) | _, _, _ => none)
  | .nilCheck x => (cO x).map .nilck
  | .binOp op t x y _ => cBin P op t x y
  | .unOp op _ x => (cO x).map (.un op)
  | .convert s t x => (match P.underlying s, P.underlying t, cO x with | some (.int _), some (.int k), some y => some (.conv k y) | some (.slice e), some .string, some y => (match P.underlying e with | some (.int .u8) => some (.strB y) | _ => none) | _, _, _ => none)
  | .makeFunc (.func f) fst caps => (match cOs fst.toList, cOs caps.toList with | some a, some b => some (.mkfn f a b) | _, _ => none)
  | .makeSlice t len cap => (match P.underlying t with
    | some (.slice e) => (match P.info? e, zeroOf P e, cO len, cO cap with
      | some i, some z, some l, some c => if z.length = i.size then some (.mkslice i.size i.bytes z l c) else none
      | _, _, _, _ => none)
    | _ => none)
  | .slice t x (some lo) (some hi) none => (match P.underlying t with
    | some (.slice e) => (match szOf P e, cO x, cO lo, cO hi with | some n, some y, some l, some r => some (.sliceM n y l r) | _, _, _, _ => none)
    | _ => none)
  | .slice t x lo (some hi) (some mx) => (match P.underlying t with
    | some (.slice e) => (match szOf P e, cO x, cOo lo, cO hi, cO mx with | some n, some y, some l, some r, some m => some (.slice3 n y l r m) | _, _, _, _, _ => none)
    | _ => none)
  | .slice t x lo hi none => (match P.underlying t with
    | some (.slice e) => (match szOf P e, cO x, cOo lo, cOo hi with | some n, some y, some l, some r => some (.slice n y l r) | _, _, _, _ => none)
    | _ => none)
  | .fieldAddr t x i => (match P.underlying t with
    | some (.struct fs) => (match fs[i]?, cO x with
      | some f, some y => (match szOf P f.type with | some n => if n = 0 then none else some (.faddr f.offset y) | none => none)
      | _, _ => none)
    | _ => none)
  | .field t x i => (match P.underlying t with
    | some (.struct fs) => (match fs[i]?, cO x with
      | some f, some y => (match szOf P f.type, aggOf P f.type with | some n, some g => some (.field g n f.offset y) | _, _ => none)
      | _, _ => none)
    | _ => none)
  | .indexAddr t x i => (match cO x, cO i with
    | some y, some j => (match P.underlying t with
      | some (.slice e) => (match szOf P e with | some n => some (.iaddr n y j) | none => none)
      | some (.array len e) => (match szOf P e with | some n => some (.iaddrA len n y j) | none => none)
      | _ => none)
    | _, _ => none)
  | .index t x i => (match cO x, cO i with
    | some y, some j => (match P.underlying t with
      | some (.array len e) => (match szOf P e, aggOf P e with | some n, some g => some (.index g len n y j) | _, _ => none)
      | some .string => some (.indexS y j)
      | _ => none)
    | _, _ => none)
  | .extract x i => (cO x).map (.extract i)
  | .makeMap t none => if mapT P t then some .mkmap else none
  | .lookup t x i false => if mapT P t then (match cO x, cO i with | some y, some j => some (.mapHas y j) | _, _ => none) else none
  | .mapUpdate t x i v => if mapT P t then (match cO x, cO i, cO v with | some y, some j, some z => some (.mapPut y j z) | _, _, _ => none) else none
  | .call c => cCall P c
  | _ => none

end Go.AM
