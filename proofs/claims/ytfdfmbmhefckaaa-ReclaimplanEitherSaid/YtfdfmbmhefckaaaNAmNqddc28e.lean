import Derived.WalkKit
import Derived.WalkSpells
import Derived.Laws.BytesString
section
/- The abstract machine: values by value, the call's own blocks by key; its operations, its code, and the compiler from the model's code. Generic over the program. -/
set_option linter.unusedSimpArgs false
set_option linter.unusedVariables false
namespace Go.AM
inductive D where
  | int (k : IntKind) (n : Int)
  | bool (b : Bool)
  | str (s : ByteArray)
  | nil
  | emp
  | vs (sz : Nat) (cells : List D) (len : Nat)
  | ow (sz : Nat) (cells : List D) (len : Nat)
  | sl (k : Nat) (sz off len : Nat)
  | vp (cells : List D) (off : Nat)
  | pt (k : Nat) (off : Nat)
  | agg (cs : List D)
  | tup (vs : List D)
  | fn (f : Nat) (fst caps : List D)
  | nilp
  | nilf
  | undef
  deriving Inhabited
abbrev Heap := Nat → Option (List D)
def upd (h : Heap) (k : Nat) (c : List D) : Heap := fun i => if i = k then some c else h i
def del (h : Heap) (k : Nat) : Heap := fun i => if i = k then none else h i
abbrev Env := List (Nat × D)
def get : Env → Nat → Option D
  | [], _ => none
  | (a, d) :: r, t => if a = t then some d else get r t
def norm : List Nat → Env → Env
  | [], _ => []
  | t :: r, e => match get e t with | some d => (t, d) :: norm r e | none => norm r e
structure St where
  env : Env
  heap : Heap
inductive O where
  | tmp (t : Nat)
  | cst (d : D)
  | fnc (f : Nat)
  deriving Inhabited
abbrev Look := Nat → Option D
def evO (e : Look) : O → Option D
  | .tmp t => e t
  | .cst d => some d
  | .fnc f => some (.fn f [] [])
inductive AOp where
  | mv (x : O)
  | pick (c a b : O)
  | alloc (zero : List D)
  | box (x : O)
  | build (zero : List D) (parts : List (Nat × Nat × O))
  | buildS (sz : Nat) (zero : List D) (len : Nat) (parts : List (Nat × Nat × O))
  | load (agg : Bool) (n : Nat) (a : O)
  | store (n : Nat) (a x : O)
  | nilck (x : O)
  | bin (op : BinOp) (x y : O)
  | eqB (neg : Bool) (x y : O)
  | eqA (neg : Bool) (tags : List Nat) (x y : O)
  | eqN (neg : Bool) (x : O)
  | un (op : UnOp) (x : O)
  | conv (k : IntKind) (x : O)
  | strB (x : O)
  | mkfn (f : Nat) (fst caps : List O)
  | mkslice (sz bytes : Nat) (zero : List D) (len cap : O)
  | slice (sz : Nat) (x : O) (lo hi : Option O)
  | faddr (off : Nat) (x : O)
  | field (agg : Bool) (n off : Nat) (x : O)
  | iaddr (sz : Nat) (x i : O)
  | iaddrA (len sz : Nat) (x i : O)
  | index (agg : Bool) (len sz : Nat) (x i : O)
  | indexS (x i : O)
  | extract (i : Nat) (x : O)
  | len (x : O)
  | lenS (x : O)
  | append (sz bytes : Nat) (x y : O)
  | copy (sz : Nat) (x y : O)
  | mima (mx : Bool) (xs : List O)
  | call (f : O) (args : List O)
  | bad
  deriving Inhabited
structure AIns where
  dst : Option Nat
  op : AOp
  guard : Option (Nat × Bool)
  deriving Inhabited
inductive ACode where
  | skip
  | reg (ops : List AIns) (keep : List Nat)
  | dreg (ops : List AIns) (bef : List (List Nat)) (keep : List Nat)
  | seq (a b : ACode)
  | cond (c : O) (ka : List Nat) (a : ACode) (kb : List Nat) (b : ACode)
  | block (id : Nat) (body : ACode)
  | loop (body : ACode)
  | exit (id : Nat)
  | ret
  deriving Inhabited
/-! ### Operations -/
def cellsD : D → Option (List D)
  | .agg cs => some cs
  | .tup _ => none
  | .undef => none
  | .ow _ _ _ => none
  | d => some [d]
def memAt (h : Heap) : D → Option (List D × Nat)
  | .vp cells off => some (cells, off)
  | .pt k off => match h k with | some c => some (c, off) | none => none
  | _ => none
def ldD (agg : Bool) (n : Nat) (cells : List D) (off : Nat) : Option D :=
  if agg then (if off + n ≤ cells.length then some (.agg ((cells.drop off).take n)) else none) else cells[off]?
def splice (c : List D) (off : Nat) (x : List D) : List D := c.take off ++ x ++ c.drop (off + x.length)
def b2i (op : BinOp) (k : IntKind) (x y : Int) : Option Int :=
  match op with
  | .add => some (k.wrap (x + y))
  | .sub => some (k.wrap (x - y))
  | .mul => some (k.wrap (x * y))
  | .quo => if y = 0 then none else some (k.wrap (x.tdiv y))
  | .rem => if y = 0 then none else some (x.tmod y)
  | .and => some (k.wrap (BitVec.ofInt k.bits x &&& BitVec.ofInt k.bits y).toNat)
  | .or => some (k.wrap (BitVec.ofInt k.bits x ||| BitVec.ofInt k.bits y).toNat)
  | .xor => some (k.wrap (BitVec.ofInt k.bits x ^^^ BitVec.ofInt k.bits y).toNat)
  | .andNot => some (k.wrap (BitVec.ofInt k.bits x &&& ~~~BitVec.ofInt k.bits y).toNat)
  | _ => none
def cmpI (op : BinOp) (x y : Int) : Option Bool :=
  match op with
  | .eql => some (x == y)
  | .neq => some (x != y)
  | .lss => some (decide (x < y))
  | .leq => some (decide (x ≤ y))
  | .gtr => some (decide (x > y))
  | .geq => some (decide (x ≥ y))
  | _ => none
def shI (op : BinOp) (k : IntKind) (x y : Int) : Option Int :=
  match op with
  | .shl => if y < 0 then none else some (k.wrap (x * 2 ^ (min y.toNat k.bits)))
  | .shr => if y < 0 then none else some (x.fdiv (2 ^ (min y.toNat k.bits)))
  | _ => none
def binD (op : BinOp) : D → D → Option D
  | .int k a, .int k' b =>
    match op with
    | .shl | .shr => (shI op k a b).map (.int k)
    | .add | .sub | .mul | .quo | .rem | .and | .or | .xor | .andNot => if k = k' then (b2i op k a b).map (.int k) else none
    | _ => if k = k' then (cmpI op a b).map .bool else none
  | .str a, .str b => match op with | .eql => some (.bool (a.toList == b.toList)) | .neq => some (.bool (!(a.toList == b.toList))) | _ => none
  | _, _ => none
def eqD : Nat → D → D → Option Bool
  | 0, .bool a, .bool b => some (a == b)
  | 1, .int k a, .int k' b => if k = k' then some (a == b) else none
  | 2, .str a, .str b => some (a.toList == b.toList)
  | _, _, _ => none
def eqL : List Nat → List D → List D → Option Bool
  | [], [], [] => some true
  | t :: ts, a :: x, b :: y => match eqD t a b, eqL ts x y with | some p, some q => some (p && q) | _, _ => none
  | _, _, _ => none
def isNilD : D → Option Bool
  | .nil => some true
  | .vs _ _ len => if len = 0 then none else some false
  | .sl _ _ _ len => if len = 0 then none else some false
  | _ => none
def lenD : D → Option Nat
  | .nil => some 0
  | .emp => some 0
  | .vs _ _ n => some n
  | .sl _ _ _ n => some n
  | _ => none
def lenA : D → Option Nat
  | .str s => some s.size
  | d => lenD d
def rep (n : Nat) (zero : List D) : List D := (List.replicate n zero).flatten
def srcD (h : Heap) (sz n : Nat) : D → Option (List D)
  | .nil => if n = 0 then some [] else none
  | .emp => if n = 0 then some [] else none
  | .vs sz' cells len => if sz' = sz ∧ n ≤ len ∧ cells.length = len * sz then some (cells.take (n * sz)) else none
  | .sl k sz' off len => if sz' = sz ∧ n ≤ len then
      match h k with | some c => if off + len * sz ≤ c.length then some ((c.drop off).take (n * sz)) else none | none => none else none
  | .str s => if sz = 1 ∧ n ≤ s.size then some ((s.data.toList.take n).map fun b => .int .u8 b.toNat) else none
  | _ => none
def fillB (c : List D) : List (Nat × Nat × List D) → Option (List D)
  | [] => some c
  | (off, n, x) :: r => if x.length = n ∧ off + n ≤ c.length then fillB (splice c off x) r else none
def bytesD : List D → Option (List Int)
  | [] => some []
  | .int .u8 n :: r => match bytesD r with | some l => some (n :: l) | none => none
  | _ :: _ => none
def strOf (ns : List Int) : ByteArray := ns.foldl (fun r n => r.push (UInt8.ofNat n.toNat)) ByteArray.empty
def strD (h : Heap) (d : D) : Option D :=
  match lenD d with
  | some (n + 1) => (match srcD h 1 (n + 1) d with | some c => (match bytesD c with | some ns => some (.str (strOf ns)) | none => none) | none => none)
  | _ => none
def evOs (e : Look) : List O → Option (List D)
  | [] => some []
  | x :: r => match evO e x, evOs e r with | some d, some l => some (d :: l) | _, _ => none
def evQ (e : Look) : List (Nat × Nat × O) → Option (List (Nat × Nat × List D))
  | [] => some []
  | (i, n, x) :: r => match (evO e x).bind cellsD, evQ e r with | some d, some l => some ((i, n, d) :: l) | _, _ => none
def room : Nat := 2 ^ 47
def appD (h : Heap) (key sz bytes : Nat) (x y : D) : Option (D × Heap) :=
  match lenA y with
  | none => none
  | some n =>
    match srcD h sz n y with
    | none => none
    | some new =>
      match x with
      | .nil => if n = 0 then some (.nil, h) else if n * bytes ≤ room then some (.sl key sz 0 n, upd h key new) else none
      | .emp => if n = 0 then some (.emp, h) else if n * bytes ≤ room then some (.sl key sz 0 n, upd h key new) else none
      | .sl k sz' off len =>
        if sz' = sz then
          match h k with
          | none => none
          | some c =>
            if n = 0 then some (.sl k sz off len, h)
            else if off + (len + n) * sz ≤ c.length then some (.sl k sz off (len + n), upd h k (splice c (off + len * sz) new))
            else if off = 0 ∧ len * sz = c.length ∧ (len + n) * bytes ≤ room then some (.sl key sz 0 (len + n), upd (del h k) key (c ++ new))
            else none
        else none
      | _ => none
def copyD (h : Heap) (sz : Nat) (x y : D) : Option (D × Heap) :=
  match lenD x, lenA y with
  | some m, some n' =>
    let n := min n' m
    match srcD h sz n y with
    | none => none
    | some new =>
      match x with
      | .nil | .emp => some (.int .i64 n, h)
      | .sl k sz' off len =>
        if sz' = sz then
          match h k with
          | some c => if off + len * sz ≤ c.length then some (.int .i64 n, upd h k (splice c off new)) else none
          | none => none
        else none
      | _ => none
  | _, _ => none
def bndD (e : Look) (dflt : Nat) : Option O → Option Nat
  | none => some dflt
  | some x => match evO e x with | some (.int _ n) => if 0 ≤ n then some n.toNat else none | _ => none
def mimaF (mx : Bool) (k : IntKind) (a : Int) : List D → Option D
  | [] => some (.int k a)
  | .int k' b :: r => if k = k' then mimaF mx k (if mx then (if b > a then b else a) else (if b < a then b else a)) r else none
  | _ :: _ => none
def mimaD (mx : Bool) : List D → Option D
  | .int k a :: r => mimaF mx k a r
  | _ => none
def evOp (e : Look) (h : Heap) (key : Nat) : AOp → Option (D × Heap)
  | .mv x => match evO e x with | some d => some (d, h) | none => none
  | .pick c a b => match evO e c with | some (.bool t) => (match evO e (if t then a else b) with | some d => some (d, h) | none => none) | _ => none
  | .alloc zero => some (.pt key 0, upd h key zero)
  | .box x => match (evO e x).bind cellsD with | some c => some (.pt key 0, upd h key c) | none => none
  | .build zero parts => match evQ e parts with | some ps => (match fillB zero ps with | some c => some (.agg c, h) | none => none) | none => none
  | .buildS sz zero len parts =>
    match evQ e parts with
    | some ps => if zero.length = sz ∧ 0 < sz then (match fillB (rep len zero) ps with | some c => some (.sl key sz 0 len, upd h key c) | none => none) else none
    | none => none
  | .load agg n a => match (evO e a).bind (memAt h) with | some (c, off) => (match ldD agg n c off with | some d => some (d, h) | none => none) | none => none
  | .store n a x =>
    match evO e a, (evO e x).bind cellsD with
    | some (.pt k off), some new =>
      (match h k with
       | some c => if new.length = n ∧ off + n ≤ c.length then some (.undef, upd h k (splice c off new)) else none
       | none => none)
    | _, _ => none
  | .nilck x => match evO e x with
    | some (.vp c o) => some (.vp c o, h)
    | some (.pt k o) => some (.pt k o, h)
    | some (.fn f fs cs) => some (.fn f fs cs, h)
    | _ => none
  | .bin op x y => match evO e x, evO e y with | some a, some b => (match binD op a b with | some d => some (d, h) | none => none) | _, _ => none
  | .eqB neg x y => match evO e x, evO e y with | some (.bool a), some (.bool b) => some (.bool (if neg then !(a == b) else a == b), h) | _, _ => none
  | .eqA neg tags x y =>
    match evO e x, evO e y with
    | some (.agg a), some (.agg b) => (match eqL tags a b with | some t => some (.bool (if neg then !t else t), h) | none => none)
    | _, _ => none
  | .eqN neg x => match (evO e x).bind isNilD with | some t => some (.bool (if neg then !t else t), h) | none => none
  | .un op x => match op, evO e x with
    | .not, some (.bool b) => some (.bool (!b), h)
    | .neg, some (.int k n) => some (.int k (k.wrap (0 - n)), h)
    | _, _ => none
  | .conv k x => match evO e x with | some (.int _ n) => some (.int k (k.wrap n), h) | _ => none
  | .strB x => match evO e x with | some d => (match strD h d with | some r => some (r, h) | none => none) | none => none
  | .mkfn f fst caps => match evOs e fst, evOs e caps with | some fs, some cs => some (.fn f fs cs, h) | _, _ => none
  | .mkslice sz bytes zero len cap =>
    match evO e len, evO e cap with
    | some (.int _ n), some (.int _ c) =>
      if zero.length = sz ∧ 0 < sz ∧ 0 ≤ n ∧ n ≤ c ∧ c * bytes ≤ room ∧ c ≤ 9223372036854775807 then some (.sl key sz 0 n.toNat, upd h key (rep n.toNat zero)) else none
    | _, _ => none
  | .slice sz x lo hi =>
    match (evO e x), (evO e x).bind lenD with
    | some d, some len =>
      (match bndD e 0 lo, bndD e len hi with
       | some l, some r =>
         if l ≤ r ∧ r ≤ len then
           (match d with
            | .vs sz' cells n => if sz' = sz then some (.vs sz ((cells.drop (l * sz)).take ((r - l) * sz)) (r - l), h) else none
            | .sl k sz' off n => if sz' = sz then some (.sl k sz (off + l * sz) (r - l), h) else none
            | .nil => some (.nil, h)
            | .emp => some (.emp, h)
            | _ => none)
         else none
       | _, _ => none)
    | _, _ => none
  | .faddr off x => match evO e x with | some (.vp c o) => some (.vp c (o + off), h) | some (.pt k o) => some (.pt k (o + off), h) | _ => none
  | .field agg n off x => match evO e x with | some (.agg cs) => (match ldD agg n cs off with | some d => some (d, h) | none => none) | _ => none
  | .iaddr sz x i =>
    match evO e x, evO e i with
    | some (.vs sz' cells len), some (.int _ n) => if sz' = sz ∧ 0 ≤ n ∧ n < len then some (.vp cells (n.toNat * sz), h) else none
    | some (.sl k sz' off len), some (.int _ n) => if sz' = sz ∧ 0 ≤ n ∧ n < len then (match h k with | some _ => some (.pt k (off + n.toNat * sz), h) | none => none) else none
    | _, _ => none
  | .iaddrA len sz x i =>
    match evO e x, evO e i with
    | some (.vp c o), some (.int _ n) => if 0 ≤ n ∧ n < len then some (.vp c (o + n.toNat * sz), h) else none
    | some (.pt k o), some (.int _ n) => if 0 ≤ n ∧ n < len then some (.pt k (o + n.toNat * sz), h) else none
    | _, _ => none
  | .index agg len sz x i =>
    match evO e x, evO e i with
    | some (.agg cs), some (.int _ n) => if 0 ≤ n ∧ n < len then (match ldD agg sz cs (n.toNat * sz) with | some d => some (d, h) | none => none) else none
    | _, _ => none
  | .indexS x i =>
    match evO e x, evO e i with
    | some (.str s), some (.int _ n) => if 0 ≤ n then (match s[n.toNat]? with | some b => some (.int .u8 b.toNat, h) | none => none) else none
    | _, _ => none
  | .extract i x => match evO e x with | some (.tup vs) => (match vs[i]? with | some d => some (d, h) | none => none) | _ => none
  | .len x => match (evO e x).bind lenD with | some n => some (.int .i64 n, h) | none => none
  | .lenS x => match evO e x with | some (.str s) => some (.int .i64 s.size, h) | _ => none
  | .append sz bytes x y => match evO e x, evO e y with | some a, some b => appD h key sz bytes a b | _, _ => none
  | .copy sz x y => match evO e x, evO e y with | some a, some b => copyD h sz a b | _, _ => none
  | .mima mx xs => match (evOs e xs).bind (mimaD mx) with | some d => some (d, h) | none => none
  | .call _ _ => none
  | .bad => none
/-! ### The compiler -/
def ofScalar : Value → Option D
  | .int k n => some (.int k n)
  | .bool b => some (.bool b)
  | .string s => some (.str s)
  | .slice none 0 0 => some .nil
  | .pointer none => some .nilp
  | .nilFunc => some .nilf
  | _ => none
def ofScalars : List Value → Option (List D)
  | [] => some []
  | v :: r => match ofScalar v, ofScalars r with | some d, some l => some (d :: l) | _, _ => none
def ofConst : Value → Option D
  | .agg cs => (ofScalars cs.toList).map .agg
  | v => ofScalar v
def cO : Operand → Option O
  | .tmp t => some (.tmp t)
  | .const v => (ofConst v).map .cst
  | .func f => some (.fnc f)
  | .global _ => none
def cOs : List Operand → Option (List O)
  | [] => some []
  | x :: r => match cO x, cOs r with | some y, some l => some (y :: l) | _, _ => none
def cOo : Option Operand → Option (Option O)
  | none => some none
  | some x => match cO x with | some y => some (some y) | none => none
def szOf (P : Program) (t : TypeId) : Option Nat := match P.info? t with | some i => some i.size | none => none
def zeroOf (P : Program) (t : TypeId) : Option (List D) :=
  match P.info? t with | some i => (match i.zero with | some z => ofScalars z.cells.toList | none => none) | none => none
def aggOf (P : Program) (t : TypeId) : Option Bool :=
  match P.underlying t with | some (.struct _) => some true | some (.array _ _) => some true | some _ => some false | none => none
def tagOf (P : Program) (t : TypeId) : Option Nat :=
  match P.underlying t with | some .bool => some 0 | some (.int _) => some 1 | some .string => some 2 | _ => none
def flatFs (P : Program) : Nat → List Field → Option (List Nat)
  | _, [] => some []
  | i, f :: r => if f.offset = i ∧ f.name ≠ "_" then (match tagOf P f.type, flatFs P (i + 1) r with | some t, some l => some (t :: l) | _, _ => none) else none
def cPartsF (P : Program) (fs : List Field) : List (Nat × Operand) → Option (List (Nat × Nat × O))
  | [] => some []
  | (i, x) :: r => match fs[i]?, cO x, cPartsF P fs r with
    | some f, some y, some l => (match szOf P f.type with | some n => some ((f.offset, n, y) :: l) | none => none)
    | _, _, _ => none
def cPartsA (sz : Nat) : List (Nat × Operand) → Option (List (Nat × Nat × O))
  | [] => some []
  | (i, x) :: r => match cO x, cPartsA sz r with | some y, some l => some ((i * sz, sz, y) :: l) | _, _ => none
def cBin (P : Program) (op : BinOp) (t : TypeId) (x y : Operand) : Option AOp :=
  match cO x, cO y with
  | some a, some b =>
    match P.underlying t with
    | some (.int _) => some (.bin op a b)
    | some .string => some (.bin op a b)
    | some .bool => (match op with | .eql => some (.eqB false a b) | .neq => some (.eqB true a b) | _ => none)
    | some (.struct fs) => (match flatFs P 0 fs.toList with
      | some tags => if P.stoodInHeld t = false ∧ P.eqGuardType P.depth t = false then
        (match op with | .eql => some (.eqA false tags a b) | .neq => some (.eqA true tags a b) | _ => none) else none
      | none => none)
    | some (.slice _) => (match y with
      | .const (.slice none 0 0) => (match op with | .eql => some (.eqN false a) | .neq => some (.eqN true a) | _ => none)
      | _ => none)
    | _ => none
  | _, _ => none
def cCall (P : Program) (c : Call) : Option AOp :=
  match c.callee with
  | .value f => (match cO f, cOs c.args.toList with | some g, some l => some (.call g l) | _, _ => none)
  | .builtin .len => (match c.argTypes.toList, cOs c.args.toList with
    | [t], some [x] => (match P.underlying t with | some (.slice _) => some (.len x) | some .string => some (.lenS x) | _ => none)
    | _, _ => none)
  | .builtin .append => (match c.argTypes.toList, cOs c.args.toList with
    | [t, u], some [x, y] => (match P.underlying t, P.underlying u with
      | some (.slice e), some (.slice _) => (match P.info? e with | some i => if 0 < i.size ∧ 0 < i.bytes then (match zeroOf P e with | some z => if z.length = i.size then some (.append i.size i.bytes x y) else none | none => none) else none | none => none)
      | some (.slice e), some .string => (match P.info? e with | some i => if 0 < i.size ∧ 0 < i.bytes then (match zeroOf P e with | some z => if z.length = i.size then some (.append i.size i.bytes x y) else none | none => none) else none | none => none)
      | _, _ => none)
    | _, _ => none)
  | .builtin .copy => (match c.argTypes.toList, cOs c.args.toList with
    | [t, _], some [x, y] => (match P.underlying t with
      | some (.slice e) => (match szOf P e with | some n => if 0 < n then some (.copy n x y) else none | none => none)
      | _ => none)
    | _, _ => none)
  | .builtin .max => (match cOs c.args.toList with | some l => some (.mima true l) | none => none)
  | .builtin .min => (match cOs c.args.toList with | some l => some (.mima false l) | none => none)
  | _ => none
def cOp (P : Program) : Op → Option AOp
  | .move x => (cO x).map .mv
  | .assign x => (cO x).map .mv
  | .pick c a b => (match cO c, cO a, cO b with | some c', some a', some b' => some (.pick c' a' b') | _, _, _ => none)
  | .alloc t => (match szOf P t, zeroOf P t with | some _, some z => some (.alloc z) | _, _ => none)
  | .box _ x => (cO x).map .box
  | .build t parts => (match zeroOf P t, P.underlying t with
    | some z, some (.struct fs) => if fs.toList.all (fun f => (szOf P f.type).isSome) then (match cPartsF P fs.toList parts.toList with | some l => some (.build z l) | none => none) else none
    | some z, some (.array _ e) => (match szOf P e with | some n => (match cPartsA n parts.toList with | some l => some (.build z l) | none => none) | none => none)
    | _, _ => none)
  | .buildSlice t len parts => (match P.underlying t with
    | some (.slice e) => (match szOf P e, zeroOf P e with
      | some n, some z => if len * n ≤ 2 ^ 24 ∧ z.length = n then (match cPartsA n parts.toList with | some l => some (.buildS n z len l) | none => none) else none
      | _, _ => none)
    | _ => none)
  | .load t a => (match szOf P t, aggOf P t, cO a with
    | some n, some g, some y => if (g && 0 < n) || n == 1 then some (.load g n y) else none
    | _, _, _ => none)
  | .store t a x => (match szOf P t, cO a, cO x with | some n, some y, some z => some (.store n y z) | _, _, _ => none)
  | .nilCheck x => (cO x).map .nilck
  | .binOp op t x y _ => cBin P op t x y
  | .unOp op _ x => (cO x).map (.un op)
  | .convert s t x => (match P.underlying s, P.underlying t, cO x with | some (.int _), some (.int k), some y => some (.conv k y) | some (.slice e), some .string, some y => (match P.underlying e with | some (.int .u8) => some (.strB y) | _ => none) | _, _, _ => none)
  | .makeFunc (.func f) fst caps => (match cOs fst.toList, cOs caps.toList with | some a, some b => some (.mkfn f a b) | _, _ => none)
  | .makeSlice t len cap => (match P.underlying t with
    | some (.slice e) => (match P.info? e, zeroOf P e, cO len, cO cap with
      | some i, some z, some l, some c => if z.length = i.size then some (.mkslice i.size i.bytes z l c) else none
      | _, _, _, _ => none)
    | _ => none)
  | .slice t x lo hi none => (match P.underlying t with
    | some (.slice e) => (match szOf P e, cO x, cOo lo, cOo hi with | some n, some y, some l, some r => some (.slice n y l r) | _, _, _, _ => none)
    | _ => none)
  | .fieldAddr t x i => (match P.underlying t with
    | some (.struct fs) => (match fs[i]?, cO x with
      | some f, some y => (match szOf P f.type with | some n => if n = 0 then none else some (.faddr f.offset y) | none => none)
      | _, _ => none)
    | _ => none)
  | .field t x i => (match P.underlying t with
    | some (.struct fs) => (match fs[i]?, cO x with
      | some f, some y => (match szOf P f.type, aggOf P f.type with | some n, some g => some (.field g n f.offset y) | _, _ => none)
      | _, _ => none)
    | _ => none)
  | .indexAddr t x i => (match cO x, cO i with
    | some y, some j => (match P.underlying t with
      | some (.slice e) => (match szOf P e with | some n => some (.iaddr n y j) | none => none)
      | some (.array len e) => (match szOf P e with | some n => some (.iaddrA len n y j) | none => none)
      | _ => none)
    | _, _ => none)
  | .index t x i => (match cO x, cO i with
    | some y, some j => (match P.underlying t with
      | some (.array len e) => (match szOf P e, aggOf P e with | some n, some g => some (.index g len n y j) | _, _ => none)
      | some .string => some (.indexS y j)
      | _ => none)
    | _, _ => none)
  | .extract x i => (cO x).map (.extract i)
  | .call c => cCall P c
  | _ => none
end Go.AM
end
section
/- The relation between the abstract machine's data and the model's memory, and how it is kept. Generic over the program. -/
set_option linter.unusedSimpArgs false
set_option linter.unusedVariables false
namespace Go.AM
inductive RP (w : World) (prot : Nat → Prop) : Value → D → Prop
  | int (k : IntKind) (n : Int) : RP w prot (.int k n) (.int k n)
  | bool (b : Bool) : RP w prot (.bool b) (.bool b)
  | str (s : ByteArray) : RP w prot (.string s) (.str s)
  | nil : RP w prot (.slice none 0 0) .nil
  | emp (a : Option Addr) : RP w prot (.slice a 0 0) .emp
  | vs0 (a : Option Addr) (cap sz : Nat) : RP w prot (.slice a 0 cap) (.vs sz [] 0)
  | vs (b off cap sz len : Nat) (cells : List D) (cs : List Value) (hl : cells.length = len * sz) (hc : len ≤ cap) (hb : prot b) (hcs : cs.length = cells.length) (ho : ∀ v ∈ cs, v.oneCell' = true)
      (hm : ∀ (i : Nat) (v : Value), cs[i]? = some v → w.cell? ⟨b, off + i, none⟩ = some v) (hr : ∀ (i : Nat) (v : Value) (d : D), cs[i]? = some v → cells[i]? = some d → RP w prot v d) :
      RP w prot (.slice (some ⟨b, off, none⟩) len cap) (.vs sz cells len)
  | vp (b off o : Nat) (cells : List D) (cs : List Value) (hb : prot b) (hcs : cs.length = cells.length) (ho : ∀ v ∈ cs, v.oneCell' = true)
      (hm : ∀ (i : Nat) (v : Value), cs[i]? = some v → w.cell? ⟨b, o + i, none⟩ = some v) (hr : ∀ (i : Nat) (v : Value) (d : D), cs[i]? = some v → cells[i]? = some d → RP w prot v d) :
      RP w prot (.pointer (some ⟨b, o + off, none⟩)) (.vp cells off)
  | agg (cs : Array Value) (ds : List D) (hl : cs.toList.length = ds.length) (ho : ∀ v ∈ cs.toList, v.oneCell' = true) (hr : ∀ (i : Nat) (v : Value) (d : D), cs.toList[i]? = some v → ds[i]? = some d → RP w prot v d) : RP w prot (.agg cs) (.agg ds)
  | tup (cs : Array Value) (ds : List D) (hl : cs.toList.length = ds.length) (hr : ∀ (i : Nat) (v : Value) (d : D), cs.toList[i]? = some v → ds[i]? = some d → RP w prot v d) : RP w prot (.tuple cs) (.tup ds)
  | fn (f : Nat) (as bs : Array Value) (ds es : List D) (hl : as.toList.length = ds.length) (hm : bs.toList.length = es.length)
      (hr : ∀ (i : Nat) (v : Value) (d : D), as.toList[i]? = some v → ds[i]? = some d → RP w prot v d) (hs : ∀ (i : Nat) (v : Value) (d : D), bs.toList[i]? = some v → es[i]? = some d → RP w prot v d) :
      RP w prot (.func (.func f) as bs) (.fn f ds es)
  | nilp : RP w prot (.pointer none) .nilp
  | nilf : RP w prot .nilFunc .nilf
  | undef (v : Value) : RP w prot v .undef
theorem RP.mono {w w' : World} {prot prot' : Nat → Prop} (hp : ∀ b, prot b → prot' b ∧ w'.heap[b]? = w.heap[b]?) {v : Value} {d : D} (h : RP w prot v d) : RP w' prot' v d := by
  have hcell : ∀ b o, prot b → w'.cell? ⟨b, o, none⟩ = w.cell? ⟨b, o, none⟩ := by
    intro b o hb; simp only [World.cell?, (hp b hb).2]
  induction h with
  | int k n => exact .int k n
  | bool b => exact .bool b
  | str s => exact .str s
  | nil => exact .nil
  | emp a => exact .emp a
  | vs0 a cap sz => exact .vs0 a cap sz
  | vs b off cap sz len cells cs hl hc hb hcs ho hm hr ih => exact .vs b off cap sz len cells cs hl hc (hp b hb).1 hcs ho (fun i v h => (hcell b _ hb).trans (hm i v h)) ih
  | vp b off o cells cs hb hcs ho hm hr ih => exact .vp b off o cells cs (hp b hb).1 hcs ho (fun i v h => (hcell b _ hb).trans (hm i v h)) ih
  | agg cs ds hl ho hr ih => exact .agg cs ds hl ho ih
  | tup cs ds hl hr ih => exact .tup cs ds hl ih
  | fn f as bs ds es hl hm hr hs ih1 ih2 => exact .fn f as bs ds es hl hm ih1 ih2
  | nilp => exact .nilp
  | nilf => exact .nilf
  | undef v => exact .undef v
structure Sg where
  w : World
  ρ : Nat → Option (Option Nat × Nat)
  prot : Nat → Prop
  used : Nat → Prop
  next : Nat
inductive RV (s : Sg) : Value → D → Prop
  | pure {v : Value} {d : D} (h : RP s.w s.prot v d) : RV s v d
  | sl (a : Option Addr) (k sz off len cap : Nat) (hk : s.used k) (hna : len ≠ 0 → a ≠ none) (hlc : len ≤ cap)
      (h : ∀ x n, s.ρ k = some (x, n) → n ≤ off + cap * sz ∧ (cap = 0 ∨ ∃ b cs e, x = some b ∧ a = some ⟨b, off, none⟩ ∧ s.w.heap[b]? = some (.cells cs e (0, 0)) ∧ off + cap * sz ≤ cs.size)) :
      RV s (.slice a len cap) (.sl k sz off len)
  | pt (b k off : Nat) (hk : s.used k) (h : ∀ x n, s.ρ k = some (x, n) → x = some b) : RV s (.pointer (some ⟨b, off, none⟩)) (.pt k off)
  | agg (cs : Array Value) (ds : List D) (hl : cs.toList.length = ds.length) (ho : ∀ v ∈ cs.toList, v.oneCell' = true) (hr : ∀ (i : Nat) (v : Value) (d : D), cs.toList[i]? = some v → ds[i]? = some d → RV s v d) : RV s (.agg cs) (.agg ds)
  | tup (cs : Array Value) (ds : List D) (hl : cs.toList.length = ds.length) (hr : ∀ (i : Nat) (v : Value) (d : D), cs.toList[i]? = some v → ds[i]? = some d → RV s v d) : RV s (.tuple cs) (.tup ds)
  | fn (f : Nat) (as bs : Array Value) (ds es : List D) (hl : as.toList.length = ds.length) (hm : bs.toList.length = es.length)
      (hr : ∀ (i : Nat) (v : Value) (d : D), as.toList[i]? = some v → ds[i]? = some d → RV s v d) (hs : ∀ (i : Nat) (v : Value) (d : D), bs.toList[i]? = some v → es[i]? = some d → RV s v d) :
      RV s (.func (.func f) as bs) (.fn f ds es)
structure SameO (w w' : World) : Prop where
  os : w'.os = w.os
  tape : w'.tape = w.tape
  output : w'.output = w.output
theorem SameO.refl (w : World) : SameO w w := ⟨rfl, rfl, rfl⟩
theorem SameO.trans {a b c : World} (h : SameO a b) (k : SameO b c) : SameO a c := ⟨k.os.trans h.os, k.tape.trans h.tape, k.output.trans h.output⟩
structure Ext (s s' : Sg) : Prop where
  next : s.next ≤ s'.next
  used : ∀ k, s.used k → s'.used k
  size : s.w.heap.size ≤ s'.w.heap.size
  prot : ∀ b, s.prot b → s'.prot b ∧ s'.w.heap[b]? = s.w.heap[b]?
  key : ∀ k x, s.used k → s'.ρ k = some x → s.ρ k = some x
  blk : ∀ k b n cs e, s.used k → s'.ρ k = some (some b, n) → s.w.heap[b]? = some (.cells cs e (0, 0)) → ∃ cs', s'.w.heap[b]? = some (.cells cs' e (0, 0)) ∧ cs'.size = cs.size
  so : SameO s.w s'.w
theorem Ext.refl (s : Sg) : Ext s s := ⟨Nat.le_refl _, fun _ h => h, Nat.le_refl _, fun _ h => ⟨h, rfl⟩, fun _ _ _ h => h, fun _ _ _ cs _ _ _ h => ⟨cs, h, rfl⟩, .refl _⟩
theorem Ext.trans {s t u : Sg} (h : Ext s t) (h' : Ext t u) : Ext s u where
  next := Nat.le_trans h.next h'.next
  used k hk := h'.used k (h.used k hk)
  size := Nat.le_trans h.size h'.size
  prot b hb := ⟨(h'.prot b (h.prot b hb).1).1, ((h'.prot b (h.prot b hb).1).2).trans (h.prot b hb).2⟩
  key k x hk hx := h.key k x hk (h'.key k x (h.used k hk) hx)
  blk k b n cs e hk hx hh := by
    have hx' := h'.key k _ (h.used k hk) hx
    obtain ⟨c1, h1, e1⟩ := h.blk k b n cs e hk hx' hh
    obtain ⟨c2, h2, e2⟩ := h'.blk k b n c1 e (h.used k hk) hx h1
    exact ⟨c2, h2, e2.trans e1⟩
  so := h.so.trans h'.so
theorem RV.mono {s s' : Sg} (hx : Ext s s') {v : Value} {d : D} (h : RV s v d) : RV s' v d := by
  induction h with
  | pure h => exact .pure (h.mono hx.prot)
  | sl a k sz off len cap hk hna hlc h =>
    refine .sl a k sz off len cap (hx.used k hk) hna hlc (fun x n hn => ?_)
    obtain ⟨h1, h3⟩ := h x n (hx.key k _ hk hn)
    refine ⟨h1, h3.imp id ?_⟩
    rintro ⟨b, cs, e, rfl, ha, hb, hs⟩
    obtain ⟨c', hc', hs'⟩ := hx.blk k b n cs e hk hn hb
    exact ⟨b, c', e, rfl, ha, hc', by omega⟩
  | pt b k off hk h => exact .pt b k off (hx.used k hk) (fun x n hn => h x n (hx.key k _ hk hn))
  | agg cs ds hl ho hr ih => exact .agg cs ds hl ho ih
  | tup cs ds hl hr ih => exact .tup cs ds hl ih
  | fn f as bs ds es hl hm hr hs ih1 ih2 => exact .fn f as bs ds es hl hm ih1 ih2
def RC (s : Sg) (v : Value) (d : D) : Prop := RV s v d ∧ v.oneCell' = true
theorem RC.mono {s s' : Sg} (hx : Ext s s') {v : Value} {d : D} (h : RC s v d) : RC s' v d := ⟨h.1.mono hx, h.2⟩
def All2 {α β : Type} (R : α → β → Prop) (xs : List α) (ys : List β) : Prop := xs.length = ys.length ∧ ∀ (i : Nat) (x : α) (y : β), xs[i]? = some x → ys[i]? = some y → R x y
section All2
variable {α β : Type} {R : α → β → Prop}
theorem All2.nil : All2 R [] [] := ⟨rfl, by simp⟩
theorem All2.cons {x : α} {y : β} {xs : List α} {ys : List β} (h : R x y) (t : All2 R xs ys) : All2 R (x :: xs) (y :: ys) := by
  refine ⟨by simp [t.1], ?_⟩
  intro i a b ha hb
  cases i with
  | zero => simp at ha hb; subst ha; subst hb; exact h
  | succ i => simp at ha hb; exact t.2 i a b ha hb
theorem All2.mono {R' : α → β → Prop} (hr : ∀ x y, R x y → R' x y) {xs : List α} {ys : List β} (h : All2 R xs ys) : All2 R' xs ys := ⟨h.1, fun i x y hx hy => hr _ _ (h.2 i x y hx hy)⟩
theorem All2.append {xs xs' : List α} {ys ys' : List β} (h : All2 R xs ys) (h' : All2 R xs' ys') : All2 R (xs ++ xs') (ys ++ ys') := by
  refine ⟨by simp [h.1, h'.1], ?_⟩
  intro i a b ha hb
  rw [List.getElem?_append] at ha hb
  rw [h.1] at ha
  by_cases hi : i < ys.length
  · rw [if_pos hi] at ha hb; exact h.2 i a b ha hb
  · rw [if_neg hi] at ha hb; exact h'.2 _ a b ha hb
theorem All2.take (n : Nat) {xs : List α} {ys : List β} (h : All2 R xs ys) : All2 R (xs.take n) (ys.take n) := by
  refine ⟨by simp [h.1], ?_⟩
  intro i a b ha hb
  rw [List.getElem?_take] at ha hb
  by_cases hi : i < n
  · rw [if_pos hi] at ha hb; exact h.2 i a b ha hb
  · rw [if_neg hi] at ha; simp at ha
theorem All2.drop (n : Nat) {xs : List α} {ys : List β} (h : All2 R xs ys) : All2 R (xs.drop n) (ys.drop n) := by
  refine ⟨by simp [h.1], ?_⟩
  intro i a b ha hb
  rw [List.getElem?_drop] at ha hb
  exact h.2 _ a b ha hb
theorem All2.get {xs : List α} {ys : List β} (h : All2 R xs ys) {i : Nat} {y : β} (hy : ys[i]? = some y) : ∃ x, xs[i]? = some x ∧ R x y := by
  have : i < ys.length := by
    rcases Nat.lt_or_ge i ys.length with h' | h'
    · exact h'
    · simp [List.getElem?_eq_none h'] at hy
  have hx : i < xs.length := by rw [h.1]; exact this
  exact ⟨xs[i], List.getElem?_eq_getElem hx, h.2 i _ _ (List.getElem?_eq_getElem hx) hy⟩
end All2
structure RH (s : Sg) (h : Heap) : Prop where
  lt : ∀ b, s.prot b → b < s.w.heap.size
  inj : ∀ k k' b n n', s.ρ k = some (some b, n) → s.ρ k' = some (some b, n') → k = k'
  dead : ∀ k, h k = none → s.ρ k = none
  bound : ∀ k, s.used k → k < s.next
  own : ∀ k c, h k = some c → s.used k ∧ ∃ x, s.ρ k = some (x, c.length) ∧ (x = none → c = []) ∧
    ∀ b, x = some b → ¬ s.prot b ∧ ∃ cs e, s.w.heap[b]? = some (.cells cs e (0, 0)) ∧ c.length ≤ cs.size ∧ All2 (RC s) (cs.toList.take c.length) c
theorem RH.isUsed {s : Sg} {h : Heap} (H : RH s h) {k : Nat} {c : List D} (hk : h k = .some c) : s.used k := (H.own k c hk).1
theorem RH.fresh {s : Sg} {h : Heap} (H : RH s h) {k : Nat} (hk : ¬ s.used k) : h k = .none := by
  cases e : h k with
  | none => rfl
  | some c => exact absurd (H.own k c e).1 hk
theorem RH.next_free {s : Sg} {h : Heap} (H : RH s h) : ¬ s.used s.next := fun hu => Nat.lt_irrefl _ (H.bound _ hu)
theorem RH.block {s : Sg} {h : Heap} (H : RH s h) {k : Nat} {c : List D} (hk : h k = .some c) {b : Nat} {n : Nat} (hb : s.ρ k = .some (.some b, n)) :
    n = c.length ∧ ¬ s.prot b ∧ ∃ cs e, s.w.heap[b]? = .some (.cells cs e (0, 0)) ∧ c.length ≤ cs.size ∧ All2 (RC s) (cs.toList.take c.length) c := by
  obtain ⟨_, x, hx, _, hq⟩ := H.own k c hk
  rw [hb] at hx
  injection hx with hx
  injection hx with h1 h2
  subst h1
  exact ⟨h2, hq b rfl⟩
theorem RH.alloc {s : Sg} {h : Heap} (H : RH s h) (e : Nat) (row : List Value) (c : List D) (hc : All2 (RC s) (row.take c.length) c) (kk : Nat) (hkk : ¬ s.used kk) (w' : World) (hw : w'.heap = s.w.heap.push (.cells row.toArray e (0, 0))) (hso : SameO s.w w') :
    ∃ s' : Sg, s'.w = w' ∧ Ext s s' ∧ RH s' (upd h kk c) ∧ s'.used kk ∧ (∀ k, s'.used k → s.used k ∨ k = kk) ∧
      s'.ρ kk = some (some s.w.heap.size, c.length) ∧ s'.w.heap[s.w.heap.size]? = some (.cells row.toArray e (0, 0)) := by
  have hcl : c.length ≤ row.length := by have := hc.1; simp at this; omega
  let s' : Sg := { w := w', ρ := fun k => if k = kk then some (some s.w.heap.size, c.length) else s.ρ k, prot := s.prot, used := fun k => s.used k ∨ k = kk, next := max s.next (kk + 1) }
  have hold : ∀ b, b < s.w.heap.size → s'.w.heap[b]? = s.w.heap[b]? := by
    intro b hb
    show w'.heap[b]? = _
    rw [hw, Array.getElem?_push]
    rw [if_neg (by omega)]
  have hnew : s'.w.heap[s.w.heap.size]? = some (.cells row.toArray e (0, 0)) := by
    show w'.heap[s.w.heap.size]? = _
    rw [hw]; simp
  have hltb : ∀ b cs e, s.w.heap[b]? = some (.cells cs e (0, 0)) → b < s.w.heap.size := by
    intro b cs e hb
    rcases Nat.lt_or_ge b s.w.heap.size with h' | h'
    · exact h'
    · simp [Array.getElem?_eq_none h'] at hb
  have hx : Ext s s' := by
    refine ⟨by show s.next ≤ max s.next (kk + 1); omega, fun k hk => .inl hk, by show s.w.heap.size ≤ w'.heap.size; rw [hw]; simp, fun b hb => ⟨hb, hold b (H.lt b hb)⟩, ?_, ?_, hso⟩
    · intro k x hk hx
      have hx' : (if k = kk then some (some s.w.heap.size, c.length) else s.ρ k) = some x := hx
      rw [if_neg (fun (e : k = kk) => hkk (by rw [← e]; exact hk))] at hx'
      exact hx'
    · intro k b n cs e' hk hx hb
      exact ⟨cs, (hold b (hltb b cs e' hb)).trans hb, rfl⟩
  have hfr : s.ρ kk = none := H.dead _ (H.fresh hkk)
  refine ⟨s', rfl, hx, ⟨?_, ?_, ?_, ?_, ?_⟩, .inr rfl, fun k hk => hk, by show (if kk = kk then _ else _) = _; simp, hnew⟩
  · intro b hb
    have := H.lt b hb
    show b < w'.heap.size
    rw [hw]; simp; omega
  · intro k k' b n n' h1 h2
    have h1' : (if k = kk then some (some s.w.heap.size, c.length) else s.ρ k) = some (some b, n) := h1
    have h2' : (if k' = kk then some (some s.w.heap.size, c.length) else s.ρ k') = some (some b, n') := h2
    have hother : ∀ k n, s.ρ k = some (some s.w.heap.size, n) → False := by
      intro k n hk
      cases e : h k with
      | none => rw [H.dead k e] at hk; cases hk
      | some c' =>
        obtain ⟨_, _, cs, e', hb, _⟩ := H.block e hk
        have := hltb _ _ _ hb
        omega
    by_cases hk : k = kk <;> by_cases hk' : k' = kk
    · omega
    · rw [if_pos hk] at h1'; rw [if_neg hk'] at h2'
      simp at h1'; obtain ⟨rfl, _⟩ := h1'
      exact (hother _ _ h2').elim
    · rw [if_neg hk] at h1'; rw [if_pos hk'] at h2'
      simp at h2'; obtain ⟨rfl, _⟩ := h2'
      exact (hother _ _ h1').elim
    · rw [if_neg hk] at h1'; rw [if_neg hk'] at h2'
      exact H.inj k k' b n n' h1' h2'
  · intro k hk
    have hk' : (if k = kk then some c else h k) = none := hk
    show (if k = kk then some (some s.w.heap.size, c.length) else s.ρ k) = none
    by_cases e : k = kk
    · rw [if_pos e] at hk'; cases hk'
    · rw [if_neg e] at hk' ⊢; exact H.dead k hk'
  · intro k hk
    show k < max s.next (kk + 1)
    rcases hk with hk | hk
    · have := H.bound k hk; omega
    · omega
  · intro k c' hk
    have hk' : (if k = kk then some c else h k) = some c' := hk
    by_cases e' : k = kk
    · rw [if_pos e'] at hk'
      injection hk' with hk'
      subst hk'
      refine ⟨.inr e', some s.w.heap.size, by show (if k = kk then _ else _) = _; rw [if_pos e'], by simp, ?_⟩
      intro b hb
      injection hb with hb
      subst hb
      refine ⟨fun hp => absurd (H.lt _ hp) (by omega), row.toArray, e, hnew, by simpa using hcl, ?_⟩
      simpa using hc.mono fun _ _ h => h.mono hx
    · rw [if_neg e'] at hk'
      obtain ⟨hlt, x, hx', hn, hq⟩ := H.own k c' hk'
      refine ⟨.inl hlt, x, by show (if k = kk then _ else _) = _; rw [if_neg e']; exact hx', hn, ?_⟩
      intro b hb
      obtain ⟨hp, cs, e2, hb2, hl, hall⟩ := hq b hb
      exact ⟨hp, cs, e2, (hold b (hltb b cs e2 hb2)).trans hb2, hl, hall.mono fun _ _ h => h.mono hx⟩
theorem RH.write {s : Sg} {h : Heap} (H : RH s h) {k : Nat} {c : List D} (hk : h k = .some c) {b n e : Nat} (hb : s.ρ k = .some (.some b, n)) {cs cs' : Array Value}
    (hh : s.w.heap[b]? = .some (.cells cs e (0, 0))) (hsz : cs'.size = cs.size) (w' : World) (hws : w'.heap.size = s.w.heap.size) (hsame : w'.heap[b]? = .some (.cells cs' e (0, 0))) (hoth : ∀ b', b' ≠ b → w'.heap[b']? = s.w.heap[b']?) (c' : List D) (hcl : c'.length = c.length)
    (hc : All2 (RC s) (cs'.toList.take c.length) c') (hso : SameO s.w w') :
    ∃ s' : Sg, s'.w = w' ∧ Ext s s' ∧ RH s' (upd h k c') ∧ s'.ρ = s.ρ ∧ s'.used = s.used := by
  let s' : Sg := { w := w', ρ := s.ρ, prot := s.prot, used := s.used, next := s.next }
  obtain ⟨hnl, hnp, _⟩ := H.block hk hb
  have hx : Ext s s' := by
    refine ⟨Nat.le_refl _, fun _ h => h, by show s.w.heap.size ≤ w'.heap.size; omega, fun b' hb' => ⟨hb', hoth b' (fun h => hnp (h ▸ hb'))⟩, fun _ _ _ h => h, ?_, hso⟩
    intro k' b' n' cs2 e2 hk' hx' hb'
    by_cases hbb : b' = b
    · subst hbb
      rw [hh] at hb'
      injection hb' with hb'
      injection hb' with h1 h2
      subst h1; subst h2
      exact ⟨cs', hsame, hsz⟩
    · exact ⟨cs2, (hoth b' hbb).trans hb', rfl⟩
  refine ⟨s', rfl, hx, ⟨?_, H.inj, ?_, H.bound, ?_⟩, rfl, rfl⟩
  · intro b' hb'
    have := H.lt b' hb'
    show b' < w'.heap.size
    omega
  · intro k' hk'
    have hk2 : (if k' = k then some c' else h k') = none := hk'
    by_cases ek : k' = k
    · rw [if_pos ek] at hk2; cases hk2
    · rw [if_neg ek] at hk2; exact H.dead k' hk2
  · intro k' c2 hk'
    have hk2 : (if k' = k then some c' else h k') = some c2 := hk'
    by_cases ek : k' = k
    · subst ek
      rw [if_pos rfl] at hk2
      injection hk2 with hk2
      subst hk2
      obtain ⟨hl, x, hx', hn, hq⟩ := H.own k' c hk
      rw [hb] at hx'
      injection hx' with hx'
      injection hx' with h1 h2
      subst h1
      refine ⟨hl, some b, by show s.ρ k' = _; rw [hb, hcl, ← h2], by simp, ?_⟩
      intro b2 hb2
      injection hb2 with hb2
      subst hb2
      obtain ⟨hp, cs3, e3, hb3, hl3, _⟩ := hq b rfl
      rw [hh] at hb3
      injection hb3 with hb3
      injection hb3 with h3 h4
      subst h3
      refine ⟨hp, cs', e, hsame, by omega, ?_⟩
      rw [hcl]
      exact hc.mono fun _ _ h => h.mono hx
    · rw [if_neg ek] at hk2
      obtain ⟨hl, x, hx', hn, hq⟩ := H.own k' c2 hk2
      refine ⟨hl, x, hx', hn, ?_⟩
      intro b2 hb2
      subst hb2
      obtain ⟨hp, cs3, e3, hb3, hl3, hall⟩ := hq b2 rfl
      have hne : b2 ≠ b := by
        intro hbb
        subst hbb
        exact ek (H.inj k' k b2 _ _ hx' hb)
      exact ⟨hp, cs3, e3, (hoth b2 hne).trans hb3, hl3, hall.mono fun _ _ h => h.mono hx⟩
theorem RH.drop {s : Sg} {h : Heap} (H : RH s h) (k : Nat) :
    ∃ s' : Sg, s'.w = s.w ∧ Ext s s' ∧ RH s' (del h k) ∧ s'.used = s.used := by
  let s' : Sg := { w := s.w, ρ := fun i => if i = k then none else s.ρ i, prot := s.prot, used := s.used, next := s.next }
  have hρ : ∀ i x, s'.ρ i = some x → i ≠ k ∧ s.ρ i = some x := by
    intro i x hx
    have hx' : (if i = k then none else s.ρ i) = some x := hx
    by_cases e : i = k
    · rw [if_pos e] at hx'; cases hx'
    · rw [if_neg e] at hx'; exact ⟨e, hx'⟩
  have hx : Ext s s' := ⟨Nat.le_refl _, fun _ h => h, Nat.le_refl _, fun _ h => ⟨h, rfl⟩, fun i x _ hx => (hρ i x hx).2, fun _ _ _ cs _ _ _ h => ⟨cs, h, rfl⟩, .refl _⟩
  refine ⟨s', rfl, hx, ⟨H.lt, ?_, ?_, H.bound, ?_⟩, rfl⟩
  · intro k1 k2 b n n' h1 h2
    exact H.inj k1 k2 b n n' (hρ _ _ h1).2 (hρ _ _ h2).2
  · intro i hi
    have hi' : (if i = k then none else h i) = none := hi
    show (if i = k then none else s.ρ i) = none
    by_cases e : i = k
    · rw [if_pos e]
    · rw [if_neg e] at hi' ⊢; exact H.dead i hi'
  · intro i c hi
    have hi' : (if i = k then none else h i) = some c := hi
    by_cases e : i = k
    · rw [if_pos e] at hi'; cases hi'
    · rw [if_neg e] at hi'
      obtain ⟨hl, x, hx', hn, hq⟩ := H.own i c hi'
      refine ⟨hl, x, by show (if i = k then none else s.ρ i) = _; rw [if_neg e]; exact hx', hn, ?_⟩
      intro b hb
      obtain ⟨hp, cs, e2, hb2, hl2, hall⟩ := hq b hb
      exact ⟨hp, cs, e2, hb2, hl2, hall.mono fun _ _ h => h.mono hx⟩
end Go.AM
end
section
/- Each operation of the model does what the abstract machine's operation says. Generic over the program. -/
set_option linter.unusedSimpArgs false
set_option linter.unusedVariables false
namespace Go.AM
section inv
variable {s : Sg} {v : Value}
theorem RV.inv_int {k : IntKind} {n : Int} (h : RV s v (.int k n)) : v = .int k n := by cases h with | pure h => cases h; rfl
theorem RV.inv_bool {b : Bool} (h : RV s v (.bool b)) : v = .bool b := by cases h with | pure h => cases h; rfl
theorem RV.inv_str {x : ByteArray} (h : RV s v (.str x)) : v = .string x := by cases h with | pure h => cases h; rfl
theorem RV.inv_nil (h : RV s v .nil) : v = .slice none 0 0 := by cases h with | pure h => cases h; rfl
theorem RV.inv_emp (h : RV s v .emp) : ∃ a, v = .slice a 0 0 := by cases h with | pure h => cases h; exact ⟨_, rfl⟩
theorem RV.inv_vs {sz len : Nat} {cells : List D} (h : RV s v (.vs sz cells len)) : RP s.w s.prot v (.vs sz cells len) := by cases h with | pure h => exact h
theorem RV.inv_vp {off : Nat} {cells : List D} (h : RV s v (.vp cells off)) : RP s.w s.prot v (.vp cells off) := by cases h with | pure h => exact h
theorem RV.inv_pt {k off : Nat} (h : RV s v (.pt k off)) : s.used k ∧ ∃ b, v = .pointer (some ⟨b, off, none⟩) ∧ ∀ x n, s.ρ k = some (x, n) → x = some b := by
  cases h with
  | pure h => cases h
  | pt b k off hk h => exact ⟨hk, b, rfl, h⟩
theorem RV.inv_sl {k sz off len : Nat} (h : RV s v (.sl k sz off len)) : s.used k ∧ ∃ a cap, v = .slice a len cap ∧ (len ≠ 0 → a ≠ none) ∧ len ≤ cap ∧
    ∀ x n, s.ρ k = some (x, n) → n ≤ off + cap * sz ∧ (cap = 0 ∨ ∃ b cs e, x = some b ∧ a = some ⟨b, off, none⟩ ∧ s.w.heap[b]? = some (.cells cs e (0, 0)) ∧ off + cap * sz ≤ cs.size) := by
  cases h with
  | pure h => cases h
  | sl a k sz off len cap hk hna hlc h => exact ⟨hk, a, cap, rfl, hna, hlc, h⟩
theorem RV.inv_agg {ds : List D} (h : RV s v (.agg ds)) : ∃ cs : Array Value, v = .agg cs ∧ All2 (RC s) cs.toList ds := by
  cases h with
  | pure h =>
    cases h with
    | agg cs ds hl ho hr => exact ⟨cs, rfl, hl, fun i v d hv hd => ⟨.pure (hr i v d hv hd), ho v (List.mem_of_getElem? hv)⟩⟩
  | agg cs ds hl ho hr => exact ⟨cs, rfl, hl, fun i v d hv hd => ⟨hr i v d hv hd, ho v (List.mem_of_getElem? hv)⟩⟩
theorem RV.inv_tup {ds : List D} (h : RV s v (.tup ds)) : ∃ cs : Array Value, v = .tuple cs ∧ All2 (RV s) cs.toList ds := by
  cases h with
  | pure h =>
    cases h with
    | tup cs ds hl hr => exact ⟨cs, rfl, hl, fun i v d hv hd => .pure (hr i v d hv hd)⟩
  | tup cs ds hl hr => exact ⟨cs, rfl, hl, hr⟩
theorem RV.inv_fn {f : Nat} {ds es : List D} (h : RV s v (.fn f ds es)) : ∃ as bs : Array Value, v = .func (.func f) as bs ∧ All2 (RV s) as.toList ds ∧ All2 (RV s) bs.toList es := by
  cases h with
  | pure h =>
    cases h with
    | fn f as bs ds es hl hm hr hs => exact ⟨as, bs, rfl, ⟨hl, fun i v d hv hd => .pure (hr i v d hv hd)⟩, ⟨hm, fun i v d hv hd => .pure (hs i v d hv hd)⟩⟩
  | fn f as bs ds es hl hm hr hs => exact ⟨as, bs, rfl, ⟨hl, hr⟩, ⟨hm, hs⟩⟩
theorem RV.mkagg {cs : Array Value} {ds : List D} (h : All2 (RC s) cs.toList ds) : RV s (.agg cs) (.agg ds) := by
  refine .agg cs ds h.1 ?_ (fun i v d hv hd => (h.2 i v d hv hd).1)
  intro v hv
  obtain ⟨i, hi⟩ := List.mem_iff_getElem?.1 hv
  have hlt : i < cs.toList.length := by
    rcases Nat.lt_or_ge i cs.toList.length with h' | h'
    · exact h'
    · simp [List.getElem?_eq_none h'] at hi
  have hd : ds[i]? = some (ds[i]'(by rw [← h.1]; exact hlt)) := List.getElem?_eq_getElem _
  exact (h.2 i v _ hi hd).2
theorem RV.mktup {cs : Array Value} {ds : List D} (h : All2 (RV s) cs.toList ds) : RV s (.tuple cs) (.tup ds) := .tup cs ds h.1 h.2
theorem RV.mkfn {f : Nat} {as bs : Array Value} {ds es : List D} (h : All2 (RV s) as.toList ds) (h' : All2 (RV s) bs.toList es) : RV s (.func (.func f) as bs) (.fn f ds es) := .fn f as bs ds es h.1 h'.1 h.2 h'.2
theorem RV.one {d : D} (h : RV s v d) (hd : cellsD d = some [d]) : v.oneCell' = true := by
  cases h with
  | pure h => cases h <;> first | rfl | (simp [cellsD] at hd; done) | (simp [cellsD] at hd; have h2 := congrArg (fun l : List D => SizeOf.sizeOf l) hd; simp at h2; omega)
  | sl => rfl
  | pt => rfl
  | agg => simp [cellsD] at hd; have h2 := congrArg (fun l : List D => SizeOf.sizeOf l) hd; simp at h2; omega
  | tup => simp [cellsD] at hd
  | fn => rfl
theorem cellsD_not_agg {d : D} {c : List D} (h : cellsD d = some c) (hn : ∀ ds, d ≠ .agg ds) : c = [d] := by
  cases d <;> simp [cellsD] at h <;> first | exact h.symm | exact absurd rfl (hn _)
theorem RV.cells {d : D} {c : List D} (h : RV s v d) (hd : cellsD d = some c) : All2 (RC s) v.cells.toList c := by
  by_cases ha : ∃ ds, d = .agg ds
  · obtain ⟨ds, rfl⟩ := ha
    obtain ⟨cs, rfl, hall⟩ := h.inv_agg
    simp [cellsD] at hd
    subst hd
    exact hall
  · have hc : c = [d] := cellsD_not_agg hd (fun ds e => ha ⟨ds, e⟩)
    subst hc
    have h1 := h.one hd
    have hv : v.cells = #[v] := by cases v <;> first | rfl | (simp [Value.oneCell'] at h1)
    rw [hv]
    exact All2.cons ⟨h, h1⟩ All2.nil
end inv
def RE (s : Sg) (e : Look) (tmps : Array Value) : Prop := ∀ t d, e t = some d → RV s (tmps.getD t undef) d
theorem RE.mono {s s' : Sg} (hx : Ext s s') {e : Look} {tmps : Array Value} (h : RE s e tmps) : RE s' e tmps := fun t d hd => (h t d hd).mono hx
theorem RE.norm {s : Sg} {e : Env} {tmps : Array Value} (h : RE s (get e) tmps) (keep : List Nat) : RE s (get (norm keep e)) tmps := by
  intro t d hd
  induction keep with
  | nil => simp [AM.norm, get] at hd
  | cons a r ih =>
    simp only [AM.norm] at hd
    cases hg : get e a with
    | none => rw [hg] at hd; exact ih hd
    | some x =>
      rw [hg] at hd
      simp only [get] at hd
      by_cases hat : a = t
      · rw [if_pos hat] at hd
        injection hd with hd
        subst hd; subst hat
        exact h _ _ hg
      · rw [if_neg hat] at hd; exact ih hd
theorem RE.put {s : Sg} {e : Look} {a : Act} (h : RE s e a.tmps) {t : Nat} (ht : t < a.tmps.size) {v : Value} {d : D} (hv : RV s v d) : RE s (fun t' => if t = t' then some d else e t') (a.put (some t) v).tmps := by
  intro t' d' hd0
  have hd : (if t = t' then some d else e t') = some d' := hd0
  show RV s ((a.tmps.setIfInBounds t v).getD t' undef) d'
  by_cases htt : t = t'
  · rw [if_pos htt] at hd
    injection hd with hd
    subst hd; subst htt
    simpa [Array.getD_eq_getD_getElem?, ht] using hv
  · rw [if_neg htt] at hd
    have := h t' d' hd
    rw [Array.getD_eq_getD_getElem?] at this ⊢
    rw [Array.getElem?_setIfInBounds, if_neg htt]
    exact this
theorem ofScalar_rp {v : Value} {d : D} (h : ofScalar v = some d) (w : World) (prot : Nat → Prop) : RP w prot v d ∧ v.oneCell' = true := by
  unfold ofScalar at h
  split at h <;> first | (injection h with h; subst h; exact ⟨by constructor, rfl⟩) | (cases h)
theorem ofScalars_rp {vs : List Value} : ∀ {ds : List D}, ofScalars vs = some ds → ∀ (s : Sg), All2 (RC s) vs ds := by
  induction vs with
  | nil => intro ds h s; simp [ofScalars] at h; subst h; exact All2.nil
  | cons v r ih =>
    intro ds h s
    simp only [ofScalars] at h
    cases h1 : ofScalar v with
    | none => rw [h1] at h; cases h
    | some d =>
      cases h2 : ofScalars r with
      | none => rw [h1, h2] at h; cases h
      | some l =>
        rw [h1, h2] at h
        injection h with h
        subst h
        exact All2.cons ⟨.pure (ofScalar_rp h1 _ _).1, (ofScalar_rp h1 s.w s.prot).2⟩ (ih h2 s)
theorem ofConst_rv {v : Value} {d : D} (h : ofConst v = some d) (s : Sg) : RV s v d := by
  unfold ofConst at h
  split at h
  · rename_i cs
    cases h1 : ofScalars cs.toList with
    | none => rw [h1] at h; cases h
    | some l =>
      rw [h1] at h
      simp at h
      subst h
      exact RV.mkagg (ofScalars_rp h1 s)
  · exact .pure (ofScalar_rp h _ _).1
section
variable {P : Program} {s : Sg} {e : Look} {a : Act}
theorem cO_sim {x : Operand} {o : O} (hc : cO x = some o) (E : RE s e a.tmps) {d : D} (he : evO e o = some d) : RV s (a.eval x) d := by
  cases x with
  | tmp t => simp [cO] at hc; subst hc; exact E t d he
  | const v =>
    simp only [cO] at hc
    cases h1 : ofConst v with
    | none => rw [h1] at hc; cases hc
    | some d' => rw [h1] at hc; simp at hc; subst hc; simp [evO] at he; subst he; exact ofConst_rv h1 s
  | func f => simp [cO] at hc; subst hc; simp [evO] at he; subst he; exact RV.mkfn All2.nil All2.nil
  | global g => simp [cO] at hc
theorem cOs_sim : ∀ {xs : List Operand} {os : List O}, cOs xs = some os → RE s e a.tmps → ∀ {ds : List D}, evOs e os = some ds → All2 (RV s) (xs.map a.eval) ds
  | [], os, hc, _, ds, he => by simp [cOs] at hc; subst hc; simp [evOs] at he; subst he; exact All2.nil
  | x :: r, os, hc, E, ds, he => by
    simp only [cOs] at hc
    cases h1 : cO x with
    | none => rw [h1] at hc; cases hc
    | some y =>
      cases h2 : cOs r with
      | none => rw [h1, h2] at hc; cases hc
      | some l =>
        rw [h1, h2] at hc
        injection hc with hc
        subst hc
        simp only [evOs] at he
        cases h3 : evO e y with
        | none => rw [h3] at he; cases he
        | some d =>
          cases h4 : evOs e l with
          | none => rw [h3, h4] at he; cases he
          | some m =>
            rw [h3, h4] at he
            injection he with he
            subst he
            exact All2.cons (cO_sim h1 E h3) (cOs_sim h2 E h4)
end
def Good (s : Sg) (kk : Nat) (r : Result Next) (d : D) (h' : Heap) : Prop :=
  ∃ v s', (r = .ok (.value v) s'.w ∨ (r = .ok .skip s'.w ∧ v = undef)) ∧ Ext s s' ∧ RH s' h' ∧ RV s' v d ∧ ∀ k, s'.used k → s.used k ∨ k = kk
theorem Good.same {s : Sg} {h : Heap} (H : RH s h) {r : Result Next} {v : Value} {d : D} (hr : r = .ok (.value v) s.w) {kk : Nat} (hv : RV s v d) : Good s kk r d h := ⟨v, s, .inl hr, .refl s, H, hv, fun _ h => .inl h⟩
/-! ### Types -/
section
variable {P : Program}
theorem szOf_run {t n : Nat} (h : szOf P t = some n) (w : World) : (sizeOf t).run P w = .ok n w := by
  unfold szOf at h
  split at h
  · rename_i i hi; injection h with h; subst h; simp [sizeOf, typeInfo, hi]
  · cases h
theorem aggOf_run {t : Nat} {g : Bool} (h : aggOf P t = some g) (w : World) : (isAgg t).run P w = .ok g w := by
  unfold aggOf at h
  unfold isAgg
  simp only [Sem.run_bind]
  split at h
  · rename_i hu; injection h with h; subst h; simp [run_underlying hu]
  · rename_i hu; injection h with h; subst h; simp [run_underlying hu]
  · rename_i d hne1 hne2 hu
    injection h with h; subst h
    rw [run_underlying hu]
    simp only [Result.andThen_ok]
    rfl
  · cases h
theorem zeroOf_run {t : Nat} {z : List D} (h : zeroOf P t = some z) (w : World) : ∃ v, (zeroValue t).run P w = .ok v w ∧ ofScalars v.cells.toList = some z := by
  unfold zeroOf at h
  split at h
  · rename_i i hi
    split at h
    · rename_i v hv; exact ⟨v, by simp [zeroValue, typeInfo, hi, hv], h⟩
    · cases h
  · cases h
end
/-! ### Cells -/
theorem loadCellsFrom_list {P : Program} {w : World} (a : Addr) : ∀ (vs : List Value) (i : Nat) (acc : Array Value), (∀ (j : Nat) (v : Value), vs[j]? = some v → w.cell? (a.add (i + j)) = some v) →
    (loadCellsFrom a i vs.length acc).run P w = .ok (acc ++ vs.toArray) w
  | [], i, acc, _ => by simp [loadCellsFrom]
  | v :: r, i, acc, h => by
    have h0 := h 0 v (by simp)
    simp only [Nat.add_zero] at h0
    simp only [List.length_cons, loadCellsFrom, Sem.run_bind, run_load, h0, Result.andThen_ok]
    rw [loadCellsFrom_list a r (i + 1) (acc.push v) (fun j u hj => by have := h (j + 1) u (by simpa using hj); rwa [show i + (j + 1) = i + 1 + j by omega] at this)]
    simp
theorem loadCells_list {P : Program} {w : World} (a : Addr) (vs : List Value) (n : Nat) (hn : n = vs.length) (h : ∀ (j : Nat) (v : Value), vs[j]? = some v → w.cell? (a.add j) = some v) :
    (loadCells a n).run P w = .ok vs.toArray w := by
  subst hn
  unfold loadCells
  rw [loadCellsFrom_list a vs 0 #[] (fun j v hj => by simpa using h j v hj)]
  simp
theorem add_plain (b o n : Nat) : (⟨b, o, none⟩ : Addr).add n = ⟨b, o + n, none⟩ := by unfold Addr.add; split <;> simp_all
def CellsAt (w : World) (b o : Nat) (vs : List Value) : Prop := ∀ (i : Nat) (v : Value), vs[i]? = some v → w.cell? ⟨b, o + i, none⟩ = some v
theorem CellsAt.sub {w : World} {b o : Nat} {vs : List Value} (h : CellsAt w b o vs) (off n : Nat) : CellsAt w b (o + off) ((vs.drop off).take n) := by
  intro i v hi
  rw [List.getElem?_take] at hi
  split at hi
  · rw [List.getElem?_drop] at hi
    rw [Nat.add_assoc]
    exact h _ v hi
  · cases hi
theorem CellsAt.load {P : Program} {w : World} {b o : Nat} {vs : List Value} (h : CellsAt w b o vs) (n : Nat) (hn : n = vs.length) : (loadCells ⟨b, o, none⟩ n).run P w = .ok vs.toArray w :=
  loadCells_list _ vs n hn (fun j v hj => by rw [add_plain]; exact h j v hj)
theorem cellsAt_block {w : World} {b : Nat} {cs : Array Value} {e : Nat} {fr : Nat × Nat} (h : w.heap[b]? = some (.cells cs e fr)) : CellsAt w b 0 cs.toList := by
  intro i v hi
  simp only [World.cell?, h, Nat.zero_add]
  simpa using hi
theorem memAt_sim {s : Sg} {h : Heap} (H : RH s h) {v : Value} {d : D} (hv : RV s v d) {c : List D} {off : Nat} (hm : memAt h d = some (c, off)) (hne : off < c.length) :
    ∃ b o cs, v = .pointer (some ⟨b, o + off, none⟩) ∧ CellsAt s.w b o cs ∧ All2 (RC s) cs c := by
  unfold memAt at hm
  split at hm
  · rename_i cells off'
    simp at hm
    obtain ⟨rfl, rfl⟩ := hm
    cases hv.inv_vp with
    | vp b off o cells cs hb hcs ho hmm hr => exact ⟨b, o, cs, rfl, hmm, hcs, fun i v d h1 h2 => ⟨.pure (hr i v d h1 h2), ho v (List.mem_of_getElem? h1)⟩⟩
  · rename_i k off'
    split at hm
    · rename_i c' hk
      simp at hm
      obtain ⟨rfl, rfl⟩ := hm
      obtain ⟨_, b, rfl, hq⟩ := hv.inv_pt
      obtain ⟨_, x, hx, hn, hb⟩ := H.own k _ hk
      have hxb := hq x _ hx
      subst hxb
      obtain ⟨_, cs, e, hh, hl, hall⟩ := hb b rfl
      refine ⟨b, 0, cs.toList.take c'.length, by simp, ?_, hall⟩
      intro i v hi
      rw [List.getElem?_take] at hi
      split at hi
      · exact cellsAt_block hh i v hi
      · cases hi
    · cases hm
  · cases hm
end Go.AM
end
section
/- The simulation of single operations, first part: what makes no memory and writes none. Generic over the program. -/
set_option linter.unusedSimpArgs false
set_option linter.unusedVariables false
namespace Go.AM
section
variable {P : Program} {s : Sg} {e : Look} {a : Act} {h h' : Heap} {o : Oper} {ao : AOp} {d : D} {kk : Nat}
theorem sim_move {x : Operand} (ho : o.op = .move x ∨ o.op = .assign x) (hc : (cO x).map AOp.mv = some ao) (H : RH s h) (E : RE s e a.tmps) (hev : evOp e h kk ao = some (d, h')) :
    Good s kk ((execOp a.eval o).run P s.w) d h' := by
  cases h1 : cO x with
  | none => rw [h1] at hc; cases hc
  | some y =>
    rw [h1] at hc; simp at hc; subst hc
    simp only [evOp] at hev
    split at hev
    · rename_i d0 h2
      injection hev with hev; injection hev with h3 h4; subst h3; subst h4
      refine Good.same H (v := a.eval x) ?_ (cO_sim h1 E h2)
      rcases ho with ho | ho <;> simp [execOp, ho]
    · cases hev
theorem sim_pick {c x y : Operand} (ho : o.op = .pick c x y) (hc : cOp P (.pick c x y) = some ao) (H : RH s h) (E : RE s e a.tmps) (hev : evOp e h kk ao = some (d, h')) :
    Good s kk ((execOp a.eval o).run P s.w) d h' := by
  simp only [cOp] at hc
  split at hc
  · rename_i c' a' b' h1 h2 h3
    injection hc with hc; subst hc
    simp only [evOp] at hev
    split at hev
    · rename_i t h4
      have hb := (cO_sim h1 E h4).inv_bool
      split at hev
      · rename_i d0 h5
        injection hev with hev; injection hev with h6 h7; subst h6; subst h7
        cases t
        · refine Good.same H (v := a.eval y) ?_ (cO_sim h3 E (by simpa using h5))
          simp [execOp, ho, hb, asBool]
        · refine Good.same H (v := a.eval x) ?_ (cO_sim h2 E (by simpa using h5))
          simp [execOp, ho, hb, asBool]
      · cases hev
    · cases hev
  · cases hc
theorem ldD_sim {g : Bool} {n off : Nat} {c : List D} {d : D} (hld : ldD g n c off = some d) {s : Sg} {cs : List Value} (hall : All2 (RC s) cs c) (hn : g = false → n = 1) :
    off + n ≤ c.length ∧ (g = true → ∃ ds, d = .agg ds ∧ All2 (RC s) ((cs.drop off).take n) ds) ∧ (g = false → ∃ v, cs[off]? = some v ∧ RC s v d) := by
  unfold ldD at hld
  cases g
  · simp at hld
    have hlt : off < c.length := by
      rcases Nat.lt_or_ge off c.length with h' | h'
      · exact h'
      · simp [List.getElem?_eq_none h'] at hld
    have := hn rfl
    refine ⟨by omega, by simp, fun _ => ?_⟩
    exact hall.get hld
  · simp at hld
    obtain ⟨h1, h2⟩ := hld
    subst h2
    exact ⟨h1, fun _ => ⟨_, rfl, (hall.drop off).take n⟩, by simp⟩
theorem sim_load {t : Nat} {x : Operand} (ho : o.op = .load t x) (hc : cOp P (.load t x) = some ao) (H : RH s h) (E : RE s e a.tmps) (hev : evOp e h kk ao = some (d, h')) :
    Good s kk ((execOp a.eval o).run P s.w) d h' := by
  simp only [cOp] at hc
  split at hc
  · rename_i n g y h1 h2 h3
    split at hc
    · rename_i hgn
      injection hc with hc; subst hc
      simp only [evOp] at hev
      split at hev
      · rename_i c off h4
        split at hev
        · rename_i d0 h5
          injection hev with hev; injection hev with h6 h7; subst h6; subst h7
          cases h8 : evO e y with
          | none => rw [h8] at h4; cases h4
          | some da =>
            rw [h8] at h4
            have hn1 : g = false → n = 1 := by rintro rfl; simpa using hgn
            have hnp : 0 < n := by
              cases g
              · have := hn1 rfl; omega
              · simp at hgn; rcases hgn with h | h <;> omega
            have hlen : off < c.length := by
              unfold ldD at h5
              cases g
              · simp at h5
                rcases Nat.lt_or_ge off c.length with h' | h'
                · exact h'
                · simp [List.getElem?_eq_none h'] at h5
              · simp at h5; omega
            obtain ⟨b, oo, cs, hv, hat, hall⟩ := memAt_sim H (cO_sim h3 E h8) h4 hlen
            obtain ⟨hle, hagg, hone⟩ := ldD_sim h5 hall hn1
            cases g
            · obtain ⟨v, hcv, hr⟩ := hone rfl
              refine Good.same H (v := v) ?_ hr.1
              have hcell := hat off v hcv
              simp [execOp, ho, hv, Instr.loadAt, Instr.sureAddr, loadVar, aggOf_run h2, hcell]
            · obtain ⟨ds, rfl, hds⟩ := hagg rfl
              refine Good.same H (v := .agg ((cs.drop off).take n).toArray) ?_ (RV.mkagg (by simpa using hds))
              have hld := (hat.sub off n).load (P := P) n (by have := hall.1; simp; omega)
              simp [execOp, ho, hv, Instr.loadAt, Instr.sureAddr, loadVar, aggOf_run h2, szOf_run h1, hld]
        · cases hev
      · cases hev
    · cases hc
  · cases hc
theorem sim_nilck {x : Operand} (ho : o.op = .nilCheck x) (hc : cOp P (.nilCheck x) = some ao) (H : RH s h) (E : RE s e a.tmps) (hev : evOp e h kk ao = some (d, h')) :
    Good s kk ((execOp a.eval o).run P s.w) d h' := by
  simp only [cOp] at hc
  cases h1 : cO x with
  | none => rw [h1] at hc; cases hc
  | some y =>
    rw [h1] at hc; simp at hc; subst hc
    simp only [evOp] at hev
    split at hev
    · rename_i c off h2
      injection hev with hev; injection hev with h6 h7; subst h6; subst h7
      have hr := cO_sim h1 E h2
      have hi := hr.inv_vp
      generalize hv : a.eval x = v at hr hi
      cases hi with
      | vp b off o' cells cs hb hcs ho' hm hrr => exact Good.same H (v := _) (by simp [execOp, ho, hv]) hr
    · rename_i k off h2
      injection hev with hev; injection hev with h6 h7; subst h6; subst h7
      have hr := cO_sim h1 E h2
      obtain ⟨_, b, hv, _⟩ := hr.inv_pt
      refine Good.same H (v := a.eval x) ?_ hr
      simp [execOp, ho, hv]
    · rename_i f fs cs h2
      injection hev with hev; injection hev with h6 h7; subst h6; subst h7
      have hr := cO_sim h1 E h2
      obtain ⟨as, bs, hv, _, _⟩ := hr.inv_fn
      refine Good.same H (v := a.eval x) ?_ hr
      simp [execOp, ho, hv]
    · cases hev
theorem b2i_run {op : BinOp} {k : IntKind} {x y r : Int} (hr : b2i op k x y = some r) (w : World) :
    (match op with
      | .add | .sub | .mul => Op.intArith op k x y
      | .quo | .rem => Op.intDiv op k x y
      | .and | .or | .xor | .andNot => Op.intBits op k x y
      | _ => Op.intCmp op x y).run P w = .ok (.int k r) w := by
  cases op <;> simp [b2i] at hr <;> first
    | (subst hr; simp [Op.intArith]; done)
    | (obtain ⟨h1, h2⟩ := hr; subst h2; simp [Op.intDiv, h1]; done)
    | (subst hr; simp [Op.intBits]; done)
theorem cmpI_run {op : BinOp} {x y : Int} {r : Bool} (hr : cmpI op x y = some r) (w : World) : (Op.intCmp op x y).run P w = .ok (.bool r) w := by
  cases op <;> simp [cmpI] at hr <;> (subst hr; simp [Op.intCmp])
theorem binD_run {op : BinOp} {va vb : Value} {x y d : D} (hx : RV s va x) (hy : RV s vb y) (hb : binD op x y = some d) (t : Nat) (w : World) :
    ∃ v, (Go.binOp op t va vb).run P w = .ok v w ∧ RV s v d := by
  unfold binD at hb
  split at hb
  · rename_i k a k' b
    have h1 := hx.inv_int; have h2 := hy.inv_int
    subst h1; subst h2
    split at hb
    · cases hs : shI .shl k a b with
      | none => rw [hs] at hb; cases hb
      | some r =>
        rw [hs] at hb; simp at hb; subst hb
        refine ⟨.int k r, ?_, .pure (.int _ _)⟩
        simp only [shI] at hs
        split at hs
        · cases hs
        · rename_i hlt; injection hs with hs; subst hs; simp [Go.binOp, Op.shift, hlt]
    · cases hs : shI .shr k a b with
      | none => rw [hs] at hb; cases hb
      | some r =>
        rw [hs] at hb; simp at hb; subst hb
        refine ⟨.int k r, ?_, .pure (.int _ _)⟩
        simp only [shI] at hs
        split at hs
        · cases hs
        · rename_i hlt; injection hs with hs; subst hs; simp [Go.binOp, Op.shift, hlt]
    all_goals try (
      split at hb
      · rename_i hk
        subst hk
        first
        | (cases hs : b2i _ k a b with
            | none => rw [hs] at hb; cases hb
            | some r =>
              rw [hs] at hb; simp at hb; subst hb
              refine ⟨.int k r, ?_, .pure (.int _ _)⟩
              have := b2i_run (P := P) hs w
              simpa [Go.binOp] using this)
      · cases hb)
    · rename_i h1 h2 h3 h4 h5 h6 h7 h8 h9 h10 h11
      split at hb
      · rename_i hk
        subst hk
        cases hs : cmpI op a b with
        | none => rw [hs] at hb; cases hb
        | some r =>
          rw [hs] at hb; simp at hb; subst hb
          refine ⟨.bool r, ?_, .pure (.bool _)⟩
          have := cmpI_run (P := P) hs w
          cases op <;> simp [cmpI] at hs <;> simpa [Go.binOp] using this
      · cases hb
  · rename_i x y
    have h1 := hx.inv_str; have h2 := hy.inv_str
    subst h1; subst h2
    split at hb
    · injection hb with hb; subst hb
      exact ⟨_, by simp [Go.binOp, Op.stringOp], .pure (.bool _)⟩
    · injection hb with hb; subst hb
      exact ⟨_, by simp [Go.binOp, Op.stringOp], .pure (.bool _)⟩
    · cases hb
  · cases hb
theorem eqGuard_plain {op : BinOp} {t : Nat} {x y : Operand} {u v : Value} (h1 : u ≠ .nilIface ∨ v ≠ .nilIface) (h2 : (∀ c, u ≠ .agg c) ∨ (∀ c, v ≠ .agg c)) (w : World) :
    (eqGuard op t x y u v).run P w = .ok () w := by
  have key : ∀ A B : Sem Unit, (match u, v with | .nilIface, .nilIface => A | .agg _, .agg _ => B | _, _ => pure ()).run P w = .ok () w := by
    intro A B
    split
    · rcases h1 with h | h <;> exact absurd rfl h
    · rename_i c1 c2; rcases h2 with h | h <;> exact absurd rfl (h _)
    · rfl
  unfold eqGuard
  cases op <;> first | rfl | (simp only [Bool.not_true, Bool.false_eq_true, if_false, Bool.not_eq_true, reduceIte]; split <;> first | rfl | (rcases h1 with h | h <;> exact absurd rfl h) | (rcases h2 with h | h <;> exact absurd rfl (h _)))
end
end Go.AM
end
section
/- The simulation of single operations, second part: operators, parts of values, addresses. Generic over the program. -/
set_option linter.unusedSimpArgs false
set_option linter.unusedVariables false
namespace Go.AM
section
variable {P : Program} {s : Sg} {e : Look} {a : Act} {h h' : Heap} {o : Oper} {ao : AOp} {d : D} {kk : Nat}
theorem tagOf_cases {t n : Nat} (ht : tagOf P t = some n) : (n = 0 ∧ P.underlying t = some .bool) ∨ (n = 1 ∧ ∃ k, P.underlying t = some (.int k)) ∨ (n = 2 ∧ P.underlying t = some .string) := by
  unfold tagOf at ht
  split at ht
  · rename_i hu; injection ht with ht; exact .inl ⟨ht.symm, hu⟩
  · rename_i k hu; injection ht with ht; exact .inr (.inl ⟨ht.symm, k, hu⟩)
  · rename_i hu; injection ht with ht; exact .inr (.inr ⟨ht.symm, hu⟩)
  · cases ht
theorem eqD_run {t n : Nat} (ht : tagOf P t = some n) {x y : D} {r : Bool} (hr : eqD n x y = some r) {u v : Value} (hu : RV s u x) (hv : RV s v y) (k : Nat) (w : World) :
    (Op.equalIn (k + 1) t u v).run P w = .ok r w := by
  unfold eqD at hr
  rcases tagOf_cases ht with ⟨rfl, h⟩ | ⟨rfl, kk, h⟩ | ⟨rfl, h⟩
  · split at hr <;> simp_all
    rename_i a b
    have h1 := hu.inv_bool; have h2 := hv.inv_bool
    subst h1; subst h2
    simpa [Op.equalIn, run_underlying h] using hr
  · split at hr <;> simp_all
    rename_i k1 a k2 b
    have h1 := hu.inv_int; have h2 := hv.inv_int
    subst h1; subst h2
    obtain ⟨rfl, hr⟩ := hr
    simpa [Op.equalIn, run_underlying h] using hr
  · split at hr <;> simp_all
    rename_i a b
    have h1 := hu.inv_str; have h2 := hv.inv_str
    subst h1; subst h2
    rw [run_equalIn_string w k t a b h, ← hr]
theorem eqFields_flat : ∀ (fs : List Field) (i : Nat) (tags : List Nat), flatFs P i fs = some tags → ∀ (xs ys : Array Value) (ds es : List D), All2 (RC s) (xs.toList.drop i) ds → All2 (RC s) (ys.toList.drop i) es →
    ∀ (t : Bool), eqL tags ds es = some t → ∀ (k : Nat) (w : World), (Op.eqFields (k + 1) xs ys fs).run P w = .ok t w
  | [], i, tags, hf, xs, ys, ds, es, hx, hy, t, ht, k, w => by
    simp [flatFs] at hf
    subst hf
    unfold eqL at ht
    split at ht <;> simp_all [Op.eqFields]
  | f :: fs, i, tags, hf, xs, ys, ds, es, hx, hy, t, ht, k, w => by
    simp only [flatFs] at hf
    split at hf
    · rename_i hfo
      obtain ⟨hoff, hname⟩ := hfo
      split at hf
      · rename_i tg l h1 h2
        injection hf with hf
        subst hf
        unfold eqL at ht
        split at ht
        · rename_i heq; cases heq
        · rename_i tg' l' d0 ds' e0 es' heq
          injection heq with heq1 heq2
          subst heq1; subst heq2
          split at ht
          · rename_i p q hp hq
            injection ht with ht
            have hxi : ∃ v, xs[i]? = some v ∧ RC s v d0 := by
              obtain ⟨v, hv, hr⟩ := hx.get (i := 0) (y := d0) (by simp)
              exact ⟨v, by simpa [List.getElem?_drop] using hv, hr⟩
            have hyi : ∃ v, ys[i]? = some v ∧ RC s v e0 := by
              obtain ⟨v, hv, hr⟩ := hy.get (i := 0) (y := e0) (by simp)
              exact ⟨v, by simpa [List.getElem?_drop] using hv, hr⟩
            obtain ⟨u, hu, hru⟩ := hxi
            obtain ⟨v, hv, hrv⟩ := hyi
            have hagg : ∀ w, (isAgg f.type).run P w = .ok false w := by
              intro w
              rcases tagOf_cases h1 with ⟨_, h⟩ | ⟨_, kk, h⟩ | ⟨_, h⟩ <;> simp [isAgg, run_underlying h]
            have hpx : ∀ w, (part f.type xs f.offset).run P w = .ok u w := by intro w; simp [part, hagg, hoff, hu]
            have hpy : ∀ w, (part f.type ys f.offset).run P w = .ok v w := by intro w; simp [part, hagg, hoff, hv]
            have hq1 := eqD_run h1 hp hru.1 hrv.1 k w
            have hdrop : ∀ (zs : Array Value) (gs : List D) (g0 : D), All2 (RC s) (zs.toList.drop i) (g0 :: gs) → All2 (RC s) (zs.toList.drop (i + 1)) gs := by
              intro zs gs g0 hz
              have := hz.drop 1
              simpa [List.drop_drop, Nat.add_comm] using this
            have ih := eqFields_flat fs (i + 1) l h2 xs ys ds' es' (hdrop _ _ _ hx) (hdrop _ _ _ hy) q hq k w
            simp only [Op.eqFields, if_pos hname, Sem.run_bind, hpx, hpy, hq1, Result.andThen_ok, Sem.run_ite, ih]
            subst ht
            cases p <;> simp
          · cases ht
        · cases ht
      · cases hf
    · cases hf
theorem eqNil_run (k : Nat) {t te : Nat} (hu : P.underlying t = some (.slice te)) (b : Option Addr) (len cap : Nat) (w : World) :
    (Op.equalIn (k + 1) t (.slice b len cap) (.slice none 0 0)).run P w = .ok b.isNone w := by
  cases b <;> simp [Op.equalIn, run_underlying hu]
theorem run_v {S : Sem Value} {w w' : World} {v : Value} (hS : S.run P w = .ok v w') : (do let x ← S; pure (Next.value x) : Sem Next).run P w = .ok (.value v) w' := by simp [hS]
theorem sim_bin {op : BinOp} {t : Nat} {x y : Operand} {yt : Nat} (ho : o.op = .binOp op t x y yt) (hc : cOp P (.binOp op t x y yt) = some ao) (H : RH s h) (E : RE s e a.tmps)
    (hev : evOp e h kk ao = some (d, h')) : Good s kk ((execOp a.eval o).run P s.w) d h' := by
  have hrun : ∀ v, (do eqGuard op t x y (a.eval x) (a.eval y); Go.binOp op t (a.eval x) (a.eval y) : Sem Value).run P s.w = .ok v s.w → (execOp a.eval o).run P s.w = .ok (.value v) s.w := by
    intro v hv
    simp only [execOp, ho]
    exact run_v hv
  simp only [cOp, cBin] at hc
  split at hc
  · rename_i x' y' hx hy
    -- scalars
    have scalar : ∀ dx dy d1, evO e x' = some dx → evO e y' = some dy → binD op dx dy = some d1 → d = d1 → h' = h → Good s kk ((execOp a.eval o).run P s.w) d h' := by
      intro dx dy d1 h1 h2 h3 h4 h5
      subst h4; subst h5
      have rx := cO_sim hx E h1
      have ry := cO_sim hy E h2
      obtain ⟨v, hv, hr⟩ := binD_run (P := P) rx ry h3 t s.w
      refine Good.same H (hrun v ?_) hr
      have hg : (eqGuard op t x y (a.eval x) (a.eval y)).run P s.w = .ok () s.w := by
        unfold binD at h3
        split at h3
        · have := rx.inv_int
          exact eqGuard_plain (.inl (by rw [this]; simp)) (.inl (by rw [this]; simp)) _
        · have := rx.inv_str
          exact eqGuard_plain (.inl (by rw [this]; simp)) (.inl (by rw [this]; simp)) _
        · cases h3
      simp only [Sem.run_bind, hg, Result.andThen_ok, hv]
    have bool : ∀ neg : Bool, (op = if neg then .neq else .eql) → P.underlying t = some .bool → (match evO e x', evO e y' with | some (.bool a), some (.bool b) => some (D.bool (if neg then !(a == b) else a == b), h) | _, _ => none) = some (d, h') → Good s kk ((execOp a.eval o).run P s.w) d h' := by
      intro neg hop hu h1
      split at h1
      · rename_i p q hp hq
        injection h1 with h1; injection h1 with h2 h3; subst h2; subst h3
        have rx := (cO_sim hx E hp).inv_bool
        have ry := (cO_sim hy E hq).inv_bool
        refine Good.same H (hrun _ ?_) (.pure (.bool _))
        have hg := eqGuard_plain (P := P) (op := op) (t := t) (x := x) (y := y) (u := a.eval x) (v := a.eval y) (.inl (by rw [rx]; simp)) (.inl (by rw [rx]; simp)) s.w
        have he : (Op.equal t (.bool p) (.bool q)).run P s.w = .ok (p == q) s.w := run_equalIn_bool' s.w 9999 t p q hu
        simp only [Sem.run_bind, hg, Result.andThen_ok]
        rw [rx, ry]
        cases neg <;> simp at hop <;> subst hop <;> simp [Go.binOp, he]
      · cases h1
    have aggr : ∀ (neg : Bool) (fs : Array Field) (tags : List Nat), (op = if neg then .neq else .eql) → P.underlying t = some (.struct fs) → flatFs P 0 fs.toList = some tags → P.stoodInHeld t = false → P.eqGuardType P.depth t = false →
        (match evO e x', evO e y' with | some (.agg a), some (.agg b) => (match eqL tags a b with | some t => some (D.bool (if neg then !t else t), h) | none => none) | _, _ => none) = some (d, h') → Good s kk ((execOp a.eval o).run P s.w) d h' := by
      intro neg fs tags hop hu hfl hst hgd h1
      split at h1
      · rename_i p q hp hq
        split at h1
        · rename_i r hr
          injection h1 with h1; injection h1 with h2 h3; subst h2; subst h3
          obtain ⟨cx, rx, ax⟩ := (cO_sim hx E hp).inv_agg
          obtain ⟨cy, ry, ay⟩ := (cO_sim hy E hq).inv_agg
          refine Good.same H (hrun _ ?_) (.pure (.bool _))
          have hfo : P.fieldsOf t = fs := by simp [Program.fieldsOf, hu]
          have he : (Op.equal t (.agg cx) (.agg cy)).run P s.w = .ok r s.w := by
            show (Op.equalIn (9999 + 1) t (.agg cx) (.agg cy)).run P s.w = _
            rw [run_equalIn_struct s.w 9999 t cx cy (by rw [hfo]; exact hu) hst, hfo]
            exact eqFields_flat fs.toList 0 tags hfl cx cy p q (by simpa using ax) (by simpa using ay) r hr 9998 s.w
          have hg : (eqGuard op t x y (a.eval x) (a.eval y)).run P s.w = .ok () s.w := by
            rw [rx, ry]
            cases neg <;> simp at hop <;> subst hop <;> simp [eqGuard, hgd]
          simp only [Sem.run_bind, hg, Result.andThen_ok]
          rw [rx, ry]
          cases neg <;> simp at hop <;> subst hop <;> simp [Go.binOp, he]
        · cases h1
      · cases h1
    have nilc : ∀ (neg : Bool) (te : Nat), (op = if neg then .neq else .eql) → P.underlying t = some (.slice te) → y = .const (.slice none 0 0) →
        (match (evO e x').bind isNilD with | some t => some (D.bool (if neg then !t else t), h) | none => none) = some (d, h') → Good s kk ((execOp a.eval o).run P s.w) d h' := by
      intro neg te hop hu hyn h1
      split at h1
      · rename_i r hr
        injection h1 with h1; injection h1 with h2 h3; subst h2; subst h3
        cases hxe : evO e x' with
        | none => rw [hxe] at hr; cases hr
        | some dx =>
          rw [hxe] at hr
          simp only [Option.bind_some] at hr
          have rx := cO_sim hx E hxe
          have hval : ∃ b len cap, a.eval x = .slice b len cap ∧ r = b.isNone := by
            unfold isNilD at hr
            split at hr
            · injection hr with hr; subst hr; exact ⟨none, 0, 0, rx.inv_nil, rfl⟩
            · split at hr
              · cases hr
              · rename_i hne
                injection hr with hr; subst hr
                have hi := rx.inv_vs
                generalize hv : a.eval x = v at hi
                cases hi with
                | vs0 => exact absurd rfl hne
                | vs b off cap sz len cells cs hl hc hb hcs ho' hm hrr => exact ⟨_, _, _, rfl, rfl⟩
            · split at hr
              · cases hr
              · rename_i k sz off len hne
                injection hr with hr; subst hr
                obtain ⟨hk, b, cap, hv, hna, _, hq⟩ := rx.inv_sl
                cases b with
                | some b => exact ⟨_, _, _, hv, rfl⟩
                | none => exact absurd rfl (hna hne)
            · cases hr
          obtain ⟨b, len, cap, hv, rfl⟩ := hval
          refine Good.same H (hrun _ ?_) (.pure (.bool _))
          have hyv : a.eval y = .slice none 0 0 := by rw [hyn]; rfl
          have he : (Op.equal t (.slice b len cap) (.slice none 0 0)).run P s.w = .ok b.isNone s.w := by
            exact eqNil_run 9999 hu b len cap s.w
          have hg := eqGuard_plain (P := P) (op := op) (t := t) (x := x) (y := y) (u := a.eval x) (v := a.eval y) (.inl (by rw [hv]; simp)) (.inl (by rw [hv]; simp)) s.w
          simp only [Sem.run_bind, hg, Result.andThen_ok]
          rw [hv, hyv]
          cases neg <;> simp at hop <;> subst hop <;> simp [Go.binOp, he]
      · cases h1
    have runbin : ∀ ao', ao' = AOp.bin op x' y' → evOp e h kk ao' = some (d, h') → Good s kk ((execOp a.eval o).run P s.w) d h' := by
      intro ao' h0 hev
      subst h0
      simp only [evOp] at hev
      split at hev
      · rename_i dx dy h1 h2
        split at hev
        · rename_i d1 h3
          injection hev with hev; injection hev with h4 h5
          exact scalar dx dy d1 h1 h2 h3 h4.symm h5.symm
        · cases hev
      · cases hev
    split at hc
    · injection hc with hc; exact runbin ao hc.symm hev
    · injection hc with hc; exact runbin ao hc.symm hev
    · rename_i hu
      split at hc
      · injection hc with hc; subst hc; exact bool false rfl hu hev
      · injection hc with hc; subst hc; exact bool true rfl hu hev
      · cases hc
    · rename_i fs hu
      split at hc
      · rename_i tags htg
        split at hc
        · rename_i hcond
          split at hc
          · injection hc with hc; subst hc; exact aggr false fs tags rfl hu htg hcond.1 hcond.2 hev
          · injection hc with hc; subst hc; exact aggr true fs tags rfl hu htg hcond.1 hcond.2 hev
          · cases hc
        · cases hc
      · cases hc
    · rename_i te hu
      split at hc
      · split at hc
        · injection hc with hc; subst hc; exact nilc false te rfl hu rfl hev
        · injection hc with hc; subst hc; exact nilc true te rfl hu rfl hev
        · cases hc
      · cases hc
    · cases hc
  · cases hc
theorem sim_eqN0 {op : BinOp} {t : Nat} {x y : Operand} {yt : Nat} {neg : Bool} {x0 : O} (ho : o.op = .binOp op t x y yt) (hc : cOp P (.binOp op t x y yt) = some (.eqN neg x0)) (E : RE s e a.tmps) {sz : Nat} {c : List D} (hx0 : evO e x0 = some (.vs sz c 0)) :
    ∃ b : Bool, (execOp a.eval o).run P s.w = .ok (.value (.bool b)) s.w := by
  have hrun : ∀ v, (do eqGuard op t x y (a.eval x) (a.eval y); Go.binOp op t (a.eval x) (a.eval y) : Sem Value).run P s.w = .ok v s.w → (execOp a.eval o).run P s.w = .ok (.value v) s.w := by
    intro v hv
    simp only [execOp, ho]
    exact run_v hv
  simp only [cOp, cBin] at hc
  split at hc
  · rename_i x' y' hx hy
    have nilc : ∀ (ng : Bool) (te : Nat), (op = if ng then .neq else .eql) → P.underlying t = some (.slice te) → y = .const (.slice none 0 0) → x' = x0 → ∃ b : Bool, (execOp a.eval o).run P s.w = .ok (.value (.bool b)) s.w := by
      intro ng te hop hu hyn hxx
      subst hxx
      have rx := cO_sim hx E hx0
      have hval : ∃ b len cap, a.eval x = .slice b len cap := by
        have hi := rx.inv_vs
        generalize a.eval x = v at hi
        cases hi with
        | vs0 => exact ⟨_, _, _, rfl⟩
        | vs b off cap sz len cells cs hl hc hb hcs ho' hm hrr => exact ⟨_, _, _, rfl⟩
      obtain ⟨b, len, cap, hv⟩ := hval
      have hyv : a.eval y = .slice none 0 0 := by rw [hyn]; rfl
      have he : (Op.equal t (.slice b len cap) (.slice none 0 0)).run P s.w = .ok b.isNone s.w := by
        exact eqNil_run 9999 hu b len cap s.w
      have hg := eqGuard_plain (P := P) (op := op) (t := t) (x := x) (y := y) (u := a.eval x) (v := a.eval y) (.inl (by rw [hv]; simp)) (.inl (by rw [hv]; simp)) s.w
      refine ⟨if ng then !b.isNone else b.isNone, hrun _ ?_⟩
      simp only [Sem.run_bind, hg, Result.andThen_ok]
      rw [hv, hyv]
      cases ng <;> simp at hop <;> subst hop <;> simp [Go.binOp, he]
    split at hc
    · injection hc with hc; cases hc
    · injection hc with hc; cases hc
    · (repeat' split at hc) <;> first | (injection hc with hc; cases hc; done) | (cases hc; done)
    · (repeat' split at hc) <;> first | (injection hc with hc; cases hc; done) | (cases hc; done)
    · rename_i te hu
      split at hc
      · split at hc
        · injection hc with hc; injection hc with h1 h2; exact nilc false te rfl hu rfl h2
        · injection hc with hc; injection hc with h1 h2; exact nilc true te rfl hu rfl h2
        · cases hc
      · cases hc
    · cases hc
  · cases hc
end
end Go.AM
end
section
/- The simulation of single operations, third part. Generic over the program. -/
set_option linter.unusedSimpArgs false
set_option linter.unusedVariables false
namespace Go.AM
section
variable {P : Program} {s : Sg} {e : Look} {a : Act} {h h' : Heap} {o : Oper} {ao : AOp} {d : D} {kk : Nat}
theorem sim_un {op : UnOp} {t : Nat} {x : Operand} (ho : o.op = .unOp op t x) (hc : cOp P (.unOp op t x) = some ao) (H : RH s h) (E : RE s e a.tmps)
    (hev : evOp e h kk ao = some (d, h')) : Good s kk ((execOp a.eval o).run P s.w) d h' := by
  simp only [cOp] at hc
  cases h1 : cO x with
  | none => rw [h1] at hc; cases hc
  | some y =>
    rw [h1] at hc; simp at hc; subst hc
    simp only [evOp] at hev
    split at hev
    · rename_i b h2
      injection hev with hev; injection hev with h3 h4; subst h3; subst h4
      have := (cO_sim h1 E h2).inv_bool
      exact Good.same H (v := .bool (!b)) (by simp [execOp, ho, this, Op.unary]) (.pure (.bool _))
    · rename_i k n h2
      injection hev with hev; injection hev with h3 h4; subst h3; subst h4
      have := (cO_sim h1 E h2).inv_int
      exact Good.same H (v := .int k (k.wrap (0 - n))) (by simp [execOp, ho, this, Op.unary, Op.intArith]) (.pure (.int _ _))
    · cases hev
theorem sim_conv {u t : Nat} {x : Operand} (hns : ∀ y, ao ≠ .strB y) (ho : o.op = .convert u t x) (hc : cOp P (.convert u t x) = some ao) (H : RH s h) (E : RE s e a.tmps)
    (hev : evOp e h kk ao = some (d, h')) : Good s kk ((execOp a.eval o).run P s.w) d h' := by
  simp only [cOp] at hc
  split at hc
  · rename_i k1 k y hu ht h1
    injection hc with hc; subst hc
    simp only [evOp] at hev
    split at hev
    · rename_i k2 n h2
      injection hev with hev; injection hev with h3 h4; subst h3; subst h4
      have := (cO_sim h1 E h2).inv_int
      exact Good.same H (v := .int k (k.wrap n)) (by simp [execOp, ho, this, convert, run_underlying hu, run_underlying ht, Conv.intToInt]) (.pure (.int _ _))
    · cases hev
  · split at hc
    · injection hc with hc; exact absurd hc.symm (hns _)
    · cases hc
  · cases hc
theorem sim_mkfn {f : Nat} {fst caps : Array Operand} (ho : o.op = .makeFunc (.func f) fst caps) (hc : cOp P (.makeFunc (.func f) fst caps) = some ao) (H : RH s h) (E : RE s e a.tmps)
    (hev : evOp e h kk ao = some (d, h')) : Good s kk ((execOp a.eval o).run P s.w) d h' := by
  simp only [cOp] at hc
  split at hc
  · rename_i x y h1 h2
    injection hc with hc; subst hc
    simp only [evOp] at hev
    split at hev
    · rename_i fs cs h3 h4
      injection hev with hev; injection hev with h5 h6; subst h5; subst h6
      have r1 := cOs_sim h1 E h3
      have r2 := cOs_sim h2 E h4
      refine Good.same H (v := .func (.func f) (fst.map a.eval) (caps.map a.eval)) (by simp [execOp, ho, Instr.makeFunc]) (RV.mkfn ?_ ?_)
      · simpa using r1
      · simpa using r2
    · cases hev
  · cases hc
theorem lenD_sim {v : Value} {x : D} {n : Nat} (hv : RV s v x) (hl : lenD x = some n) : ∃ b cap, v = .slice b n cap := by
  unfold lenD at hl
  split at hl
  · injection hl with hl; subst hl; exact ⟨_, _, hv.inv_nil⟩
  · injection hl with hl; subst hl; obtain ⟨b, hb⟩ := hv.inv_emp; exact ⟨_, _, hb⟩
  · injection hl with hl; subst hl
    have hi := hv.inv_vs
    cases hi with
    | vs0 => exact ⟨_, _, rfl⟩
    | vs => exact ⟨_, _, rfl⟩
  · injection hl with hl; subst hl
    obtain ⟨_, b, cap, hb, _⟩ := hv.inv_sl
    exact ⟨_, _, hb⟩
  · cases hl
theorem lenA_run {v : Value} {x : D} {n : Nat} (hv : RV s v x) (hl : lenA x = some n) (w : World) : (Builtin.lenOf v).run P w = .ok n w := by
  unfold lenA at hl
  split at hl
  · injection hl with hl; subst hl; rw [hv.inv_str]; simp [Builtin.lenOf]
  · obtain ⟨b, cap, rfl⟩ := lenD_sim hv hl; simp [Builtin.lenOf]
theorem cOs_one {l : List Operand} {x : O} (h : cOs l = some [x]) : ∃ x0, l = [x0] ∧ cO x0 = some x := by
  cases l with
  | nil => simp [cOs] at h
  | cons y r =>
    simp only [cOs] at h
    split at h
    · rename_i y' l h1 h2
      injection h with h
      injection h with h3 h4
      subst h3; subst h4
      cases r with
      | nil => exact ⟨y, rfl, h1⟩
      | cons z r' => simp only [cOs] at h2; split at h2 <;> simp at h2
    · cases h
theorem cOs_two {l : List Operand} {x y : O} (h : cOs l = some [x, y]) : ∃ x0 y0, l = [x0, y0] ∧ cO x0 = some x ∧ cO y0 = some y := by
  cases l with
  | nil => simp [cOs] at h
  | cons z r =>
    simp only [cOs] at h
    split at h
    · rename_i y' l h1 h2
      injection h with h
      injection h with h3 h4
      subst h3; subst h4
      obtain ⟨y0, rfl, hy⟩ := cOs_one h2
      exact ⟨z, y0, rfl, h1, hy⟩
    · cases h
theorem run_builtin {args : Array Operand} {ats : Array TypeId} {b : Builtin} {S : Sem Value} {v : Value} {w w' : World} (ho : o.op = .call { callee := .builtin b, args := args, argTypes := ats })
    (hb : ∀ cs, builtin b ats o.type cs (args.map a.eval) = (do pure (Next.value (← S)))) (hS : S.run P w = .ok v w') : (execOp a.eval o).run P w = .ok (.value v) w' := by
  simp only [execOp, ho, resolve, pure_bind, invoke, hb]
  simp [hS]
theorem sim_len {args : Array Operand} {ats : Array TypeId} (ho : o.op = .call { callee := .builtin .len, args := args, argTypes := ats }) (hc : cCall P { callee := .builtin .len, args := args, argTypes := ats } = some ao)
    (H : RH s h) (E : RE s e a.tmps) (hev : evOp e h kk ao = some (d, h')) : Good s kk ((execOp a.eval o).run P s.w) d h' := by
  simp only [cCall] at hc
  split at hc
  · rename_i t x ht hargs
    obtain rfl : ats = #[t] := by apply Array.ext'; simpa using ht
    obtain ⟨x0, hx0, hxc⟩ := cOs_one hargs
    obtain rfl : args = #[x0] := by apply Array.ext'; simpa using hx0
    split at hc
    · rename_i el hu
      injection hc with hc; subst hc
      simp only [evOp] at hev
      cases h1 : evO e x with
      | none => rw [h1] at hev; cases hev
      | some dx =>
        rw [h1] at hev
        simp only [Option.bind_some] at hev
        split at hev
        · rename_i n hn
          injection hev with hev; injection hev with h5 h6; subst h5; subst h6
          obtain ⟨b, cap, hv⟩ := lenD_sim (cO_sim hxc E h1) hn
          refine Good.same H (run_builtin ho (fun cs => rfl) (v := .int .i64 n) ?_) (.pure (.int _ _))
          simp [Builtin.len_, hv, run_underlying hu, goInt]
        · cases hev
    · rename_i hu
      injection hc with hc; subst hc
      simp only [evOp] at hev
      split at hev
      · rename_i z h1
        injection hev with hev; injection hev with h5 h6; subst h5; subst h6
        have hv := (cO_sim hxc E h1).inv_str
        refine Good.same H (run_builtin ho (fun cs => rfl) (v := .int .i64 z.size) ?_) (.pure (.int _ _))
        simp [Builtin.len_, hv, run_underlying hu, goInt]
      · cases hev
    · cases hc
  · cases hc
theorem mimaF_run (mx : Bool) (k : IntKind) : ∀ (l : List D) (x : Int) (r : D), mimaF mx k x l = some r → ∀ (vs : List Value), All2 (RV s) vs l → ∀ w : World,
    ∃ z, r = .int k z ∧ ((if mx then vs.foldlM Builtin.max2 (.int k x) else vs.foldlM Builtin.min2 (.int k x)) : Sem Value).run P w = .ok (.int k z) w
  | [], x, r, hr, vs, hv, w => by
    simp [mimaF] at hr
    subst hr
    obtain rfl : vs = [] := List.length_eq_zero_iff.1 (by simpa using hv.1)
    cases mx <;> exact ⟨x, rfl, by simp⟩
  | .int k' b :: l, x, r, hr, vs, hv, w => by
    simp only [mimaF] at hr
    split at hr
    · rename_i hk
      subst hk
      cases vs with
      | nil => have := hv.1; simp at this
      | cons u us =>
        have hu := (hv.2 0 u _ rfl rfl).inv_int
        subst hu
        have hus : All2 (RV s) us l := by simpa using hv.drop 1
        obtain ⟨z, hz, hrun⟩ := mimaF_run mx k l _ r hr us hus w
        refine ⟨z, hz, ?_⟩
        cases mx
        · simpa [List.foldlM, Builtin.min2] using hrun
        · simpa [List.foldlM, Builtin.max2] using hrun
    · cases hr
  | .bool _ :: _, _, _, hr, _, _, _ | .str _ :: _, _, _, hr, _, _, _ | .nil :: _, _, _, hr, _, _, _ | .emp :: _, _, _, hr, _, _, _ | .vs .. :: _, _, _, hr, _, _, _ | .ow .. :: _, _, _, hr, _, _, _
  | .sl .. :: _, _, _, hr, _, _, _ | .vp .. :: _, _, _, hr, _, _, _ | .pt .. :: _, _, _, hr, _, _, _ | .agg .. :: _, _, _, hr, _, _, _ | .tup .. :: _, _, _, hr, _, _, _ | .fn .. :: _, _, _, hr, _, _, _
  | .nilp :: _, _, _, hr, _, _, _ | .nilf :: _, _, _, hr, _, _, _ | .undef :: _, _, _, hr, _, _, _ => by simp [mimaF] at hr
theorem sim_mima {args : Array Operand} {ats : Array TypeId} {mx : Bool} (ho : o.op = .call { callee := .builtin (if mx then .max else .min), args := args, argTypes := ats })
    (hc : (match cOs args.toList with | some l => some (AOp.mima mx l) | none => none) = some ao) (H : RH s h) (E : RE s e a.tmps) (hev : evOp e h kk ao = some (d, h')) : Good s kk ((execOp a.eval o).run P s.w) d h' := by
  split at hc
  · rename_i l hl
    injection hc with hc; subst hc
    simp only [evOp] at hev
    cases h1 : evOs e l with
    | none => rw [h1] at hev; cases hev
    | some ds =>
      rw [h1] at hev
      simp only [Option.bind_some] at hev
      split at hev
      · rename_i d0 hd
        injection hev with hev; injection hev with h5 h6; subst h5; subst h6
        have hall := cOs_sim hl E h1
        unfold mimaD at hd
        split at hd
        · rename_i k x r
          cases hm : args.toList.map a.eval with
          | nil => rw [hm] at hall; have := hall.1; simp at this
          | cons u us =>
            rw [hm] at hall
            have hu := (hall.2 0 u _ rfl rfl).inv_int
            subst hu
            have hus : All2 (RV s) us r := by simpa using hall.drop 1
            obtain ⟨z, rfl, hrun⟩ := mimaF_run (P := P) mx k r x d0 hd us hus s.w
            refine Good.same H (v := .int k z) ?_ (.pure (.int _ _))
            have harr : (args.map a.eval).toList = .int k x :: us := by simpa using hm
            cases mx
            · exact run_builtin ho (fun cs => rfl) (by unfold Builtin.min_; rw [harr]; simpa using hrun)
            · exact run_builtin ho (fun cs => rfl) (by unfold Builtin.max_; rw [harr]; simpa using hrun)
        · cases hd
      · cases hev
  · cases hc
theorem sim_extract {x : Operand} {i : Nat} (ho : o.op = .extract x i) (hc : cOp P (.extract x i) = some ao) (H : RH s h) (E : RE s e a.tmps)
    (hev : evOp e h kk ao = some (d, h')) : Good s kk ((execOp a.eval o).run P s.w) d h' := by
  simp only [cOp] at hc
  cases h1 : cO x with
  | none => rw [h1] at hc; cases hc
  | some y =>
    rw [h1] at hc; simp at hc; subst hc
    simp only [evOp] at hev
    split at hev
    · rename_i vs h2
      split at hev
      · rename_i d0 h3
        injection hev with hev; injection hev with h5 h6; subst h5; subst h6
        obtain ⟨cs, hv, hall⟩ := (cO_sim h1 E h2).inv_tup
        obtain ⟨u, hu, hr⟩ := hall.get h3
        refine Good.same H (v := u) ?_ hr
        have hu' : cs[i]? = some u := by simpa using hu
        simp [execOp, ho, Instr.extract, hv, hu']
      · cases hev
    · cases hev
theorem part_sim {g : Bool} {n off t : Nat} {c : List D} {d : D} (hld : ldD g n c off = some d) {cs : Array Value} (hall : All2 (RC s) cs.toList c) (hg : aggOf P t = some g) (hn : szOf P t = some n) (w : World) :
    ∃ v, (part t cs off).run P w = .ok v w ∧ RV s v d := by
  unfold ldD at hld
  cases g
  · simp at hld
    obtain ⟨v, hv, hr⟩ := hall.get hld
    have hv' : cs[off]? = some v := by simpa using hv
    exact ⟨v, by simp [part, aggOf_run hg, hv'], hr.1⟩
  · simp at hld
    obtain ⟨h1, h2⟩ := hld
    subst h2
    refine ⟨_, by simp [part, aggOf_run hg, szOf_run hn]; rfl, RV.mkagg ?_⟩
    have := (hall.drop off).take n
    simpa [Array.toList_extract, List.extract_eq_take_drop, Nat.add_sub_cancel_left] using this
theorem sim_field {t i : Nat} {x : Operand} (ho : o.op = .field t x i) (hc : cOp P (.field t x i) = some ao) (H : RH s h) (E : RE s e a.tmps)
    (hev : evOp e h kk ao = some (d, h')) : Good s kk ((execOp a.eval o).run P s.w) d h' := by
  simp only [cOp] at hc
  split at hc
  · rename_i fs hu
    split at hc
    · rename_i f y hf h1
      split at hc
      · rename_i n g hn hg
        injection hc with hc; subst hc
        simp only [evOp] at hev
        split at hev
        · rename_i ds h2
          split at hev
          · rename_i d0 h3
            injection hev with hev; injection hev with h5 h6; subst h5; subst h6
            obtain ⟨cs, hv, hall⟩ := (cO_sim h1 E h2).inv_agg
            obtain ⟨v, hrun, hr⟩ := part_sim (P := P) h3 hall hg hn s.w
            exact Good.same H (v := v) (by simp [execOp, ho, Instr.field, run_underlying hu, hf, hv, asAgg, hrun]) hr
          · cases hev
        · cases hev
      · cases hc
    · cases hc
  · cases hc
theorem sim_index {t : Nat} {x i : Operand} (ho : o.op = .index t x i) (hc : cOp P (.index t x i) = some ao) (H : RH s h) (E : RE s e a.tmps)
    (hev : evOp e h kk ao = some (d, h')) : Good s kk ((execOp a.eval o).run P s.w) d h' := by
  simp only [cOp] at hc
  split at hc
  · rename_i y j hy hj
    split at hc
    · rename_i len el hu
      split at hc
      · rename_i n g hn hg
        injection hc with hc; subst hc
        simp only [evOp] at hev
        split at hev
        · rename_i ds k m h2 h3
          split at hev
          · rename_i hb
            split at hev
            · rename_i d0 h4
              injection hev with hev; injection hev with h5 h6; subst h5; subst h6
              obtain ⟨cs, hv, hall⟩ := (cO_sim hy E h2).inv_agg
              have hi := (cO_sim hj E h3).inv_int
              obtain ⟨v, hrun, hr⟩ := part_sim (P := P) h4 hall hg hn s.w
              exact Good.same H (v := v) (by simp [execOp, ho, Instr.index, hi, asIntOf, run_underlying hu, hv, hb, szOf_run hn, hrun]) hr
            · cases hev
          · cases hev
        · cases hev
      · cases hc
    · rename_i hu
      injection hc with hc; subst hc
      simp only [evOp] at hev
      split at hev
      · rename_i z k m h2 h3
        split at hev
        · rename_i hb
          split at hev
          · rename_i b h4
            injection hev with hev; injection hev with h5 h6; subst h5; subst h6
            have hv := (cO_sim hy E h2).inv_str
            have hi := (cO_sim hj E h3).inv_int
            exact Good.same H (v := .int .u8 b.toNat) (by simp [execOp, ho, Instr.index, hi, asIntOf, run_underlying hu, hv, hb, h4]) (.pure (.int _ _))
          · cases hev
        · cases hev
      · cases hev
    · cases hc
  · cases hc
end
end Go.AM
end
section
/- The simulation of single operations, fourth part: addresses, slices, what makes and writes memory. Generic over the program. -/
set_option linter.unusedSimpArgs false
set_option linter.unusedVariables false
namespace Go.AM
section
variable {P : Program} {s : Sg} {e : Look} {a : Act} {h h' : Heap} {o : Oper} {ao : AOp} {d : D} {kk : Nat}
theorem vp_shift {v : Value} {c : List D} {off n : Nat} (hv : RV s v (.vp c off)) : ∃ b oo, v = .pointer (some ⟨b, oo, none⟩) ∧ RV s (.pointer (some ⟨b, oo + n, none⟩)) (.vp c (off + n)) := by
  have hi := hv.inv_vp
  cases hi with
  | vp b off o cells cs hb hcs ho hm hr =>
    refine ⟨b, o + off, rfl, ?_⟩
    rw [Nat.add_assoc]
    exact .pure (.vp b (off + n) o _ cs hb hcs ho hm hr)
theorem pt_shift {v : Value} {k off n : Nat} (hv : RV s v (.pt k off)) : ∃ b oo, v = .pointer (some ⟨b, oo, none⟩) ∧ RV s (.pointer (some ⟨b, oo + n, none⟩)) (.pt k (off + n)) := by
  obtain ⟨hk, b, rfl, hq⟩ := hv.inv_pt
  exact ⟨b, off, rfl, .pt b k (off + n) hk hq⟩
theorem sim_faddr {t i : Nat} {x : Operand} (ho : o.op = .fieldAddr t x i) (hc : cOp P (.fieldAddr t x i) = some ao) (H : RH s h) (E : RE s e a.tmps)
    (hev : evOp e h kk ao = some (d, h')) : Good s kk ((execOp a.eval o).run P s.w) d h' := by
  simp only [cOp] at hc
  split at hc
  · rename_i fs hu
    split at hc
    · rename_i f y hf hy
      split at hc
      · rename_i n hn
        split at hc
        · cases hc
        · rename_i hn0
          injection hc with hc; subst hc
          have hrun : ∀ b oo, a.eval x = .pointer (some ⟨b, oo, none⟩) → (execOp a.eval o).run P s.w = .ok (.value (.pointer (some ⟨b, oo + f.offset, none⟩))) s.w := by
            intro b oo hv
            simp [execOp, ho, Instr.fieldAt, run_underlying hu, hf, hv, Instr.sureAddr, fieldPlace, szOf_run hn, hn0, add_plain]
          simp only [evOp] at hev
          split at hev
          · rename_i c off h2
            injection hev with hev; injection hev with h5 h6; subst h5; subst h6
            obtain ⟨b, oo, hv, hr⟩ := vp_shift (n := f.offset) (cO_sim hy E h2)
            exact Good.same H (hrun b oo hv) hr
          · rename_i k off h2
            injection hev with hev; injection hev with h5 h6; subst h5; subst h6
            obtain ⟨b, oo, hv, hr⟩ := pt_shift (n := f.offset) (cO_sim hy E h2)
            exact Good.same H (hrun b oo hv) hr
          · cases hev
      · cases hc
    · cases hc
  · cases hc
theorem sl_live (H : RH s h) {v : Value} {k sz off len : Nat} (hv : RV s v (.sl k sz off len)) {c : List D} (hk : h k = some c) : ∃ ad cap, v = .slice ad len cap ∧ len ≤ cap ∧ c.length ≤ off + cap * sz ∧
    (cap = 0 ∨ ∃ b cs e, s.ρ k = some (some b, c.length) ∧ ad = some ⟨b, off, none⟩ ∧ s.w.heap[b]? = some (.cells cs e (0, 0)) ∧ off + cap * sz ≤ cs.size) := by
  obtain ⟨_, ad, cap, rfl, _, hlc, hq⟩ := hv.inv_sl
  obtain ⟨_, x, hx, _, _⟩ := H.own k c hk
  obtain ⟨h1, h2⟩ := hq x _ hx
  refine ⟨ad, cap, rfl, hlc, h1, h2.imp id ?_⟩
  rintro ⟨b, cs, e, rfl, ha, hb, hs⟩
  exact ⟨b, cs, e, hx, ha, hb, hs⟩
theorem sim_iaddr {t : Nat} {x i : Operand} (ho : o.op = .indexAddr t x i) (hc : cOp P (.indexAddr t x i) = some ao) (H : RH s h) (E : RE s e a.tmps)
    (hev : evOp e h kk ao = some (d, h')) : Good s kk ((execOp a.eval o).run P s.w) d h' := by
  simp only [cOp] at hc
  split at hc
  · rename_i y j hy hj
    split at hc
    · rename_i el hu
      split at hc
      · rename_i n hn
        injection hc with hc; subst hc
        have hrun : ∀ b oo len cap k m, a.eval x = .slice (some ⟨b, oo, none⟩) len cap → a.eval i = .int k m → 0 ≤ m → m < len → (execOp a.eval o).run P s.w = .ok (.value (.pointer (some ⟨b, oo + m.toNat * n, none⟩))) s.w := by
          intro b oo len cap k m hv hi h1 h2
          simp [execOp, ho, Instr.indexAt, hi, asIntOf, run_underlying hu, hv, h1, h2, szOf_run hn, add_plain]
        simp only [evOp] at hev
        split at hev
        · rename_i sz' cells len k m h2 h3
          split at hev
          · rename_i hb
            injection hev with hev; injection hev with h5 h6; subst h5; subst h6
            obtain ⟨rfl, hb1, hb2⟩ := hb
            have hi := (cO_sim hj E h3).inv_int
            have hr := (cO_sim hy E h2).inv_vs
            generalize hv : a.eval x = v at hr
            cases hr with
            | vs0 => omega
            | vs b off cap sz len cells cs hl hc hb hcs hoo hm hr =>
              exact Good.same H (hrun b off len cap k m hv hi hb1 hb2) (.pure (.vp b _ off cells cs hb hcs hoo hm hr))
          · cases hev
        · rename_i kk sz' off len k m h2 h3
          split at hev
          · rename_i hb
            obtain ⟨rfl, hb1, hb2⟩ := hb
            split at hev
            · rename_i c hk
              injection hev with hev; injection hev with h5 h6; subst h5; subst h6
              have hi := (cO_sim hj E h3).inv_int
              have hr := cO_sim hy E h2
              have hkn := (hr.inv_sl).1
              obtain ⟨ad, cap, hv, hlc, _, hq⟩ := sl_live H hr hk
              rcases hq with h0 | ⟨b, cs, e', hx, rfl, hb, hs⟩
              · omega
              · refine Good.same H (hrun b off len cap k m hv hi hb1 hb2) (.pt b kk _ hkn ?_)
                intro x' n' hx'
                rw [hx] at hx'
                injection hx' with hx'
                injection hx' with h7 h8
                exact h7.symm
            · cases hev
          · cases hev
        · cases hev
      · cases hc
    · rename_i alen el hu
      split at hc
      · rename_i n hn
        injection hc with hc; subst hc
        have hrun : ∀ b oo k m, a.eval x = .pointer (some ⟨b, oo, none⟩) → a.eval i = .int k m → 0 ≤ m → m < alen → (execOp a.eval o).run P s.w = .ok (.value (.pointer (some ⟨b, oo + m.toNat * n, none⟩))) s.w := by
          intro b oo k m hv hi h1 h2
          simp [execOp, ho, Instr.indexAt, hi, asIntOf, run_underlying hu, hv, Instr.sureAddr, h1, h2, szOf_run hn, add_plain]
        simp only [evOp] at hev
        split at hev
        · rename_i c off k m h2 h3
          split at hev
          · rename_i hb
            injection hev with hev; injection hev with h5 h6; subst h5; subst h6
            have hi := (cO_sim hj E h3).inv_int
            obtain ⟨b, oo, hv, hr⟩ := vp_shift (n := m.toNat * n) (cO_sim hy E h2)
            exact Good.same H (hrun b oo k m hv hi hb.1 hb.2) hr
          · cases hev
        · rename_i kk off k m h2 h3
          split at hev
          · rename_i hb
            injection hev with hev; injection hev with h5 h6; subst h5; subst h6
            have hi := (cO_sim hj E h3).inv_int
            obtain ⟨b, oo, hv, hr⟩ := pt_shift (n := m.toNat * n) (cO_sim hy E h2)
            exact Good.same H (hrun b oo k m hv hi hb.1 hb.2) hr
          · cases hev
        · cases hev
      · cases hc
    · cases hc
  · cases hc
/-! ### Slices of slices -/
theorem bound_run {lo : Option Operand} {l' : Option O} (hc : cOo lo = some l') (E : RE s e a.tmps) {dflt l : Nat} (hb : bndD e dflt l' = some l) (y : Nat) (hy : l ≤ y) (code : BoundsCode) (w : World) :
    (lo = none ∧ l = dflt) ∨ (∃ x, lo = some x ∧ (Instr.sliceBound (a.eval x) y code).run P w = .ok l w) := by
  cases lo with
  | none => simp [cOo] at hc; subst hc; simp [bndD] at hb; exact .inl ⟨rfl, hb.symm⟩
  | some x =>
    simp only [cOo] at hc
    split at hc
    · rename_i z hz
      injection hc with hc; subst hc
      simp only [bndD] at hb
      split at hb
      · rename_i k n h1
        split at hb
        · rename_i h0
          injection hb with hb
          have hi := (cO_sim hz E h1).inv_int
          refine .inr ⟨x, rfl, ?_⟩
          have : n ≤ (y : Int) := by omega
          simp [Instr.sliceBound, hi, asIntOf, h0, this, hb]
        · cases hb
      · cases hb
    · cases hc
theorem slice_run {t el n : Nat} (hu : P.underlying t = some (.slice el)) (hn : szOf P el = some n) {lo hi : Option Operand} {l' r' : Option O} (hl : cOo lo = some l') (hr : cOo hi = some r') (E : RE s e a.tmps)
    {ad : Option Addr} {len cap l r : Nat} (hlc : len ≤ cap) (h1 : bndD e 0 l' = some l) (h2 : bndD e len r' = some r) (hlr : l ≤ r) (hrl : r ≤ len) (w : World) :
    (Instr.sliceAt t (.slice ad len cap) (lo.map a.eval) (hi.map a.eval) none).run P w = .ok (.slice (if cap = l then ad else ad.map (·.add (l * n))) (r - l) (cap - l)) w := by
  have hh : (match hi.map a.eval with | some v => Instr.sliceBound v cap .sliceAcap | none => pure len).run P w = .ok r w := by
    rcases bound_run (P := P) hr E h2 cap (by omega) .sliceAcap w with ⟨rfl, rfl⟩ | ⟨x, rfl, hx⟩
    · simp
    · simpa using hx
  have hll : (match lo.map a.eval with | some v => Instr.sliceBound v r .sliceB | none => pure 0).run P w = .ok l w := by
    rcases bound_run (P := P) hl E h1 r hlr .sliceB w with ⟨rfl, rfl⟩ | ⟨x, rfl, hx⟩
    · simp
    · simpa using hx
  have hb : (Instr.sliceBounds true len cap (lo.map a.eval) (hi.map a.eval) none).run P w = .ok (l, r, cap) w := by
    cases hi with
    | none =>
      cases lo with
      | none => simp at hh hll; simp [Instr.sliceBounds, hh, hll]
      | some x => simp at hh hll; simp [Instr.sliceBounds, hh, hll]
    | some z =>
      cases lo with
      | none => simp at hh hll; simp [Instr.sliceBounds, hh, hll]
      | some x => simp at hh hll; simp [Instr.sliceBounds, hh, hll]
  simp [Instr.sliceAt, Instr.slice, run_underlying hu, hb, szOf_run hn]
theorem All2.slice {α β : Type} {R : α → β → Prop} {xs : List α} {ys : List β} (h : All2 R xs ys) (i n : Nat) : All2 R ((xs.drop i).take n) ((ys.drop i).take n) := (h.drop i).take n
theorem sim_slice {t : Nat} {x : Operand} {lo hi : Option Operand} (ho : o.op = .slice t x lo hi none) (hc : cOp P (.slice t x lo hi none) = some ao) (H : RH s h) (E : RE s e a.tmps)
    (hev : evOp e h kk ao = some (d, h')) : Good s kk ((execOp a.eval o).run P s.w) d h' := by
  simp only [cOp] at hc
  split at hc
  · rename_i el hu
    split at hc
    · rename_i n y l' r' hn hy hl hr
      injection hc with hc; subst hc
      simp only [evOp] at hev
      split at hev
      · rename_i dx len h1 h2
        rw [h1] at h2
        simp only [Option.bind_some] at h2
        split at hev
        · rename_i l r h3 h4
          split at hev
          · rename_i hb
            obtain ⟨hlr, hrl⟩ := hb
            have rx := cO_sim hy E h1
            have hrun : ∀ ad cap, len ≤ cap → a.eval x = .slice ad len cap → (execOp a.eval o).run P s.w = .ok (.value (.slice (if cap = l then ad else ad.map (·.add (l * n))) (r - l) (cap - l))) s.w := by
              intro ad cap hlc hv
              have := slice_run (P := P) (w := s.w) hu hn hl hr E (ad := ad) hlc h3 h4 hlr hrl
              simp only [execOp, ho, hv]
              exact run_v this
            split at hev
            · rename_i sz' cells n'
              split at hev
              · rename_i hsz
                subst hsz
                injection hev with hev; injection hev with h5 h6; subst h5; subst h6
                simp [lenD] at h2
                subst h2
                have hi := rx.inv_vs
                generalize hv : a.eval x = v at hi
                cases hi with
                | vs0 ad cap =>
                  have : r - l = 0 := by omega
                  refine Good.same H (hrun ad cap (by omega) hv) ?_
                  rw [this]
                  simpa using RV.pure (.vs0 _ _ _)
                | vs b off cap sz len cells cs hcl hlc hbp hcs hoo hm hrr =>
                  refine Good.same H (hrun _ cap hlc hv) ?_
                  by_cases h0 : r - l = 0
                  · rw [h0]
                    simpa using RV.pure (.vs0 _ _ _)
                  · rw [if_neg (by omega)]
                    simp only [Option.map_some, add_plain]
                    have hat : CellsAt s.w b off cs := hm
                    have hmul : (r - l) * sz' = r * sz' - l * sz' := Nat.sub_mul _ _ _
                    have hle : r * sz' ≤ n' * sz' := Nat.mul_le_mul_right _ hrl
                    have hle2 : l * sz' ≤ r * sz' := Nat.mul_le_mul_right _ hlr
                    refine .pure (.vs b (off + l * sz') (cap - l) sz' (r - l) _ ((cs.drop (l * sz')).take ((r - l) * sz')) ?_ (by omega) hbp ?_ ?_ ?_ ?_)
                    · simp; omega
                    · simp; omega
                    · intro v hv'; exact hoo v (List.mem_of_mem_drop (List.mem_of_mem_take hv'))
                    · exact hat.sub _ _
                    · exact (All2.slice ⟨hcs, hrr⟩ (l * sz') ((r - l) * sz')).2
              · cases hev
            · rename_i k sz' off n'
              split at hev
              · rename_i hsz
                subst hsz
                injection hev with hev; injection hev with h5 h6; subst h5; subst h6
                simp [lenD] at h2
                subst h2
                obtain ⟨hk, ad, cap, hv, hna, hlc, hq⟩ := rx.inv_sl
                refine Good.same H (hrun ad cap hlc hv) (.sl _ k sz' _ _ _ hk ?_ (by omega) ?_)
                · intro hne
                  have : n' ≠ 0 := by omega
                  have := hna this
                  split
                  · exact this
                  · cases ad with
                    | none => exact absurd rfl this
                    | some _ => simp
                · intro x' m hx
                  obtain ⟨q1, q2⟩ := hq x' m hx
                  have hmul : (cap - l) * sz' = cap * sz' - l * sz' := Nat.sub_mul _ _ _
                  have hle : l * sz' ≤ cap * sz' := Nat.mul_le_mul_right _ (by omega)
                  refine ⟨by omega, ?_⟩
                  by_cases h0 : cap = l
                  · left; omega
                  · right
                    rcases q2 with q2 | ⟨b, cs, e', rfl, rfl, hb, hs⟩
                    · omega
                    · exact ⟨b, cs, e', rfl, by rw [if_neg h0]; simp [add_plain], hb, by omega⟩
              · cases hev
            · injection hev with hev; injection hev with h5 h6; subst h5; subst h6
              simp [lenD] at h2
              subst h2
              have hv := rx.inv_nil
              have : l = 0 := by omega
              subst this
              have : r = 0 := by omega
              subst this
              refine Good.same H (hrun none 0 (by omega) hv) ?_
              simpa using RV.pure .nil
            · injection hev with hev; injection hev with h5 h6; subst h5; subst h6
              simp [lenD] at h2
              subst h2
              obtain ⟨ad, hv⟩ := rx.inv_emp
              have : l = 0 := by omega
              subst this
              have : r = 0 := by omega
              subst this
              refine Good.same H (hrun ad 0 (by omega) hv) ?_
              simpa using RV.pure (.emp _)
            · cases hev
          · cases hev
        · cases hev
      · cases hev
    · cases hc
  · cases hc
end
end Go.AM
end
section
/- The simulation of single operations, fifth part: what makes memory and writes it. Generic over the program. -/
set_option linter.unusedSimpArgs false
set_option linter.unusedVariables false
namespace Go.AM
theorem length_splice {c x : List D} {off : Nat} (h : off + x.length ≤ c.length) : (splice c off x).length = c.length := by
  unfold splice; simp; omega
theorem All2.splice {R : Value → D → Prop} {xs vs : List Value} {ys new : List D} {n off : Nat} (h : All2 R (xs.take n) ys) (hn : ys.length = n) (hv : All2 R vs new) (hle : off + new.length ≤ n) :
    All2 R ((xs.take off ++ vs ++ xs.drop (off + vs.length)).take n) (splice ys off new) := by
  have hxs : n ≤ xs.length := by have := h.1; simp at this; omega
  have hvl := hv.1
  have e : (xs.take off ++ vs ++ xs.drop (off + vs.length)).take n = (xs.take n).take off ++ vs ++ (xs.take n).drop (off + vs.length) := by
    rw [List.take_append, List.take_append]
    have h1 : List.take n (List.take off xs) = (xs.take n).take off := by rw [List.take_take, List.take_take, Nat.min_comm]
    have h2 : List.take (n - (List.take off xs).length) vs = vs := by apply List.take_of_length_le; simp; omega
    have h3 : List.take (n - (List.take off xs ++ vs).length) (xs.drop (off + vs.length)) = (xs.take n).drop (off + vs.length) := by
      rw [List.drop_take]
      congr 1
      simp
      omega
    rw [h1, h2, h3]
  rw [e, hvl]
  unfold AM.splice
  exact ((h.take off).append hv).append (h.drop _)
theorem setRow_size (w : World) (g : Nat) (cs : Array Value) : (w.setRow g cs).heap.size = w.heap.size := by simp [World.setRow]
theorem setRow_other (w : World) (g : Nat) (cs : Array Value) (b : Nat) (h : b ≠ g) : (w.setRow g cs).heap[b]? = w.heap[b]? := by
  simp only [World.setRow]
  rw [Array.getElem?_modify]
  rw [if_neg (fun e => h e.symm)]
section
variable {P : Program} {s : Sg} {e : Look} {a : Act} {h h' : Heap} {o : Oper} {ao : AOp} {d : D} {kk : Nat}
theorem write_cells (H : RH s h) {k : Nat} {c : List D} (hk : h k = some c) {b n el : Nat} (hb : s.ρ k = some (some b, n)) {cs : Array Value} (hh : s.w.heap[b]? = some (.cells cs el (0, 0)))
    {off : Nat} {vs : List Value} {new : List D} (hv : All2 (RC s) vs new) (hle : off + new.length ≤ c.length) :
    (storeCells ⟨b, off, none⟩ vs).run P s.w = .ok () (s.w.setRow b (cs.toList.take off ++ vs ++ cs.toList.drop (off + vs.length)).toArray) ∧
    ∃ s' : Sg, s'.w = s.w.setRow b (cs.toList.take off ++ vs ++ cs.toList.drop (off + vs.length)).toArray ∧ Ext s s' ∧ RH s' (upd h k (splice c off new)) ∧ s'.ρ = s.ρ ∧ s'.used = s.used := by
  obtain ⟨hn, hnp, cs2, e2, hh2, hl, hall⟩ := H.block hk hb
  rw [hh] at hh2
  injection hh2 with hh2
  injection hh2 with h3 h4
  subst h3
  have hvl := hv.1
  have hone : ∀ v ∈ vs, v.oneCell' = true := by
    intro v hv'
    obtain ⟨i, hi⟩ := List.mem_iff_getElem?.1 hv'
    have hlt : i < vs.length := by
      rcases Nat.lt_or_ge i vs.length with h' | h'
      · exact h'
      · simp [List.getElem?_eq_none h'] at hi
    exact (hv.2 i v _ hi (List.getElem?_eq_getElem (by omega))).2
  constructor
  · have := run_storeCells_at P b off el vs 0 cs s.w hh (by omega) hone
    simpa using this
  · refine H.write hk hb hh (cs' := (cs.toList.take off ++ vs ++ cs.toList.drop (off + vs.length)).toArray) ?_ _ (setRow_size _ _ _) (setRow_heap _ _ _ _ _ _ hh) (fun b' hne => setRow_other _ _ _ _ hne) _ (length_splice hle) ?_ ⟨rfl, rfl, rfl⟩
    · simp; omega
    · simpa using All2.splice hall rfl hv hle
theorem sim_store {t : Nat} {x y : Operand} (ho : o.op = .store t x y) (hc : cOp P (.store t x y) = some ao) (H : RH s h) (E : RE s e a.tmps)
    (hev : evOp e h kk ao = some (d, h')) : Good s kk ((execOp a.eval o).run P s.w) d h' := by
  simp only [cOp] at hc
  split at hc
  · rename_i n x' y' hn hx hy
    injection hc with hc; subst hc
    simp only [evOp] at hev
    split at hev
    · rename_i k off new h1 h2
      split at hev
      · rename_i c hk
        split at hev
        · rename_i hb
          injection hev with hev; injection hev with h5 h6; subst h5; subst h6
          cases h3 : evO e y' with
          | none => rw [h3] at h2; cases h2
          | some dy =>
            rw [h3] at h2
            simp only [Option.bind_some] at h2
            have hnew := (cO_sim hy E h3).cells h2
            obtain ⟨_, b, hv, hq⟩ := (cO_sim hx E h1).inv_pt
            obtain ⟨_, xx, hxx, hx0, hbb⟩ := H.own k c hk
            have hxb := hq _ _ hxx
            subst hxb
            obtain ⟨_, cs, el, hh, _, _⟩ := hbb b rfl
            obtain ⟨hrun, s', hw, hx', hH, _, hus⟩ := write_cells (P := P) H hk hxx hh hnew (off := off) (by omega)
            refine ⟨undef, s', .inr ⟨?_, rfl⟩, hx', hH, .pure (.undef _), fun k hk => .inl (by rw [hus] at hk; exact hk)⟩
            have hsz : (a.eval y).cells.size = n := by have := hnew.1; simp at this; omega
            rw [hw]
            simp [execOp, ho, Instr.storeAt, hv, Instr.sureAddr, storeVar, szOf_run hn, hsz, hrun]
        · cases hev
      · cases hev
    · cases hev
  · cases hc
theorem new_block (H : RH s h) (hkk : ¬ s.used kk) (el : Nat) (row : List Value) (c : List D) (hc : All2 (RC s) (row.take c.length) c) (w' : World) (hw : w'.heap = s.w.heap.push (.cells row.toArray el (0, 0))) (hso : SameO s.w w') :
    ∃ s' : Sg, s'.w = w' ∧ Ext s s' ∧ RH s' (upd h kk c) ∧ (∀ off, RV s' (.pointer (some ⟨s.w.heap.size, off, none⟩)) (.pt kk off)) ∧
      (∀ sz len cap, len ≤ cap → c.length ≤ cap * sz → cap * sz ≤ row.length → RV s' (.slice (some ⟨s.w.heap.size, 0, none⟩) len cap) (.sl kk sz 0 len)) ∧ (∀ k, s'.used k → s.used k ∨ k = kk) := by
  obtain ⟨s', h1, h2, h3, h4, hus, h5, h6⟩ := H.alloc el row c hc kk hkk w' hw hso
  refine ⟨s', h1, h2, h3, ?_, ?_, hus⟩
  · intro off
    refine .pt _ _ _ h4 ?_
    intro x n hx
    rw [h5] at hx; injection hx with hx; injection hx with h7 h8; exact h7.symm
  · intro sz len cap h7 h8 h9
    refine .sl _ _ _ _ _ _ h4 (by simp) h7 ?_
    intro x n hx
    rw [h5] at hx; injection hx with hx; injection hx with h10 h11
    subst h10; subst h11
    exact ⟨by omega, .inr ⟨_, row.toArray, el, rfl, rfl, h6, by simpa using h9⟩⟩
theorem sim_alloc {t : Nat} (ho : o.op = .alloc t) (hc : cOp P (.alloc t) = some ao) (H : RH s h) (hkk : ¬ s.used kk) (hev : evOp e h kk ao = some (d, h')) : Good s kk ((execOp a.eval o).run P s.w) d h' := by
  simp only [cOp] at hc
  split at hc
  · rename_i n z hn hz
    injection hc with hc; subst hc
    simp only [evOp] at hev
    injection hev with hev; injection hev with h5 h6; subst h5; subst h6
    obtain ⟨v, hv, hzs⟩ := zeroOf_run hz s.w
    have hall := ofScalars_rp hzs s
    obtain ⟨s', h1, h2, h3, h4, _, hus⟩ := new_block H hkk t v.cells.toList z (by rw [← hall.1, List.take_length]; exact hall) { s.w with heap := s.w.heap.push (.cells v.cells t (0, 0)) } (by simp) ⟨rfl, rfl, rfl⟩
    refine ⟨_, s', .inl ?_, h2, h3, h4 0, hus⟩
    rw [h1]
    simp [execOp, ho, Instr.alloc, hv, newVar, newRow]
  · cases hc
theorem sim_box {t : Nat} {x : Operand} (ho : o.op = .box t x) (hc : cOp P (.box t x) = some ao) (H : RH s h) (hkk : ¬ s.used kk) (E : RE s e a.tmps) (hev : evOp e h kk ao = some (d, h')) :
    Good s kk ((execOp a.eval o).run P s.w) d h' := by
  simp only [cOp] at hc
  cases h1 : cO x with
  | none => rw [h1] at hc; cases hc
  | some y =>
    rw [h1] at hc; simp at hc; subst hc
    simp only [evOp] at hev
    cases h2 : evO e y with
    | none => rw [h2] at hev; cases hev
    | some dy =>
      rw [h2] at hev
      simp only [Option.bind_some] at hev
      split at hev
      · rename_i c hcc
        injection hev with hev; injection hev with h5 h6; subst h5; subst h6
        have hall := (cO_sim h1 E h2).cells hcc
        obtain ⟨s', h3, h4, h5, h6, _, hus⟩ := new_block H hkk t (a.eval x).cells.toList c (by rw [← hall.1, List.take_length]; exact hall) { s.w with heap := s.w.heap.push (.cells (a.eval x).cells t (0, 0)) } (by simp) ⟨rfl, rfl, rfl⟩
        refine ⟨_, s', .inl ?_, h4, h5, h6 0, hus⟩
        rw [h3]
        simp [execOp, ho, Instr.box, newVar, newRow]
      · cases hev
theorem fold_splice (cells : Array Value) (off : Nat) (vs : List Value) (hle : off + vs.length ≤ cells.size) :
    (vs.toArray.zipIdx.foldl (fun cs (c, j) => cs.setIfInBounds (off + j) c) cells).toList = cells.toList.take off ++ vs ++ cells.toList.drop (off + vs.length) := by
  rw [← Array.foldl_toList]
  have key : ∀ (vs : List Value) (i : Nat) (cells : Array Value), off + i + vs.length ≤ cells.size →
      ((vs.zipIdx i).foldl (fun (cs : Array Value) (p : Value × Nat) => cs.setIfInBounds (off + p.2) p.1) cells).toList = cells.toList.take (off + i) ++ vs ++ cells.toList.drop (off + i + vs.length) := by
    intro vs
    induction vs with
    | nil => intro i cells _; simp
    | cons v r ih =>
      intro i cells hle
      simp only [List.zipIdx_cons, List.foldl_cons]
      rw [ih (i + 1) _ (by simp at hle ⊢; omega)]
      simp only [Array.toList_setIfInBounds]
      have hlt : off + i < cells.toList.length := by simp at hle ⊢; omega
      rw [show off + (i + 1) = off + i + 1 by omega]
      rw [List.take_succ_eq_append_getElem (by simpa using hlt), List.getElem_set_self, List.take_set_of_le (by omega), List.drop_set_of_lt (by omega)]
      simp [Nat.add_assoc, Nat.add_comm 1]
  have := key vs 0 cells (by simpa using hle)
  simpa using this
theorem rep_length (n : Nat) (z : List D) : (rep n z).length = n * z.length := by simp [rep]
theorem rep_get (n : Nat) (z : List D) (hz : 0 < z.length) (i : Nat) (hi : i < n * z.length) : (rep n z)[i]? = z[i % z.length]? := by
  induction n generalizing i with
  | zero => simp at hi
  | succ n ih =>
    have e : rep (n + 1) z = z ++ rep n z := by simp [rep, List.replicate_succ]
    rw [e]
    by_cases h : i < z.length
    · rw [List.getElem?_append_left h, Nat.mod_eq_of_lt h]
    · rw [List.getElem?_append_right (by omega), ih _ (by rw [Nat.add_mul] at hi; omega)]
      rw [show i = (i - z.length) + z.length by omega, Nat.add_sub_cancel, Nat.add_mod_right]
theorem zeros_sim {zv : Array Value} {z : List D} (hz : All2 (RC s) zv.toList z) (n m : Nat) (hnm : n ≤ m) (hpos : 0 < z.length) :
    All2 (RC s) ((((Array.range (m * z.length)).map (zv[· % zv.size]!)).toList).take (rep n z).length) (rep n z) := by
  have hsz : zv.size = z.length := by simpa using hz.1
  have hle : n * z.length ≤ m * z.length := Nat.mul_le_mul_right _ hnm
  refine ⟨by rw [List.length_take]; apply Nat.min_eq_left; simp [rep_length]; exact hle, ?_⟩
  intro i v dd hv hd
  have hi : i < n * z.length := by
    rcases Nat.lt_or_ge i (rep n z).length with h' | h'
    · rwa [rep_length] at h'
    · simp [List.getElem?_eq_none h'] at hd
  rw [rep_get n z hpos i hi] at hd
  rw [List.getElem?_take, if_pos (by rw [rep_length]; exact hi)] at hv
  simp only [Array.getElem?_toList, Array.getElem?_map] at hv
  have hi2 : i < m * z.length := by omega
  rw [Array.getElem?_range] at hv
  rw [if_pos hi2] at hv
  simp only [Option.map_some] at hv
  injection hv with hv
  have hmod : i % z.length < z.length := Nat.mod_lt _ hpos
  refine hz.2 (i % z.length) v dd ?_ hd
  rw [← hv, hsz]
  have hb : i % z.length < zv.size := by omega
  simp [hb]
theorem sim_mkslice {t : Nat} {x y : Operand} (ho : o.op = .makeSlice t x y) (hc : cOp P (.makeSlice t x y) = some ao) (H : RH s h) (hkk : ¬ s.used kk) (E : RE s e a.tmps) (hev : evOp e h kk ao = some (d, h')) :
    Good s kk ((execOp a.eval o).run P s.w) d h' := by
  simp only [cOp] at hc
  split at hc
  · rename_i el hu
    split at hc
    · rename_i i z x' y' hi hz hx hy
      split at hc
      · rename_i hzl
        injection hc with hc; subst hc
        simp only [evOp] at hev
        split at hev
        · rename_i k1 n k2 c h1 h2
          split at hev
          · rename_i hb
            obtain ⟨_, hpos, hn0, hnc, hroom, hmax⟩ := hb
            injection hev with hev; injection hev with h5 h6; subst h5; subst h6
            have hlen := (cO_sim hx E h1).inv_int
            have hcap := (cO_sim hy E h2).inv_int
            obtain ⟨zv, hzv, hzs⟩ := zeroOf_run hz s.w
            have hzall := ofScalars_rp hzs s
            have hzsz : zv.cells.size = z.length := by simpa using hzall.1
            have wn : IntKind.i64.wrap n = n := IntWalk.i64_in _ (by constructor <;> omega)
            have wc : IntKind.i64.wrap c = c := IntWalk.i64_in _ (by constructor <;> omega)
            let row := ((Array.range (c.toNat * z.length)).map (zv.cells[· % zv.cells.size]!)).toList
            obtain ⟨s', h3, h4, h5, _, h7, hus⟩ := new_block H hkk el row (rep n.toNat z) (zeros_sim hzall n.toNat c.toNat (by omega) (by omega)) { s.w with heap := s.w.heap.push (.cells row.toArray el (0, 0)) } rfl ⟨rfl, rfl, rfl⟩
            have hrl : row.length = c.toNat * z.length := by simp [row]
            have hmn : n.toNat * z.length ≤ c.toNat * z.length := Nat.mul_le_mul_right _ (by omega)
            refine ⟨_, s', .inl ?_, h4, h5, h7 i.size n.toNat c.toNat (by omega) (by rw [rep_length, ← hzl]; exact hmn) (by rw [hrl, hzl]; exact Nat.le_refl _), hus⟩
            rw [h3]
            have hroom' : ¬ (i.bytes * c > 281474976710656) := by
              have : c * i.bytes ≤ (room : Int) := hroom
              rw [Int.mul_comm] at this
              simp [room] at this
              omega
            have hc0 : ¬ c < 0 := by omega
            have hn0' : ¬ n < 0 := by omega
            have hcn : ¬ c < n := by omega
            by_cases hcz : c.toNat * i.size = 0
            · have hc0' : c.toNat = 0 := by
                rcases Nat.mul_eq_zero.1 hcz with h | h
                · exact h
                · omega
              have hrow : row = [] := by simp [row, hc0']
              simp [execOp, ho, Instr.makeSlice, run_underlying hu, hlen, hcap, asInt, asIntOf, typeInfo, hi, wn, wc, hroom', hc0, hn0', hcn, sizeOf, hcz, newRow, hrow, hc0']
              congr 2
              apply Array.ext'
              simp
            · simp [execOp, ho, Instr.makeSlice, run_underlying hu, hlen, hcap, asInt, asIntOf, typeInfo, hi, wn, wc, hroom', hc0, hn0', hcn, sizeOf, hcz, newRow, hzv, row, hzl]
              congr 2
              apply Array.ext'
              simp
          · cases hev
        · cases hev
      · cases hc
    · cases hc
  · cases hc
end
end Go.AM
end
section
/- The simulation of single operations, last part: literals, append, copy; and all operations together. Generic over the program. -/
set_option linter.unusedSimpArgs false
set_option linter.unusedVariables false
namespace Go.AM
section
variable {P : Program} {s : Sg} {e : Look} {a : Act} {h h' : Heap} {o : Oper} {ao : AOp} {d : D} {kk : Nat}
theorem fill_sim (place : Nat → Option (Nat × Nat)) : ∀ (vs : List (Nat × Value)) (ps : List (Nat × Nat × List D)) (c c' : List D) (cells : Array Value), vs.length = ps.length →
    (∀ (i : Nat) (x : Nat × Value) (p : Nat × Nat × List D), vs[i]? = some x → ps[i]? = some p → place x.1 = some (p.1, p.2.1) ∧ All2 (RC s) x.2.cells.toList p.2.2) →
    fillB c ps = some c' → All2 (RC s) cells.toList c → ∃ cells', Instr.fill place cells vs = some cells' ∧ All2 (RC s) cells'.toList c'
  | [], ps, c, c', cells, hl, _, hf, hc => by
    obtain rfl : ps = [] := List.length_eq_zero_iff.1 (by simpa using hl.symm)
    simp [fillB] at hf
    subst hf
    exact ⟨cells, by simp [Instr.fill], hc⟩
  | (i, v) :: r, [], c, c', cells, hl, _, _, _ => by simp at hl
  | (i, v) :: r, (off, n, x) :: ps, c, c', cells, hl, hp, hf, hc => by
    obtain ⟨hpl, hx⟩ := hp 0 _ _ rfl rfl
    simp only at hpl hx
    simp only [fillB] at hf
    split at hf
    · rename_i hb
      have hvn : v.cells.toList.length = n := by rw [hx.1]; exact hb.1
      have hcs : cells.toList.length = c.length := hc.1
      have hvs : v.cells.size = n := by simpa using hvn
      have hss : cells.size = c.length := by simpa using hcs
      have hfold := fold_splice cells off v.cells.toList (by rw [hvn, hss]; exact hb.2)
      have hnew : All2 (RC s) (v.cells.zipIdx.foldl (fun cs (c, j) => cs.setIfInBounds (off + j) c) cells).toList (splice c off x) := by
        rw [show v.cells = v.cells.toList.toArray by simp]
        rw [hfold]
        have hh := All2.splice (R := RC s) (xs := cells.toList) (vs := v.cells.toList) (ys := c) (new := x) (n := c.length) (off := off) (by rw [← hcs, List.take_length]; exact hc) rfl hx (by rw [hb.1]; exact hb.2)
        rw [List.take_of_length_le (by simp; omega)] at hh
        exact hh
      obtain ⟨cells', h1, h2⟩ := fill_sim place r ps (splice c off x) c' _ (by simpa using hl) (fun j y p hy hpj => hp (j + 1) y p (by simpa using hy) (by simpa using hpj)) hf hnew
      refine ⟨cells', ?_, h2⟩
      have hcond : ¬ (v.cells.size ≠ n ∨ off + v.cells.size > cells.size) := by omega
      simp only [Instr.fill, hpl]
      rw [if_neg (by simpa using hcond)]
      exact h1
    · cases hf
theorem cPartsA_sim {sz : Nat} : ∀ {parts : List (Nat × Operand)} {l : List (Nat × Nat × O)}, cPartsA sz parts = some l → RE s e a.tmps → ∀ {ps : List (Nat × Nat × List D)}, evQ e l = some ps →
    (parts.map fun (i, x) => (i, a.eval x)).length = ps.length ∧ ∀ (i : Nat) (x : Nat × Value) (p : Nat × Nat × List D), (parts.map fun (i, x) => (i, a.eval x))[i]? = some x → ps[i]? = some p → (p.1 = x.1 * sz ∧ p.2.1 = sz) ∧ All2 (RC s) x.2.cells.toList p.2.2
  | [], l, hc, _, ps, he => by simp [cPartsA] at hc; subst hc; simp [evQ] at he; subst he; simp
  | (i0, x) :: r, l, hc, E, ps, he => by
    simp only [cPartsA] at hc
    split at hc
    · rename_i y l' h1 h2
      injection hc with hc; subst hc
      simp only [evQ] at he
      split at he
      · rename_i dd ll h3 h4
        injection he with he; subst he
        obtain ⟨ih1, ih2⟩ := cPartsA_sim h2 E h4
        refine ⟨by simpa using ih1, ?_⟩
        intro i x' p hi hi'
        cases i with
        | zero =>
          simp at hi hi'
          subst hi; subst hi'
          cases h5 : evO e y with
          | none => rw [h5] at h3; cases h3
          | some dy => rw [h5] at h3; exact ⟨⟨rfl, rfl⟩, (cO_sim h1 E h5).cells h3⟩
        | succ i => exact ih2 i x' p (by simpa using hi) (by simpa using hi')
      · cases he
    · cases hc
theorem cPartsF_sim {fs : List Field} : ∀ {parts : List (Nat × Operand)} {l : List (Nat × Nat × O)}, cPartsF P fs parts = some l → RE s e a.tmps → ∀ {ps : List (Nat × Nat × List D)}, evQ e l = some ps →
    (parts.map fun (i, x) => (i, a.eval x)).length = ps.length ∧ ∀ (i : Nat) (x : Nat × Value) (p : Nat × Nat × List D), (parts.map fun (i, x) => (i, a.eval x))[i]? = some x → ps[i]? = some p →
      (∃ f, fs[x.1]? = some f ∧ p.1 = f.offset ∧ szOf P f.type = some p.2.1) ∧ All2 (RC s) x.2.cells.toList p.2.2
  | [], l, hc, _, ps, he => by simp [cPartsF] at hc; subst hc; simp [evQ] at he; subst he; simp
  | (i0, x) :: r, l, hc, E, ps, he => by
    simp only [cPartsF] at hc
    split at hc
    · rename_i f y l' hf h1 h2
      split at hc
      · rename_i n hn
        injection hc with hc; subst hc
        simp only [evQ] at he
        split at he
        · rename_i dd ll h3 h4
          injection he with he; subst he
          obtain ⟨ih1, ih2⟩ := cPartsF_sim h2 E h4
          refine ⟨by simpa using ih1, ?_⟩
          intro i x' p hi hi'
          cases i with
          | zero =>
            simp at hi hi'
            subst hi; subst hi'
            cases h5 : evO e y with
            | none => rw [h5] at h3; cases h3
            | some dy => rw [h5] at h3; exact ⟨⟨f, hf, rfl, hn⟩, (cO_sim h1 E h5).cells h3⟩
          | succ i => exact ih2 i x' p (by simpa using hi) (by simpa using hi')
        · cases he
      · cases hc
    · cases hc
theorem places_run (fs : Array Field) (hs : fs.toList.all (fun f => (szOf P f.type).isSome) = true) (w : World) :
    ∃ pl : Array (Nat × Nat), (fs.mapM fun f => do pure (f.offset, ← sizeOf f.type) : Sem (Array (Nat × Nat))).run P w = .ok pl w ∧ ∀ (i : Nat) (f : Field) (n : Nat), fs[i]? = some f → szOf P f.type = some n → pl[i]? = some (f.offset, n) := by
  rw [Array.mapM_eq_mapM_toList]
  have key : ∀ l : List Field, l.all (fun f => (szOf P f.type).isSome) = true → ∃ pl : List (Nat × Nat), (l.mapM fun f => do pure (f.offset, ← sizeOf f.type) : Sem (List (Nat × Nat))).run P w = .ok pl w ∧
      ∀ (i : Nat) (f : Field) (n : Nat), l[i]? = some f → szOf P f.type = some n → pl[i]? = some (f.offset, n) := by
    intro l
    induction l with
    | nil => intro _; exact ⟨[], by simp, by simp⟩
    | cons f r ih =>
      intro hall
      simp at hall
      obtain ⟨m, hm⟩ := Option.isSome_iff_exists.1 hall.1
      obtain ⟨pl, h1, h2⟩ := ih (by simpa using hall.2)
      refine ⟨(f.offset, m) :: pl, by simp only [List.mapM_cons, Sem.run_bind, szOf_run hm, Result.andThen_ok, Sem.run_pure, h1], ?_⟩
      intro i g n hi hn
      cases i with
      | zero => simp at hi; subst hi; rw [hm] at hn; injection hn with hn; subst hn; rfl
      | succ i => simp at hi ⊢; exact h2 i g n hi hn
  obtain ⟨pl, h1, h2⟩ := key fs.toList hs
  refine ⟨pl.toArray, by simp only [Sem.run_map, h1, Result.andThen_ok], ?_⟩
  intro i f n hi hn
  simpa using h2 i f n (by simpa using hi) hn
theorem sim_build {t : Nat} {parts : Array (Nat × Operand)} (ho : o.op = .build t parts) (hc : cOp P (.build t parts) = some ao) (H : RH s h) (E : RE s e a.tmps) (hev : evOp e h kk ao = some (d, h')) :
    Good s kk ((execOp a.eval o).run P s.w) d h' := by
  simp only [cOp] at hc
  have hmap : (parts.map fun (i, x) => (i, a.eval x)).toList = parts.toList.map fun (i, x) => (i, a.eval x) := by simp
  split at hc
  · rename_i z fs hz hu
    split at hc
    · rename_i hall
      split at hc
      · rename_i l hl
        injection hc with hc; subst hc
        simp only [evOp] at hev
        split at hev
        · rename_i ps h1
          split at hev
          · rename_i c h2
            injection hev with hev; injection hev with h5 h6; subst h5; subst h6
            obtain ⟨zv, hzv, hzs⟩ := zeroOf_run hz s.w
            have hzall := ofScalars_rp hzs s
            obtain ⟨q1, q2⟩ := cPartsF_sim hl E h1
            obtain ⟨pl, hpl, hpl2⟩ := places_run (P := P) fs hall s.w
            obtain ⟨cells', r1, r2⟩ := fill_sim (pl[·]?) _ ps z c zv.cells q1 (fun i x p hx hp => by
              obtain ⟨⟨f, f1, f2, f3⟩, f4⟩ := q2 i x p hx hp
              refine ⟨?_, f4⟩
              rw [hpl2 x.1 f p.2.1 (by simpa using f1) f3, f2]) h2 hzall
            refine Good.same H (v := .agg cells') ?_ (RV.mkagg r2)
            have r1' : Instr.fill (pl[·]?) zv.cells (parts.map fun (i, x) => (i, a.eval x)).toList = some cells' := by rw [hmap]; exact r1
            simp only [execOp, ho]
            refine run_v ?_
            unfold Instr.build
            simp only [Sem.run_bind, hzv, Result.andThen_ok, run_underlying hu, hpl, r1', Sem.run_pure]
          · cases hev
        · cases hev
      · cases hc
    · cases hc
  · rename_i z len el hz hu
    split at hc
    · rename_i n hn
      split at hc
      · rename_i l hl
        injection hc with hc; subst hc
        simp only [evOp] at hev
        split at hev
        · rename_i ps h1
          split at hev
          · rename_i c h2
            injection hev with hev; injection hev with h5 h6; subst h5; subst h6
            obtain ⟨zv, hzv, hzs⟩ := zeroOf_run hz s.w
            have hzall := ofScalars_rp hzs s
            obtain ⟨q1, q2⟩ := cPartsA_sim hl E h1
            obtain ⟨cells', r1, r2⟩ := fill_sim (fun i => some (i * n, n)) _ ps z c zv.cells q1 (fun i x p hx hp => by
              obtain ⟨⟨f2, f3⟩, f4⟩ := q2 i x p hx hp
              exact ⟨by rw [f2, f3], f4⟩) h2 hzall
            refine Good.same H (v := .agg cells') ?_ (RV.mkagg r2)
            have r1' : Instr.fill (fun i => some (i * n, n)) zv.cells (parts.map fun (i, x) => (i, a.eval x)).toList = some cells' := by rw [hmap]; exact r1
            simp only [execOp, ho]
            refine run_v ?_
            unfold Instr.build
            simp only [Sem.run_bind, hzv, Result.andThen_ok, run_underlying hu, szOf_run hn, r1', Sem.run_pure]
          · cases hev
        · cases hev
      · cases hc
    · cases hc
  · cases hc
theorem sim_buildS {t len : Nat} {parts : Array (Nat × Operand)} (ho : o.op = .buildSlice t len parts) (hc : cOp P (.buildSlice t len parts) = some ao) (H : RH s h) (hkk : ¬ s.used kk) (E : RE s e a.tmps) (hev : evOp e h kk ao = some (d, h')) :
    Good s kk ((execOp a.eval o).run P s.w) d h' := by
  simp only [cOp] at hc
  have hmap : (parts.map fun (i, x) => (i, a.eval x)).toList = parts.toList.map fun (i, x) => (i, a.eval x) := by simp
  split at hc
  · rename_i el hu
    split at hc
    · rename_i n z hn hz
      split at hc
      · rename_i hlim
        split at hc
        · rename_i l hl
          injection hc with hc; subst hc
          simp only [evOp] at hev
          split at hev
          · rename_i ps h1
            split at hev
            · rename_i hpos
              obtain ⟨hzl, hpos⟩ := hpos
              split at hev
              · rename_i c h2
                injection hev with hev; injection hev with h5 h6; subst h5; subst h6
                obtain ⟨zv, hzv, hzs⟩ := zeroOf_run hz s.w
                have hzall := ofScalars_rp hzs s
                have hzsz : zv.cells.size = z.length := by simpa using hzall.1
                obtain ⟨q1, q2⟩ := cPartsA_sim hl E h1
                have hzeros := zeros_sim hzall len len (Nat.le_refl _) (by omega)
                have hz0 : All2 (RC s) ((Array.range (len * n)).map (zv.cells[· % zv.cells.size]!)).toList (rep len z) := by
                  rw [List.take_of_length_le (by simp [rep_length])] at hzeros
                  rw [← hzl]
                  exact hzeros
                obtain ⟨cells', r1, r2⟩ := fill_sim (fun i => some (i * n, n)) _ ps (rep len z) c ((Array.range (len * n)).map (zv.cells[· % zv.cells.size]!)) q1 (fun i x p hx hp => by
                  obtain ⟨⟨f2, f3⟩, f4⟩ := q2 i x p hx hp
                  exact ⟨by rw [f2, f3], f4⟩) h2 hz0
                have r1' : Instr.fill (fun i => some (i * n, n)) ((Array.range (len * n)).map (zv.cells[· % zv.cells.size]!)) (parts.map fun (i, x) => (i, a.eval x)).toList = some cells' := by rw [hmap]; exact r1
                have hcl : c.length = len * n := by
                  have hgen : ∀ (ps : List (Nat × Nat × List D)) (c0 c : List D), fillB c0 ps = some c → c.length = c0.length := by
                    intro ps
                    induction ps with
                    | nil => intro c0 c hf; simp [fillB] at hf; rw [hf]
                    | cons p r ih =>
                      intro c0 c hf
                      obtain ⟨off, m, x⟩ := p
                      simp only [fillB] at hf
                      split at hf
                      · rename_i hb
                        rw [ih _ _ hf, length_splice (by omega)]
                      · cases hf
                  rw [hgen ps _ _ h2, rep_length, hzl]
                obtain ⟨s', h3, h4, h5, _, h7, hus⟩ := new_block H hkk el cells'.toList c (by rw [← r2.1, List.take_length]; exact r2) { s.w with heap := s.w.heap.push (.cells cells' el (0, 0)) } (by simp) ⟨rfl, rfl, rfl⟩
                refine ⟨_, s', .inl ?_, h4, h5, h7 n len len (Nat.le_refl _) (by omega) (by rw [r2.1, hcl]; exact Nat.le_refl _), hus⟩
                rw [h3]
                simp only [execOp, ho]
                refine run_v ?_
                unfold Instr.buildSlice
                have hlim' : ¬ (len * n > 2 ^ 24) := by have := hlim.1; omega
                by_cases hl0 : len * n = 0
                · have hlen0 : len = 0 := by
                    rcases Nat.mul_eq_zero.1 hl0 with h | h
                    · exact h
                    · omega
                  have hr0 : (Array.range (len * n)).map (zv.cells[· % zv.cells.size]!) = (Array.range (len * n)).map ((#[] : Array Value)[· % (#[] : Array Value).size]!) := by
                    rw [hl0]; apply Array.ext'; simp
                  rw [hr0] at r1'
                  simp only [Sem.run_bind, run_underlying hu, Result.andThen_ok, szOf_run hn, if_neg hlim', if_pos hl0, Sem.run_pure, r1', newRow, run_newObj]
                · simp only [Sem.run_bind, run_underlying hu, Result.andThen_ok, szOf_run hn, if_neg hlim', if_neg hl0, hzv, Sem.run_pure, r1', newRow, run_newObj]
              · cases hev
            · cases hev
          · cases hev
        · cases hc
      · cases hc
    · cases hc
  · cases hc
end
end Go.AM
end
section
/- The simulation of append and copy. Generic over the program. -/
set_option linter.unusedSimpArgs false
set_option linter.unusedVariables false
namespace Go.AM
theorem RH.rekey {s : Sg} {h : Heap} (H : RH s h) {k : Nat} {c : List D} (hk : h k = some c) {b n e : Nat} (hb : s.ρ k = some (some b, n)) {cs cs' : Array Value}
    (hh : s.w.heap[b]? = some (.cells cs e (0, 0))) (hsz : cs'.size = cs.size) (w' : World) (hws : w'.heap.size = s.w.heap.size) (hsame : w'.heap[b]? = some (.cells cs' e (0, 0))) (hoth : ∀ b', b' ≠ b → w'.heap[b']? = s.w.heap[b']?)
    (kk : Nat) (hkk : ¬ s.used kk) (c' : List D) (hcl : c'.length ≤ cs.size) (hc : All2 (RC s) (cs'.toList.take c'.length) c') (hso : SameO s.w w') :
    ∃ s' : Sg, s'.w = w' ∧ Ext s s' ∧ RH s' (upd (del h k) kk c') ∧ s'.used kk ∧ s'.ρ kk = some (some b, c'.length) ∧ (∀ i, s'.used i → s.used i ∨ i = kk) := by
  let s' : Sg := { w := w', ρ := fun i => if i = kk then some (some b, c'.length) else if i = k then none else s.ρ i, prot := s.prot, used := fun i => s.used i ∨ i = kk, next := max s.next (kk + 1) }
  obtain ⟨hnl, hnp, _⟩ := H.block hk hb
  have hku : s.used k := H.isUsed hk
  have hρ : ∀ i x, i ≠ kk → s'.ρ i = some x → i ≠ k ∧ s.ρ i = some x := by
    intro i x hi hx
    have hx' : (if i = kk then some (some b, c'.length) else if i = k then none else s.ρ i) = some x := hx
    rw [if_neg hi] at hx'
    by_cases e : i = k
    · rw [if_pos e] at hx'; cases hx'
    · rw [if_neg e] at hx'; exact ⟨e, hx'⟩
  have hnew : s'.ρ kk = some (some b, c'.length) := by show (if kk = kk then _ else _) = _; rw [if_pos rfl]
  have hne : ∀ i, s.used i → i ≠ kk := fun i hi e => hkk (by rw [← e]; exact hi)
  have hx : Ext s s' := by
    refine ⟨Nat.le_max_left _ _, fun _ h => .inl h, by show s.w.heap.size ≤ w'.heap.size; omega, fun b' hb' => ⟨hb', hoth b' (fun h => hnp (h ▸ hb'))⟩, fun i x hi hx => (hρ i x (hne i hi) hx).2, ?_, hso⟩
    intro k' b' n' cs2 e2 hk' hx' hb'
    have hne : b' ≠ b := by
      rintro rfl
      obtain ⟨h1, h2⟩ := hρ k' _ (hne k' hk') hx'
      exact h1 (H.inj k' k b' _ _ h2 hb)
    exact ⟨cs2, (hoth b' hne).trans hb', rfl⟩
  refine ⟨s', rfl, hx, ⟨?_, ?_, ?_, ?_, ?_⟩, .inr rfl, hnew, fun i hi => hi⟩
  · intro b' hb'; have := H.lt b' hb'; show b' < w'.heap.size; omega
  · intro k1 k2 b' n1 n2 h1 h2
    by_cases e1 : k1 = kk <;> by_cases e2 : k2 = kk
    · omega
    · subst e1
      rw [hnew] at h1; injection h1 with h1; injection h1 with h1 _; injection h1 with h1; subst h1
      obtain ⟨h3, h4⟩ := hρ _ _ e2 h2
      exact absurd (H.inj _ _ _ _ _ h4 hb) h3
    · subst e2
      rw [hnew] at h2; injection h2 with h2; injection h2 with h2 _; injection h2 with h2; subst h2
      obtain ⟨h3, h4⟩ := hρ _ _ e1 h1
      exact absurd (H.inj _ _ _ _ _ h4 hb) h3
    · exact H.inj _ _ _ _ _ (hρ _ _ e1 h1).2 (hρ _ _ e2 h2).2
  · intro i hi
    have hi' : (if i = kk then some c' else if i = k then none else h i) = none := hi
    show (if i = kk then _ else if i = k then none else s.ρ i) = none
    by_cases e1 : i = kk
    · rw [if_pos e1] at hi'; cases hi'
    · rw [if_neg e1] at hi' ⊢
      by_cases e2 : i = k
      · rw [if_pos e2]
      · rw [if_neg e2] at hi' ⊢; exact H.dead i hi'
  · intro i hi
    show i < max s.next (kk + 1)
    rcases hi with hi | hi
    · have := H.bound i hi; omega
    · omega
  · intro i c2 hi
    have hi' : (if i = kk then some c' else if i = k then none else h i) = some c2 := hi
    by_cases e1 : i = kk
    · rw [if_pos e1] at hi'
      injection hi' with hi'
      subst hi'; subst e1
      refine ⟨.inr rfl, some b, hnew, by simp, ?_⟩
      intro b' hb'
      injection hb' with hb'
      subst hb'
      exact ⟨hnp, cs', e, hsame, by omega, hc.mono fun _ _ h => h.mono hx⟩
    · rw [if_neg e1] at hi'
      by_cases e2 : i = k
      · rw [if_pos e2] at hi'; cases hi'
      · rw [if_neg e2] at hi'
        obtain ⟨hl, x, hx', hn, hq⟩ := H.own i c2 hi'
        refine ⟨.inl hl, x, by show (if i = kk then _ else if i = k then none else s.ρ i) = _; rw [if_neg e1, if_neg e2]; exact hx', hn, ?_⟩
        intro b2 hb2
        subst hb2
        obtain ⟨hp, cs3, e3, hb3, hl3, hall⟩ := hq b2 rfl
        have hne : b2 ≠ b := by
          rintro rfl
          exact e2 (H.inj i k b2 _ _ hx' hb)
        exact ⟨hp, cs3, e3, (hoth b2 hne).trans hb3, hl3, hall.mono fun _ _ h => h.mono hx⟩
section
variable {P : Program} {s : Sg} {e : Look} {a : Act} {h h' : Heap} {o : Oper} {ao : AOp} {d : D} {kk : Nat}
theorem CellsAt.heap {w w' : World} (hw : w'.heap = w.heap) {b o : Nat} {vs : List Value} (h : CellsAt w b o vs) : CellsAt w' b o vs := by
  intro i v hi
  have := h i v hi
  simpa only [World.cell?, hw] using this
theorem firstCells_zero (sz : Nat) (ad : Option Addr) (len cap : Nat) (w : World) : (Builtin.firstCells sz 0 (.slice ad len cap)).run P w = .ok #[] w := by
  cases ad <;> simp [Builtin.firstCells, loadCells, loadCellsFrom]
theorem srcD_sim (H : RH s h) {v : Value} {x : D} (hv : RV s v x) {sz n : Nat} {new : List D} (hs : srcD h sz n x = some new) :
    new.length = n * sz ∧ ∃ arr : Array Value, All2 (RC s) arr.toList new ∧ ∀ w : World, w.heap = s.w.heap → (Builtin.firstCells sz n v).run P w = .ok arr w := by
  unfold srcD at hs
  split at hs
  · split at hs
    · rename_i h0
      injection hs with hs; subst hs; subst h0
      have := hv.inv_nil; subst this
      exact ⟨by simp, #[], All2.nil, fun w _ => firstCells_zero _ _ _ _ _⟩
    · cases hs
  · split at hs
    · rename_i h0
      injection hs with hs; subst hs; subst h0
      obtain ⟨ad, rfl⟩ := hv.inv_emp
      exact ⟨by simp, #[], All2.nil, fun w _ => firstCells_zero _ _ _ _ _⟩
    · cases hs
  · rename_i sz' cells len
    split at hs
    · rename_i hb
      obtain ⟨rfl, hnl, hcl⟩ := hb
      injection hs with hs; subst hs
      have hle : n * sz' ≤ len * sz' := Nat.mul_le_mul_right _ hnl
      have hi := hv.inv_vs
      cases hi with
      | vs0 ad cap =>
        obtain rfl : n = 0 := by omega
        exact ⟨by simp, #[], by simpa using All2.nil, fun w _ => firstCells_zero _ _ _ _ _⟩
      | vs b off cap sz len cells cs hl hc hb hcs hoo hm hr =>
        have hall : All2 (RC s) cs cells := ⟨hcs, fun i v d h1 h2 => ⟨.pure (hr i v d h1 h2), hoo v (List.mem_of_getElem? h1)⟩⟩
        refine ⟨by simp; omega, (cs.take (n * sz')).toArray, by simpa using hall.take _, fun w hw => ?_⟩
        have hat : CellsAt s.w b off cs := hm
        have := ((hat.sub 0 (n * sz')).heap hw).load (P := P) (n * sz') (by simp; omega)
        simpa [Builtin.firstCells] using this
    · cases hs
  · rename_i k sz' off len
    split at hs
    · rename_i hb
      obtain ⟨rfl, hnl⟩ := hb
      split at hs
      · rename_i c hk
        split at hs
        · rename_i hlen
          injection hs with hs; subst hs
          have hle : n * sz' ≤ len * sz' := Nat.mul_le_mul_right _ hnl
          have hkn := hv.inv_sl.1
          obtain ⟨ad, cap, rfl, hlc, _, hq⟩ := sl_live H hv hk
          refine ⟨by simp; omega, ?_⟩
          rcases hq with h0 | ⟨b, cs, e', hx, rfl, hb, hs⟩
          · obtain rfl : n = 0 := by omega
            exact ⟨#[], by simpa using All2.nil, fun w _ => firstCells_zero _ _ _ _ _⟩
          · obtain ⟨_, _, cs2, e2, hh2, hl2, hall⟩ := H.block hk hx
            rw [hb] at hh2
            injection hh2 with hh2; injection hh2 with h3 _; subst h3
            refine ⟨(((cs.toList.take c.length).drop off).take (n * sz')).toArray, by simpa using All2.slice hall off (n * sz'), fun w hw => ?_⟩
            have hat : CellsAt s.w b 0 (cs.toList.take c.length) := by
              have := (cellsAt_block hb).sub 0 c.length
              simpa using this
            have := ((hat.sub off (n * sz')).heap hw).load (P := P) (n * sz') (by simp; omega)
            simpa [Builtin.firstCells] using this
        · cases hs
      · cases hs
    · cases hs
  · rename_i z
    split at hs
    · rename_i hb
      obtain ⟨rfl, hnl⟩ := hb
      injection hs with hs; subst hs
      have := hv.inv_str; subst this
      have hz : z.data.toList.length = z.size := Array.length_toList
      refine ⟨by rw [List.length_map, List.length_take, hz]; omega, ((z.extract 0 n).data.map fun b => .int .u8 b.toNat), ?_, fun w _ => by simp [Builtin.firstCells]⟩
      have he : (z.extract 0 n).data.toList = z.data.toList.take n := by
        simp [ByteArray.data_extract, Array.toList_extract, List.extract_eq_take_drop]
      rw [Array.toList_map, he]
      refine ⟨by simp, ?_⟩
      intro i v d h1 h2
      rw [List.getElem?_map] at h1 h2
      cases hb : (z.data.toList.take n)[i]? with
      | none => rw [hb] at h1; cases h1
      | some u => rw [hb] at h1 h2; simp at h1 h2; subst h1; subst h2; exact ⟨.pure (.int _ _), rfl⟩
    · cases hs
  · cases hs
theorem append_room {t u el ty : Nat} {i : TypeInfo} (hu : P.underlying t = some (.slice el)) (hi : P.info? el = some i) (hint : ∀ k, P.underlying u ≠ some (.int k)) (hus : (P.underlying u).isSome) {ad : Option Addr} {len cap n : Nat} {x : Value} {w w' : World} {new : Array Value}
    (hn : (Builtin.lenOf x).run P w = .ok n w) (hnew : (Builtin.firstCells i.size n x).run P w = .ok new w) (hroom : len + n ≤ cap)
    (hst : (match ad with | some q => storeCells (q.add (len * i.size)) new.toList | none => pure ()).run P w = .ok () w') :
    (Builtin.append_ #[t, u] ty #[.slice ad len cap, x]).run P w = .ok (.slice ad (len + n) cap) w' := by
  obtain ⟨du, hdu⟩ := Option.isSome_iff_exists.1 hus
  have hti : ∀ w, (typeInfo el).run P w = .ok i w := fun w => by simp [typeInfo, hi]
  have hsz : ∀ w, (sizeOf el).run P w = .ok i.size w := fun w => by simp [sizeOf, hti]
  unfold Builtin.append_
  simp only [List.getElem?_toArray, List.getElem?_cons_zero, List.getElem?_cons_succ, Sem.run_bind, run_underlying hu, Result.andThen_ok, hsz, Sem.run_pure]
  rw [run_underlying hdu]
  cases du
  case int k => exact absurd hdu (hint k)
  all_goals
    simp only [Result.andThen_ok, Bool.false_eq_true, if_false, hn, Bool.not_false, if_true, Sem.run_ite, if_pos hroom, Sem.run_bind, hnew, Sem.run_pure]
    cases ad with
    | none => simp at hst; subst hst; simp
    | some q => simp at hst; simp [hst]
theorem append_grow {t u el ty : Nat} {i : TypeInfo} {zv : Value} (hu : P.underlying t = some (.slice el)) (hi : P.info? el = some i) (hz0 : i.zero = some zv) (hint : ∀ k, P.underlying u ≠ some (.int k)) (hus : (P.underlying u).isSome)
    {ad : Option Addr} {len cap n : Nat} {x : Value} {w : World} {old new : Array Value}
    (hn : (Builtin.lenOf x).run P w = .ok n w) (hold : ∀ w1 : World, w1.heap = w.heap → (Builtin.firstCells i.size len (.slice ad len cap)).run P w1 = .ok old w1)
    (hnew : ∀ w1 : World, w1.heap = w.heap → (Builtin.firstCells i.size n x).run P w1 = .ok new w1) (hgrow : cap < len + n) (hby : 0 < i.bytes) (hroom : (len + n) * i.bytes ≤ room) :
    ∃ (c : Nat) (w' : World), len + n ≤ c ∧ w'.heap = w.heap.push (.cells (old ++ new ++ Builtin.zeroCells zv.cells (c - (len + n))) el (0, 0)) ∧ SameO w w' ∧
      (Builtin.append_ #[t, u] ty #[.slice ad len cap, x]).run P w = .ok (.slice (some ⟨w.heap.size, 0, none⟩) (len + n) c) w' := by
  obtain ⟨du, hdu⟩ := Option.isSome_iff_exists.1 hus
  let q : Question := .appendCap (len + n) cap el
  let c := q.cut (w.tape w.drawn q)
  let w1 : World := { w with drawn := w.drawn + 1 }
  have hc : len + n ≤ c := by show len + n ≤ len + n + _; exact Nat.le_add_right _ _
  have hfits := growslice_fits hgrow (show (len + n) * i.bytes ≤ 140737488355328 by simpa [room] using hroom)
  have hlen : len + n ≤ (len + n) * i.bytes := Nat.le_mul_of_pos_right _ hby
  have hmax : ¬ (((len + n : Nat) : Int) > IntKind.i64.max ∧ (False ∨ i.bytes = 0)) := by
    intro ⟨_, h2⟩
    rcases h2 with h2 | h2
    · exact h2
    · omega
  refine ⟨c, { w1 with heap := w1.heap.push (.cells (old ++ new ++ Builtin.zeroCells zv.cells (c - (len + n))) el (0, 0)) }, hc, rfl, ⟨rfl, rfl, rfl⟩, ?_⟩
  have hti : ∀ w, (typeInfo el).run P w = .ok i w := fun w => by simp [typeInfo, hi]
  have hsz : ∀ w, (sizeOf el).run P w = .ok i.size w := fun w => by simp [sizeOf, hti]
  unfold Builtin.append_
  simp only [List.getElem?_toArray, List.getElem?_cons_zero, List.getElem?_cons_succ, Sem.run_bind, run_underlying hu, Result.andThen_ok, hsz, Sem.run_pure]
  rw [run_underlying hdu]
  have hb2 : ¬ (Builtin.nextslicecap (len + n) cap * i.bytes > 2 ^ 48) := by simpa using hfits
  have hng : ¬ (len + n ≤ cap) := by omega
  have hq : q.forced = false := rfl
  cases du
  case int k => exact absurd hdu (hint k)
  all_goals
    simp only [Result.andThen_ok, Bool.false_eq_true, if_false, hn, Bool.not_false, if_true, Sem.run_ite, if_neg hng, hti, if_neg hmax, Sem.run_bind, Sem.run_pure, if_neg hb2, run_choose]
    show ((if q.forced = true then _ else _ : Result Nat).andThen _) = _
    rw [hq]
    simp only [Bool.false_eq_true, if_false, Result.andThen_ok, Sem.run_bind, run_askRoom, hti, Sem.run_pure]
    rw [hold w1 rfl]
    simp only [Result.andThen_ok]
    rw [hnew w1 rfl]
    simp only [zeroValue, hti, Sem.run_bind, hz0, Sem.run_pure, Result.andThen_ok, newRow, run_newObj]
    rfl
end
end Go.AM
end
section
/- The simulation of append and copy, second part; all operations together. Generic over the program. -/
set_option linter.unusedSimpArgs false
set_option linter.unusedVariables false
namespace Go.AM
section
variable {P : Program} {s : Sg} {e : Look} {a : Act} {h h' : Heap} {o : Oper} {ao : AOp} {d : D} {kk : Nat}
theorem zeroOf_info {el : Nat} {z : List D} {i : TypeInfo} (hz : zeroOf P el = some z) (hi : P.info? el = some i) : ∃ zv, i.zero = some zv ∧ ofScalars zv.cells.toList = some z := by
  unfold zeroOf at hz
  rw [hi] at hz
  simp only at hz
  split at hz
  · rename_i zv h; exact ⟨zv, h, hz⟩
  · cases hz
theorem take_len_append {α : Type} (x y : List α) (n : Nat) (h : x.length = n) : (x ++ y).take n = x := by rw [List.take_append_of_le_length (by omega), List.take_of_length_le (by omega)]
theorem appD_sim {t u el ty : Nat} {i : TypeInfo} {z : List D} (hu : P.underlying t = some (.slice el)) (hi : P.info? el = some i) (hz : zeroOf P el = some z) (hzl : z.length = i.size) (hint : ∀ k, P.underlying u ≠ some (.int k)) (hus : (P.underlying u).isSome)
    (hpos : 0 < i.size) (hby : 0 < i.bytes) (H : RH s h) {x y : D} {vx vy : Value} (hx : RV s vx x) (hy : RV s vy y) (hkk : ¬ s.used kk) (hev : appD h kk i.size i.bytes x y = some (d, h')) :
    ∃ v s', (Builtin.append_ #[t, u] ty #[vx, vy]).run P s.w = .ok v s'.w ∧ Ext s s' ∧ RH s' h' ∧ RV s' v d ∧ ∀ k, s'.used k → s.used k ∨ k = kk := by
  obtain ⟨zv, hzv, hzs⟩ := zeroOf_info hz hi
  have hzall := ofScalars_rp hzs s
  have hzsz : zv.cells.size = i.size := by have := hzall.1; simp at this; omega
  unfold appD at hev
  split at hev
  · cases hev
  · rename_i n hn
    split at hev
    · cases hev
    · rename_i new hs
      obtain ⟨hnl, arr, harr, hfirst⟩ := srcD_sim (P := P) H hy hs
      have hlen : (Builtin.lenOf vy).run P s.w = .ok n s.w := lenA_run hy hn s.w
      -- growth of a slice without cells
      have grow0 : ∀ ad, (n * i.bytes ≤ room) → n ≠ 0 → some (D.sl kk i.size 0 n, upd h kk new) = some (d, h') → vx = .slice ad 0 0 →
          ∃ v s', (Builtin.append_ #[t, u] ty #[vx, vy]).run P s.w = .ok v s'.w ∧ Ext s s' ∧ RH s' h' ∧ RV s' v d ∧ ∀ k, s'.used k → s.used k ∨ k = kk := by
        intro ad hroom hn0 heq hv
        injection heq with heq; injection heq with h5 h6; subst h5; subst h6; subst hv
        obtain ⟨c, w', hc, hw, hso, hrun⟩ := append_grow (P := P) (t := t) (u := u) (ty := ty) (ad := ad) (len := 0) (cap := 0) hu hi hzv hint hus hlen (fun w1 _ => firstCells_zero _ _ _ _ _) hfirst (by omega) hby (by simpa using hroom)
        have hrow : ((#[] ++ arr ++ Builtin.zeroCells zv.cells (c - (0 + n)) : Array Value).toList).take new.length = arr.toList := by
          rw [Array.toList_append, Array.toList_append]
          simpa using take_len_append arr.toList _ new.length harr.1
        have hrl : ((#[] ++ arr ++ Builtin.zeroCells zv.cells (c - (0 + n)) : Array Value).toList).length = c * i.size := by
          have h1 := harr.1
          have h2 := size_zeroCells zv.cells (c - n)
          have h3 : (c - n) * i.size = c * i.size - n * i.size := Nat.sub_mul _ _ _
          have h4 : n * i.size ≤ c * i.size := Nat.mul_le_mul_right _ (by omega)
          simp at h1 h2 ⊢
          rw [h2, hzsz]; omega
        obtain ⟨s', h3, h4, h5, _, h7, hus⟩ := new_block H hkk el (#[] ++ arr ++ Builtin.zeroCells zv.cells (c - (0 + n)) : Array Value).toList new (by rw [hrow]; exact harr) w' (by rw [Array.toArray_toList]; exact hw) hso
        refine ⟨_, s', by rw [h3]; exact hrun, h4, h5, ?_, hus⟩
        have hh := h7 i.size n c (by omega) (by rw [hnl]; exact Nat.mul_le_mul_right _ (by omega)) (by rw [hrl]; exact Nat.le_refl _)
        simpa using hh
      split at hev
      · split at hev
        · rename_i hn0
          injection hev with hev; injection hev with h5 h6; subst h5; subst h6; subst hn0
          have hv := hx.inv_nil; subst hv
          refine ⟨.slice none 0 0, s, ?_, .refl s, H, .pure .nil, fun _ h => .inl h⟩
          have := append_room (P := P) (t := t) (u := u) (ty := ty) (ad := none) (len := 0) (cap := 0) (w' := s.w) hu hi hint hus hlen (hfirst s.w rfl) (Nat.le_refl _) (by simp)
          simpa using this
        · rename_i hn0
          split at hev
          · rename_i hroom; exact grow0 none hroom hn0 hev hx.inv_nil
          · cases hev
      · split at hev
        · rename_i hn0
          injection hev with hev; injection hev with h5 h6; subst h5; subst h6; subst hn0
          obtain ⟨ad, hv⟩ := hx.inv_emp; subst hv
          refine ⟨.slice ad 0 0, s, ?_, .refl s, H, .pure (.emp _), fun _ h => .inl h⟩
          have hat : arr = #[] := by apply Array.ext'; have := harr.1; rw [hnl] at this; simp at this; simp [this]
          subst hat
          have := append_room (P := P) (t := t) (u := u) (ty := ty) (ad := ad) (len := 0) (cap := 0) (w' := s.w) hu hi hint hus hlen (hfirst s.w rfl) (Nat.le_refl _) (by cases ad <;> simp [storeCells])
          simpa using this
        · rename_i hn0
          obtain ⟨ad, hv⟩ := hx.inv_emp
          split at hev
          · rename_i hroom; exact grow0 ad hroom hn0 hev hv
          · cases hev
      · rename_i k sz' off len
        split at hev
        · rename_i hsz
          subst hsz
          split at hev
          · cases hev
          · rename_i c hk
            obtain ⟨ad, cap, hv, hlc, hcl, hq⟩ := sl_live H hx hk
            split at hev
            · rename_i hn0
              injection hev with hev; injection hev with h5 h6; subst h5; subst h6; subst hn0
              have hat : arr = #[] := by apply Array.ext'; have := harr.1; rw [hnl] at this; simp at this; simp [this]
              subst hat
              refine ⟨vx, s, ?_, .refl s, H, hx, fun _ h => .inl h⟩
              subst hv
              have := append_room (P := P) (t := t) (u := u) (ty := ty) (ad := ad) (len := len) (cap := cap) (w' := s.w) hu hi hint hus hlen (hfirst s.w rfl) (by omega) (by cases ad <;> simp [storeCells])
              simpa using this
            · rename_i hn0
              split at hev
              · rename_i hin
                injection hev with hev; injection hev with h5 h6; subst h5; subst h6
                have hln : (len + n) * i.size ≤ cap * i.size := by omega
                have hlncap : len + n ≤ cap := Nat.le_of_mul_le_mul_right hln hpos
                rcases hq with h0 | ⟨b, cs, e', hxk, rfl, hb, hs'⟩
                · omega
                · have hadd : (len + n) * i.size = len * i.size + n * i.size := Nat.add_mul _ _ _
                  obtain ⟨hst, s', hw, h4, h5, hρ, hnx⟩ := write_cells (P := P) H hk hxk hb harr (off := off + len * i.size) (by omega)
                  subst hv
                  have hrun := append_room (P := P) (t := t) (u := u) (ty := ty) (ad := some ⟨b, off, none⟩) (len := len) (cap := cap) hu hi hint hus hlen (hfirst s.w rfl) hlncap (by simp only [add_plain]; exact hst)
                  refine ⟨_, s', by rw [hw]; exact hrun, h4, h5, ?_, fun k hk => .inl (by rw [hnx] at hk; exact hk)⟩
                  have hkn := hx.inv_sl.1
                  refine .sl _ k i.size off (len + n) cap (by rw [hnx]; exact hkn) (by simp) hlncap ?_
                  intro x' m hx'
                  rw [hρ, hxk] at hx'
                  injection hx' with hx'; injection hx' with h7 h8
                  subst h7; subst h8
                  obtain ⟨cs2, hh2, hsz2⟩ := h4.blk k b _ cs e' hkn (by rw [hρ]; exact hxk) hb
                  exact ⟨by omega, .inr ⟨b, cs2, e', rfl, rfl, hh2, by omega⟩⟩
              · rename_i hnin
                split at hev
                · rename_i hcond
                  obtain ⟨hoff, hcl2, hroom⟩ := hcond
                  subst hoff
                  injection hev with hev; injection hev with h5 h6; subst h5; subst h6
                  have hadd : (len + n) * i.size = len * i.size + n * i.size := Nat.add_mul _ _ _
                  by_cases hfit : len + n ≤ cap
                  · -- there was room
                    rcases hq with h0 | ⟨b, cs, e', hxk, rfl, hb, hs'⟩
                    · omega
                    · obtain ⟨_, _, cs2, e2, hh2, hl2, hall⟩ := H.block hk hxk
                      rw [hb] at hh2
                      injection hh2 with hh2; injection hh2 with h3 h3'; subst h3; subst h3'
                      have hln : (len + n) * i.size ≤ cap * i.size := Nat.mul_le_mul_right _ hfit
                      have harl := harr.1
                      have hone : ∀ v ∈ arr.toList, v.oneCell' = true := by
                        intro v hv'
                        obtain ⟨j, hj⟩ := List.mem_iff_getElem?.1 hv'
                        have hlt : j < arr.toList.length := by
                          rcases Nat.lt_or_ge j arr.toList.length with h' | h'
                          · exact h'
                          · simp [List.getElem?_eq_none h'] at hj
                        exact (harr.2 j v _ hj (List.getElem?_eq_getElem (by omega))).2
                      have hst := run_storeCells_at P b (len * i.size) e' arr.toList 0 cs s.w hb (by omega) hone
                      subst hv
                      have hrun := append_room (P := P) (t := t) (u := u) (ty := ty) (ad := some ⟨b, 0, none⟩) (len := len) (cap := cap) hu hi hint hus hlen (hfirst s.w rfl) hfit (by simp only [add_plain, Nat.zero_add]; exact hst)
                      have hrow : ((cs.toList.take (len * i.size) ++ arr.toList ++ cs.toList.drop (len * i.size + arr.toList.length)).toArray.toList).take (c ++ new).length = cs.toList.take c.length ++ arr.toList := by
                        rw [← hcl2]
                        apply take_len_append
                        simp at harl ⊢; omega
                      obtain ⟨s', h3, h4, h5, h6, h7, hus⟩ := H.rekey hk hxk hb (cs' := (cs.toList.take (len * i.size) ++ arr.toList ++ cs.toList.drop (len * i.size + arr.toList.length)).toArray) (by simp at harl ⊢; omega) _ (setRow_size _ _ _) (setRow_heap _ _ _ _ _ _ hb)
                        (fun b' hne => setRow_other _ _ _ _ hne) kk hkk (c ++ new) (by simp; omega) (by rw [hrow]; exact hall.append harr) ⟨rfl, rfl, rfl⟩
                      refine ⟨_, s', by rw [h3]; simpa using hrun, h4, h5, ?_, hus⟩
                      refine .sl _ kk i.size 0 (len + n) cap h6 (by simp) hfit ?_
                      intro x' m hx'
                      rw [h7] at hx'
                      injection hx' with hx'; injection hx' with h8 h9
                      subst h8; subst h9
                      obtain ⟨cs9, h9, hsz9⟩ : ∃ cs9, s'.w.heap[b]? = some (.cells cs9 e' (0, 0)) ∧ cs9.size = cs.size := ⟨_, by rw [h3]; exact setRow_heap _ _ _ _ _ _ hb, by simp at harl ⊢; omega⟩
                      have hcn : (c ++ new).length = c.length + n * i.size := by simp [hnl]
                      exact ⟨by omega, .inr ⟨b, cs9, e', rfl, rfl, h9, by omega⟩⟩
                  · -- a new array
                    have hcells : ∃ old : Array Value, All2 (RC s) old.toList c ∧ ∀ w1 : World, w1.heap = s.w.heap → (Builtin.firstCells i.size len (.slice ad len cap)).run P w1 = .ok old w1 := by
                      subst hv
                      have hsrc : srcD h i.size len (.sl k i.size 0 len) = some c := by
                        simp only [srcD, hk]
                        rw [if_pos ⟨trivial, Nat.le_refl _⟩, if_pos (by omega), hcl2]
                        simp
                      obtain ⟨_, old, ho1, ho2⟩ := srcD_sim (P := P) H hx hsrc
                      exact ⟨old, ho1, ho2⟩
                    obtain ⟨old, hold1, hold2⟩ := hcells
                    subst hv
                    obtain ⟨cc, w', hc, hw, hso, hrun⟩ := append_grow (P := P) (t := t) (u := u) (ty := ty) hu hi hzv hint hus hlen hold2 hfirst (by omega) hby hroom
                    obtain ⟨s1, g1, g2, g3, g4⟩ := H.drop k
                    have hkk1 : ¬ s1.used kk := by rw [g4]; exact hkk
                    have hrow : ((old ++ arr ++ Builtin.zeroCells zv.cells (cc - (len + n)) : Array Value).toList).take (c ++ new).length = old.toList ++ arr.toList := by
                      rw [Array.toList_append, Array.toList_append]
                      apply take_len_append
                      have h1 := harr.1
                      have h2 := hold1.1
                      simp at h1 h2 ⊢; omega
                    have hrl : ((old ++ arr ++ Builtin.zeroCells zv.cells (cc - (len + n)) : Array Value).toList).length = cc * i.size := by
                      have h1 := harr.1
                      have h2 := hold1.1
                      have h3 := size_zeroCells zv.cells (cc - (len + n))
                      have h4 : (cc - (len + n)) * i.size = cc * i.size - (len + n) * i.size := Nat.sub_mul _ _ _
                      have h5 : (len + n) * i.size ≤ cc * i.size := Nat.mul_le_mul_right _ (by omega)
                      simp at h1 h2 h3 ⊢
                      rw [h3, hzsz]; omega
                    obtain ⟨s', h3, h4, h5, _, h7, hus⟩ := new_block g3 hkk1 el (old ++ arr ++ Builtin.zeroCells zv.cells (cc - (len + n)) : Array Value).toList (c ++ new) (by rw [hrow]; exact (hold1.append harr).mono fun _ _ h => h.mono g2) w' (by rw [Array.toArray_toList, g1]; exact hw) (by rw [g1]; exact hso)
                    refine ⟨_, s', by rw [h3]; exact hrun, g2.trans h4, h5, ?_, fun k hk => by rw [← g4]; exact hus k hk⟩
                    have hh := h7 i.size (len + n) cc hc (by simp; rw [hnl, ← hcl2, ← hadd]; exact Nat.mul_le_mul_right _ (by omega)) (by rw [hrl]; exact Nat.le_refl _)
                    rw [g1] at hh
                    exact hh
                · cases hev
        · cases hev
      · cases hev
theorem sim_append {args : Array Operand} {ats : Array TypeId} (ho : o.op = .call { callee := .builtin .append, args := args, argTypes := ats }) (hc : cCall P { callee := .builtin .append, args := args, argTypes := ats } = some ao)
    (H : RH s h) (hkk : ¬ s.used kk) (E : RE s e a.tmps) (hev : evOp e h kk ao = some (d, h')) : Good s kk ((execOp a.eval o).run P s.w) d h' := by
  simp only [cCall] at hc
  split at hc
  · rename_i t u x y ht hargs
    obtain rfl : ats = #[t, u] := by apply Array.ext'; simpa using ht
    obtain ⟨x0, y0, hx0, hxc, hyc⟩ := cOs_two hargs
    obtain rfl : args = #[x0, y0] := by apply Array.ext'; simpa using hx0
    have main : ∀ el (i : TypeInfo) z, P.underlying t = some (.slice el) → P.info? el = some i → zeroOf P el = some z → z.length = i.size → 0 < i.size ∧ 0 < i.bytes → (∀ k, P.underlying u ≠ some (.int k)) → (P.underlying u).isSome → ao = .append i.size i.bytes x y →
        Good s kk ((execOp a.eval o).run P s.w) d h' := by
      intro el i z hu hi hz hzl hpos hint hus h0
      subst h0
      simp only [evOp] at hev
      split at hev
      · rename_i dx dy h1 h2
        obtain ⟨v, s', hrun, h3, h4, h5, hus⟩ := appD_sim (P := P) (t := t) (u := u) (ty := o.type) hu hi hz hzl hint hus hpos.1 hpos.2 H (cO_sim hxc E h1) (cO_sim hyc E h2) hkk hev
        exact ⟨v, s', .inl (run_builtin ho (fun cs => rfl) (by simpa using hrun)), h3, h4, h5, hus⟩
      · cases hev
    split at hc
    · rename_i el el2 hu hu2
      split at hc
      · rename_i i hi
        split at hc
        · rename_i hpos
          split at hc
          · rename_i z hz
            split at hc
            · rename_i hzl
              injection hc with hc
              exact main el i z hu hi hz hzl hpos (fun k hk => by rw [hu2] at hk; cases hk) (by rw [hu2]; rfl) hc.symm
            · cases hc
          · cases hc
        · cases hc
      · cases hc
    · rename_i el hu hu2
      split at hc
      · rename_i i hi
        split at hc
        · rename_i hpos
          split at hc
          · rename_i z hz
            split at hc
            · rename_i hzl
              injection hc with hc
              exact main el i z hu hi hz hzl hpos (fun k hk => by rw [hu2] at hk; cases hk) (by rw [hu2]; rfl) hc.symm
            · cases hc
          · cases hc
        · cases hc
      · cases hc
    · cases hc
  · cases hc
theorem sim_copy {args : Array Operand} {ats : Array TypeId} (ho : o.op = .call { callee := .builtin .copy, args := args, argTypes := ats }) (hc : cCall P { callee := .builtin .copy, args := args, argTypes := ats } = some ao)
    (H : RH s h) (E : RE s e a.tmps) (hev : evOp e h kk ao = some (d, h')) : Good s kk ((execOp a.eval o).run P s.w) d h' := by
  simp only [cCall] at hc
  split at hc
  · rename_i t u x y ht hargs
    obtain rfl : ats = #[t, u] := by apply Array.ext'; simpa using ht
    obtain ⟨x0, y0, hx0, hxc, hyc⟩ := cOs_two hargs
    obtain rfl : args = #[x0, y0] := by apply Array.ext'; simpa using hx0
    split at hc
    · rename_i el hu
      split at hc
      · rename_i sz hsz
        split at hc
        · rename_i hpos
          injection hc with hc; subst hc
          simp only [evOp] at hev
          split at hev
          · rename_i dx dy h1 h2
            have rx := cO_sim hxc E h1
            have ry := cO_sim hyc E h2
            unfold copyD at hev
            split at hev
            · rename_i m n' hm hn'
              obtain ⟨ad, cap, hvx⟩ := lenD_sim rx hm
              have hlen := lenA_run (P := P) ry hn' s.w
              simp only at hev
              split at hev
              · cases hev
              · rename_i new hs
                obtain ⟨hnl, arr, harr, hfirst⟩ := srcD_sim (P := P) H ry hs
                have hmin : Nat.min n' m = min n' m := rfl
                have hrun : ∀ w', (match ad with | some q => storeCells q arr.toList | none => pure ()).run P s.w = .ok () w' → (Builtin.copy_ #[t, u] o.type #[a.eval x0, a.eval y0]).run P s.w = .ok (.int .i64 (min n' m : Nat)) w' := by
                  intro w' hst
                  have hf := hfirst s.w rfl
                  rw [hvx]
                  cases ad with
                  | none => simp at hst; subst hst; simp [Builtin.copy_, run_underlying hu, hlen, szOf_run hsz, hmin, hf, goInt]
                  | some q => simp at hst; simp [Builtin.copy_, run_underlying hu, hlen, szOf_run hsz, hmin, hf, hst, goInt]
                split at hev
                · injection hev with hev; injection hev with h5 h6; subst h5; subst h6
                  have hv := rx.inv_nil
                  rw [hvx] at hv; injection hv with h7 h8 h9; subst h7
                  refine Good.same H (run_builtin ho (fun cs => rfl) (v := .int .i64 (min n' m : Nat)) ?_) (.pure (.int _ _))
                  simpa using hrun s.w (by simp)
                · injection hev with hev; injection hev with h5 h6; subst h5; subst h6
                  obtain ⟨ad2, hv⟩ := rx.inv_emp
                  rw [hvx] at hv; injection hv with h7 h8 h9
                  have hat : arr = #[] := by apply Array.ext'; have := harr.1; rw [hnl, h8] at this; simp at this; simp [this]
                  refine Good.same H (run_builtin ho (fun cs => rfl) (v := .int .i64 (min n' m : Nat)) ?_) (.pure (.int _ _))
                  refine (by simpa using hrun s.w (by subst hat; cases ad <;> simp [storeCells]))
                · rename_i k sz' off len
                  split at hev
                  · rename_i hsz'
                    subst hsz'
                    split at hev
                    · rename_i c hk
                      split at hev
                      · rename_i hin
                        injection hev with hev; injection hev with h5 h6; subst h5; subst h6
                        simp [lenD] at hm
                        subst hm
                        obtain ⟨ad2, cap2, hv, hlc, hcl, hq⟩ := sl_live H rx hk
                        rw [hvx] at hv; injection hv with h7 h8 h9; subst h7; subst h9
                        have hle : min n' len * sz' ≤ len * sz' := Nat.mul_le_mul_right _ (Nat.min_le_right _ _)
                        rcases hq with h0 | ⟨b, cs, e', hxk, rfl, hb, hs'⟩
                        · obtain rfl : len = 0 := by omega
                          have hnew0 : new = [] := List.length_eq_zero_iff.1 (by rw [hnl]; simp)
                          have hat : arr = #[] := by apply Array.ext'; have := harr.1; rw [hnew0] at this; simp at this; simp [this]
                          have hsp : upd h k (splice c off new) = h := by
                            funext j
                            subst hnew0
                            unfold upd splice
                            split
                            · rename_i hj; subst hj; simp [hk]
                            · rfl
                          rw [hsp]
                          refine Good.same H (run_builtin ho (fun cs => rfl) (v := .int .i64 (min n' 0 : Nat)) ?_) (.pure (.int _ _))
                          simpa using hrun s.w (by subst hat; cases ad <;> simp [storeCells])
                        · obtain ⟨hst, s', hw, h4, h5, hρ, hnx⟩ := write_cells (P := P) H hk hxk hb harr (off := off) (by omega)
                          refine ⟨.int .i64 (min n' len : Nat), s', .inl ?_, h4, h5, .pure (.int _ _), fun k hk => .inl (by rw [hnx] at hk; exact hk)⟩
                          rw [hw]
                          refine run_builtin ho (fun cs => rfl) ?_
                          simpa using hrun _ (by simpa using hst)
                      · cases hev
                    · cases hev
                  · cases hev
                · cases hev
            · cases hev
          · cases hev
        · cases hc
      · cases hc
    · cases hc
  · cases hc
end
end Go.AM
end
section
/- The abstract machine's code, its meaning by weakest preconditions, and the theorem that the model's code does what it says. Generic over the program. -/
set_option linter.unusedSimpArgs false
set_option linter.unusedVariables false
namespace Go.AM
theorem bytesD_arr {s : Sg} : ∀ (c : List D) (ns : List Int) (l : List Value), bytesD c = some ns → All2 (RC s) l c → l = ns.map (Value.int .u8) := by
  intro c
  induction c with
  | nil =>
    intro ns l hb ha
    simp only [bytesD] at hb
    injection hb with hb; subst hb
    have := ha.1
    simpa using this
  | cons d r ih =>
    intro ns l hb ha
    cases d with
    | int k n =>
      cases k <;> simp only [bytesD] at hb <;> first | cases hb | skip
      split at hb
      · rename_i ns' hr
        injection hb with hb; subst hb
        cases l with
        | nil => have := ha.1; simp at this
        | cons v l =>
          have h0 := (ha.2 0 v _ rfl rfl).1.inv_int
          have ht : All2 (RC s) l r := ⟨by have := ha.1; simpa using this, fun i x y hx hy => ha.2 (i + 1) x y (by simpa using hx) (by simpa using hy)⟩
          rw [h0, ih ns' l hr ht]; rfl
      · cases hb
    | _ => simp [bytesD] at hb
theorem sim_strB {P : Program} {s : Sg} {e : Look} {a : Act} {h h' : Heap} {o : Oper} {d : D} {kk : Nat} {u t el : Nat} {x : Operand} {y : O} (ho : o.op = .convert u t x) (hu : P.underlying u = some (.slice el)) (hel : P.underlying el = some (.int .u8)) (ht : P.underlying t = some .string) (hx : cO x = some y) (H : RH s h) (E : RE s e a.tmps)
    (hev : evOp e h kk (.strB y) = some (d, h')) : Good s kk ((execOp a.eval o).run P s.w) d h' := by
  simp only [evOp] at hev
  split at hev
  · rename_i dx h1
    split at hev
    · rename_i r h2
      injection hev with hev; injection hev with h3 h4; subst h3; subst h4
      have hv := cO_sim hx E h1
      unfold strD at h2
      split at h2
      · rename_i n hn
        split at h2
        · rename_i c hc
          split at h2
          · rename_i ns hns
            injection h2 with h2; subst h2
            obtain ⟨b, cap, hvs⟩ := lenD_sim hv hn
            obtain ⟨hlen, arr, hall, hrun⟩ := srcD_sim (P := P) H hv hc
            have harr := bytesD_arr c ns arr.toList hns hall
            have hf := hrun s.w rfl
            rw [hvs] at hf
            cases b with
            | none =>
              exfalso
              simp [Builtin.firstCells] at hf
              have := hall.1
              rw [hf] at this
              simp at this
              omega
            | some ad =>
              simp only [Builtin.firstCells, Nat.mul_one] at hf
              have h5 : arr = (ns.map (Value.int .u8)).toArray := by apply Array.ext'; simpa using harr
              rw [h5] at hf
              refine Good.same H (v := .string (strOf ns)) ?_ (.pure (.str _))
              have := run_bytesToString (P := P) s.w ad (n + 1) cap ns hf
              simp [execOp, ho, hvs, run_convert_bytes_string _ _ _ _ _ _ _ hu hel ht, this, strOf]
          · cases h2
        · cases h2
      · cases h2
    · cases hev
  · cases hev
theorem sim_convert {P : Program} {s : Sg} {e : Look} {a : Act} {h h' : Heap} {o : Oper} {ao : AOp} {d : D} {kk : Nat} {u t : Nat} {x : Operand} (ho : o.op = .convert u t x) (hc : cOp P (.convert u t x) = some ao) (H : RH s h) (E : RE s e a.tmps)
    (hev : evOp e h kk ao = some (d, h')) : Good s kk ((execOp a.eval o).run P s.w) d h' := by
  by_cases hs : ∃ y, ao = .strB y
  · obtain ⟨y, rfl⟩ := hs
    simp only [cOp] at hc
    split at hc
    · injection hc with hc; cases hc
    · rename_i el y' hu ht h1
      split at hc
      · rename_i hel
        injection hc with hc; injection hc with hc; subst hc
        exact sim_strB ho hu hel ht h1 H E hev
      · cases hc
    · cases hc
  · exact sim_conv (fun y hy => hs ⟨y, hy⟩) ho hc H E hev
section
variable {P : Program} {s : Sg} {e : Look} {a : Act} {h h' : Heap} {o : Oper} {ao : AOp} {d : D} {kk : Nat}
theorem op_sim (hc : cOp P o.op = some ao) (hnc : ∀ f l, ao ≠ .call f l) (H : RH s h) (hkk : ¬ s.used kk) (E : RE s e a.tmps) (hev : evOp e h kk ao = some (d, h')) : Good s kk ((execOp a.eval o).run P s.w) d h' := by
  cases hop : o.op with
  | move x => rw [hop] at hc; exact sim_move (.inl hop) hc H E hev
  | assign x => rw [hop] at hc; exact sim_move (.inr hop) hc H E hev
  | pick c x y => rw [hop] at hc; exact sim_pick hop hc H E hev
  | alloc t => rw [hop] at hc; exact sim_alloc hop hc H hkk hev
  | box t x => rw [hop] at hc; exact sim_box hop hc H hkk E hev
  | build t ps => rw [hop] at hc; exact sim_build hop hc H E hev
  | buildSlice t n ps => rw [hop] at hc; exact sim_buildS hop hc H hkk E hev
  | load t x => rw [hop] at hc; exact sim_load hop hc H E hev
  | store t x y => rw [hop] at hc; exact sim_store hop hc H E hev
  | nilCheck x => rw [hop] at hc; exact sim_nilck hop hc H E hev
  | binOp op t x y u => rw [hop] at hc; exact sim_bin hop hc H E hev
  | unOp op t x => rw [hop] at hc; exact sim_un hop hc H E hev
  | convert u t x => rw [hop] at hc; exact sim_convert hop hc H E hev
  | makeFunc f fst caps =>
    rw [hop] at hc
    cases f with
    | func f => exact sim_mkfn hop hc H E hev
    | _ => simp [cOp] at hc
  | makeSlice t x y => rw [hop] at hc; exact sim_mkslice hop hc H hkk E hev
  | slice t x lo hi mx =>
    rw [hop] at hc
    cases mx with
    | none => exact sim_slice hop hc H E hev
    | some _ => simp [cOp] at hc
  | fieldAddr t x i => rw [hop] at hc; exact sim_faddr hop hc H E hev
  | field t x i => rw [hop] at hc; exact sim_field hop hc H E hev
  | indexAddr t x i => rw [hop] at hc; exact sim_iaddr hop hc H E hev
  | index t x i => rw [hop] at hc; exact sim_index hop hc H E hev
  | extract x i => rw [hop] at hc; exact sim_extract hop hc H E hev
  | call c =>
    rw [hop] at hc
    simp only [cOp] at hc
    obtain ⟨callee, args, ats⟩ := c
    cases callee with
    | value f =>
      simp only [cCall] at hc
      split at hc
      · injection hc with hc; exact absurd hc.symm (hnc _ _)
      · cases hc
    | invoke r m => simp [cCall] at hc
    | builtin b =>
      cases b with
      | len => exact sim_len hop hc H E hev
      | append => exact sim_append hop hc H hkk E hev
      | copy => exact sim_copy hop hc H E hev
      | max => exact sim_mima (mx := true) hop hc H E hev
      | min => exact sim_mima (mx := false) hop hc H E hev
      | _ => simp [cCall] at hc
  | _ => rw [hop] at hc; simp [cOp] at hc
end
/-! ### Contracts -/
def Callable (P : Program) (f : Nat) : Prop := ∀ args w, (callFunc f args).run P w = .ok (.enter f args) w
def Con (P : Program) (f : Nat) (ds : List D) (h : Heap) (Q : D → Heap → Prop) : Prop :=
  Callable P f ∧ ∀ (s : Sg) (args : Array Value), RH s h → All2 (RV s) args.toList ds →
    Calls P f args s.w fun e w' => ∃ v d h' s', e = .returned v ∧ s'.w = w' ∧ Ext s s' ∧ RH s' h' ∧ RV s' v d ∧ Q d h'
theorem Con.mono {P : Program} {f : Nat} {ds : List D} {h : Heap} {Q Q' : D → Heap → Prop} (hc : Con P f ds h Q) (hq : ∀ d h', Q d h' → Q' d h') : Con P f ds h Q' :=
  ⟨hc.1, fun s args H A => (hc.2 s args H A).mono fun _ _ ⟨v, d, h', s', h1, h2, h3, h4, h5, h6⟩ => ⟨v, d, h', s', h1, h2, h3, h4, h5, hq _ _ h6⟩⟩
/-! ### Instructions -/
def put (dst : Option Nat) (d : D) (e : Env) : Env := match dst with | some t => (t, d) :: e | none => e
def makes : AOp → Bool
  | .alloc _ => true
  | .box _ => true
  | .buildS .. => true
  | .mkslice .. => true
  | .append .. => true
  | _ => false
theorem key_any {e : Look} {h : Heap} {op : AOp} (hm : makes op = false) (k k' : Nat) : evOp e h k op = evOp e h k' op := by
  cases op <;> first | rfl | (simp [makes] at hm)
def eqN0 (op : AOp) (e : Look) : Prop := ∃ g x sz c, op = .eqN g x ∧ evO e x = some (.vs sz c 0)
def runIns (P : Program) (o : AIns) (e : Env) (h : Heap) (K : Env → Heap → Prop) : Prop :=
  match o.op with
  | .call f args => match evO (get e) f, evOs (get e) args with
    | some (.fn g fst caps), some ds => Con P g (fst ++ ds ++ caps) h (fun r h' => K (put o.dst r e) h')
    | _, _ => False
  | op => if makes op then ∀ k, h k = none → match evOp (get e) h k op with | some (d, h') => K (put o.dst d e) h' | none => False
    else match evOp (get e) h 0 op with | some (d, h') => K (put o.dst d e) h' | none => eqN0 op (get e) ∧ ∀ b, K (put o.dst (.bool b) e) h
def Wins (P : Program) (o : AIns) (e : Env) (h : Heap) (K : Env → Heap → Prop) : Prop :=
  match o.guard with
  | none => runIns P o e h K
  | some (t, want) => match get e t with
    | some (.bool b) => if b = want then runIns P o e h K else K (put o.dst (.tup []) e) h
    | some (.tup _) => K (put o.dst (.tup []) e) h
    | _ => False
def Wops (P : Program) : List AIns → Env → Heap → (Env → Heap → Prop) → Prop
  | [], e, h, K => K e h
  | o :: r, e, h, K => Wins P o e h fun e' h' => Wops P r e' h' K
def cGuard (all : List Oper) : Option (Nat × Bool) → Option (Option (Nat × Bool))
  | none => some none
  | some (j, w) => match all[j]? with
    | some o => (match o.dst with | some t => some (some (t, w)) | none => none)
    | none => none
def dstOk (nt : Nat) : Option Nat → Bool | some t => decide (t < nt) | none => true
def cIns (P : Program) (nt : Nat) (all : List Oper) (o : Oper) : Option AIns :=
  match cGuard all o.guard with
  | some g => if dstOk nt o.dst then some { dst := o.dst, op := (cOp P o.op).getD .bad, guard := g } else none
  | none => none
def cOps (P : Program) (nt : Nat) (all : List Oper) : List Oper → Option (List AIns)
  | [] => some []
  | o :: r => match cIns P nt all o, cOps P nt all r with | some i, some l => some (i :: l) | _, _ => none
structure RS (nt : Nat) (s : Sg) (e : Env) (h : Heap) (a : Act) : Prop where
  heap : RH s h
  env : RE s (get e) a.tmps
  size : a.tmps.size = nt
  defers : a.defers = []
theorem put_sim {nt : Nat} {s : Sg} {e : Env} {h : Heap} {a : Act} (R : RS nt s e h a) {dst : Option Nat} (hd : dstOk nt dst = true) {s' : Sg} (hx : Ext s s') {h' : Heap} (H' : RH s' h') {v : Value} {d : D} (hv : RV s' v d) :
    RS nt s' (put dst d e) h' (a.put dst v) := by
  cases dst with
  | none => exact ⟨H', R.env.mono hx, R.size, R.defers⟩
  | some t =>
    simp [dstOk] at hd
    refine ⟨H', (R.env.mono hx).put (by rw [R.size]; exact hd) hv, ?_, R.defers⟩
    show (a.tmps.setIfInBounds t v).size = nt
    simpa using R.size
theorem tmps_get {s : Sg} {e : Look} {tmps : Array Value} (E : RE s e tmps) {t : Nat} {b : Bool} (h : e t = some (.bool b)) : tmps[t]? = some (.bool b) := by
  have := (E t _ h).inv_bool
  rw [Array.getD_eq_getD_getElem?] at this
  cases hg : tmps[t]? with
  | none => rw [hg] at this; simp [undef] at this
  | some v => rw [hg] at this; simp at this; rw [this]
theorem tmps_tup {s : Sg} {e : Look} {tmps : Array Value} (E : RE s e tmps) {t : Nat} {vs : List D} (h : e t = some (.tup vs)) : ∃ cs : Array Value, tmps[t]? = none ∨ tmps[t]? = some (.tuple cs) := by
  obtain ⟨cs, h1, _⟩ := (E t _ h).inv_tup
  rw [Array.getD_eq_getD_getElem?] at h1
  refine ⟨cs, ?_⟩
  cases hg : tmps[t]? with
  | none => exact .inl rfl
  | some v => rw [hg] at h1; simp at h1; rw [h1]; exact .inr rfl
theorem rv_undef {s : Sg} : RV s undef (.tup []) := .pure (.tup #[] [] rfl (fun i v d h => by simp at h))
theorem cOp_call {P : Program} {op : Op} {f : O} {args : List O} (h : cOp P op = some (.call f args)) : ∃ c, op = .call c ∧ cCall P c = some (.call f args) := by
  cases op
  case call c => exact ⟨c, rfl, h⟩
  case binOp op t x y u =>
    simp only [cOp, cBin] at h
    (repeat' split at h) <;> simp at h
  case makeFunc f a b =>
    cases f <;> simp only [cOp] at h <;> (repeat' split at h) <;> simp at h
  case slice t x lo hi mx =>
    cases mx <;> simp only [cOp] at h <;> (repeat' split at h) <;> simp at h
  all_goals
    simp only [cOp] at h
    first
    | (simp at h; done)
    | ((repeat' split at h) <;> simp at h; done)
theorem cOp_eqN {P : Program} {op : Op} {g : Bool} {x : O} (h : cOp P op = some (.eqN g x)) : ∃ b t x y u, op = .binOp b t x y u := by
  cases op
  case binOp op t x y u => exact ⟨op, t, x, y, u, rfl⟩
  case call c =>
    obtain ⟨callee, a0, ats⟩ := c
    cases callee with
    | value f0 => simp only [cOp, cCall] at h; (repeat' split at h) <;> simp at h
    | invoke r m => simp [cOp, cCall] at h
    | builtin b => cases b <;> simp only [cOp, cCall] at h <;> (repeat' split at h) <;> simp at h
  case makeFunc f a b =>
    cases f <;> simp only [cOp] at h <;> (repeat' split at h) <;> simp at h
  case slice t x lo hi mx =>
    cases mx <;> simp only [cOp] at h <;> (repeat' split at h) <;> simp at h
  all_goals
    simp only [cOp] at h
    first
    | (simp at h; done)
    | ((repeat' split at h) <;> simp at h; done)
theorem ins_sim {P : Program} {nt : Nat} {ops : Array Oper} {o : Oper} {i : AIns} (hi : cIns P nt ops.toList o = some i) {s : Sg} {e : Env} {h : Heap} {a : Act} (R : RS nt s e h a)
    {K : Env → Heap → Prop} (hw : Wins P i e h K) (next : Act → World → Prop) (Q : Exit → Act → World → Prop)
    (hK : ∀ s' e' h' a', Ext s s' → RS nt s' e' h' a' → K e' h' → next a' s'.w) :
    if Region.wanted o (yielded ops a.tmps) then o.wp P a s.w next Q else next (a.put o.dst undef) s.w := by
  unfold cIns at hi
  split at hi
  · rename_i g hg
    split at hi
    · rename_i hdst
      injection hi with hi; subst hi
      -- the operation
      have run : runIns P { dst := o.dst, op := (cOp P o.op).getD .bad, guard := g } e h K → o.wp P a s.w next Q := by
        cases hao : cOp P o.op with
        | none =>
          intro hr
          simp [runIns, makes, evOp] at hr
          obtain ⟨⟨_, _, _, _, h0, _⟩, _⟩ := hr
          cases h0
        | some ao =>
        simp only [Option.getD_some]
        intro hr
        unfold runIns at hr
        split at hr
        · rename_i f args hop
          simp only at hop
          subst hop
          split at hr
          · rename_i g' fst caps ds h1 h2
            obtain ⟨hcall, hcon⟩ := hr
            -- which operation of the model
            have hcase : ∃ f0 a0 ats, o.op = .call { callee := .value f0, args := a0, argTypes := ats } ∧ cO f0 = some f ∧ cOs a0.toList = some args := by
              obtain ⟨c, hop, hc⟩ := cOp_call hao
              obtain ⟨callee, a0, ats⟩ := c
              cases callee with
              | value f0 =>
                simp only [cCall] at hc
                split at hc
                · rename_i g l hg hl; injection hc with hc; injection hc with h3 h4; subst h3; subst h4; exact ⟨f0, a0, ats, hop, hg, hl⟩
                · cases hc
              | invoke r m => simp [cCall] at hc
              | builtin b => cases b <;> simp only [cCall] at hc <;> (repeat' split at hc) <;> simp at hc
            obtain ⟨f0, a0, ats, hop, hf0, ha0⟩ := hcase
            obtain ⟨as, bs, hv, has, hbs⟩ := (cO_sim hf0 R.env h1).inv_fn
            have hargs := cOs_sim ha0 R.env h2
            have hrun : (execOp a.eval o).run P s.w = .ok (.enter g' (as ++ a0.map a.eval ++ bs)) s.w := by
              simp only [execOp, hop, resolve, hv, Deferred.ofValue, pure_bind, invoke]
              exact hcall _ _
            have hall : All2 (RV s) (as ++ a0.map a.eval ++ bs).toList (fst ++ ds ++ caps) := by
              simpa using (has.append hargs).append hbs
            unfold Oper.wp
            rw [hrun]
            show Calls P g' _ s.w _
            refine (hcon s _ R.heap hall).mono ?_
            rintro e' w' ⟨v, d, h', s', rfl, rfl, hx, H', hvd, hq⟩
            exact hK s' _ h' _ hx (put_sim R hdst hx H' hvd) hq
          · exact hr.elim
        · rename_i hnc
          have hk : (match evOp (get e) h s.next ao with | some (d, h') => K (put o.dst d e) h' | none => False) ∨ (eqN0 ao (get e) ∧ ∀ b, K (put o.dst (.bool b) e) h) := by
            cases hmk : makes ao with
            | true => rw [hmk] at hr; exact .inl (hr s.next (R.heap.fresh R.heap.next_free))
            | false =>
              rw [hmk] at hr
              rw [key_any hmk s.next 0]
              simp only [Bool.false_eq_true, if_false] at hr
              split at hr
              · exact .inl hr
              · exact .inr hr
          rcases hk with hk | ⟨⟨g0, x0, sz, c, rfl, hx0⟩, hk⟩
          · split at hk
            · rename_i d h' hev
              obtain ⟨v, s', hrun, hx, H', hvd, _⟩ := op_sim hao (fun f l h => hnc f l h) R.heap R.heap.next_free R.env hev
              unfold Oper.wp
              rcases hrun with hrun | ⟨hrun, hv⟩
              · rw [hrun]; exact hK s' _ h' _ hx (put_sim R hdst hx H' hvd) hk
              · rw [hrun]; subst hv; exact hK s' _ h' _ hx (put_sim R hdst hx H' hvd) hk
            · exact hk.elim
          · obtain ⟨b0, t0, x1, y1, u1, hop⟩ := cOp_eqN hao
            obtain ⟨b, hrun⟩ := sim_eqN0 hop (by rw [← hop]; exact hao) R.env hx0
            unfold Oper.wp
            rw [hrun]
            exact hK s _ h _ (.refl _) (put_sim R hdst (.refl _) R.heap (.pure (.bool b))) (hk b)
      unfold Wins at hw
      unfold Region.wanted
      cases hgo : o.guard with
      | none =>
        rw [hgo] at hg
        simp [cGuard] at hg
        subst hg
        simpa using run hw
      | some jw =>
        obtain ⟨j, want⟩ := jw
        rw [hgo] at hg
        simp only [cGuard] at hg
        split at hg
        · rename_i oj hj
          split at hg
          · rename_i t ht
            injection hg with hg; subst hg
            simp only at hw
            split at hw
            · rename_i b hb
              have htm := tmps_get R.env hb
              have hj' : ops[j]? = some oj := by simpa using hj
              have hy : yielded ops a.tmps j = some b := by simp [yielded, hj', ht, htm]
              simp only [hy]
              by_cases hbw : b = want
              · rw [if_pos hbw] at hw
                subst hbw
                simpa using run hw
              · rw [if_neg hbw] at hw
                have : (some b == some want) = false := by simpa using hbw
                rw [this]
                simpa using hK s _ h _ (.refl s) (put_sim R hdst (.refl s) R.heap rv_undef) hw
            · rename_i vs hb
              have htm := tmps_tup R.env hb
              obtain ⟨cs, htm⟩ := htm
              have hj' : ops[j]? = some oj := by simpa using hj
              have hy : yielded ops a.tmps j = none := by
                rcases htm with htm | htm <;> simp [yielded, hj', ht, htm]
              simp only [hy]
              have : ((none : Option Bool) == some want) = false := by simp
              rw [this]
              simpa using hK s _ h _ (.refl s) (put_sim R hdst (.refl s) R.heap rv_undef) hw
            · exact hw.elim
          · cases hg
        · cases hg
    · cases hi
  · cases hi
end Go.AM
end
section
/- Regions that draw their order: operations that do not disturb each other may change places. Generic over the program. -/
set_option linter.unusedSimpArgs false
set_option linter.unusedVariables false
namespace Go.AM
def usesO : O → List Nat
  | .tmp t => [t]
  | _ => []
def usesOs : List O → List Nat
  | [] => []
  | x :: r => usesO x ++ usesOs r
def usesOo : Option O → List Nat
  | some x => usesO x
  | none => []
def usesQ : List (Nat × Nat × O) → List Nat
  | [] => []
  | (_, _, x) :: r => usesO x ++ usesQ r
def usesOp : AOp → List Nat
  | .mv x => usesO x
  | .pick c a b => usesO c ++ usesO a ++ usesO b
  | .alloc _ => []
  | .box x => usesO x
  | .build _ ps => usesQ ps
  | .buildS _ _ _ ps => usesQ ps
  | .load _ _ x => usesO x
  | .store _ x y => usesO x ++ usesO y
  | .nilck x => usesO x
  | .bin _ x y => usesO x ++ usesO y
  | .eqB _ x y => usesO x ++ usesO y
  | .eqA _ _ x y => usesO x ++ usesO y
  | .eqN _ x => usesO x
  | .un _ x => usesO x
  | .conv _ x => usesO x
  | .strB x => usesO x
  | .mkfn _ a b => usesOs a ++ usesOs b
  | .mkslice _ _ _ x y => usesO x ++ usesO y
  | .slice _ x lo hi => usesO x ++ usesOo lo ++ usesOo hi
  | .faddr _ x => usesO x
  | .field _ _ _ x => usesO x
  | .iaddr _ x i => usesO x ++ usesO i
  | .iaddrA _ _ x i => usesO x ++ usesO i
  | .index _ _ _ x i => usesO x ++ usesO i
  | .indexS x i => usesO x ++ usesO i
  | .extract _ x => usesO x
  | .len x => usesO x
  | .lenS x => usesO x
  | .append _ _ x y => usesO x ++ usesO y
  | .copy _ x y => usesO x ++ usesO y
  | .mima _ xs => usesOs xs
  | .call f xs => usesO f ++ usesOs xs
  | .bad => []
def usesI (o : AIns) : List Nat := (match o.guard with | some (t, _) => [t] | none => []) ++ usesOp o.op
def cls : AOp → Nat
  | .load .. => 1
  | .strB _ => 1
  | .iaddr .. => 1
  | .alloc _ => 2
  | .box _ => 2
  | .buildS .. => 2
  | .mkslice .. => 2
  | .store .. => 3
  | .append .. => 3
  | .copy .. => 3
  | .call .. => 4
  | _ => 0
def setL (dst : Option Nat) (d : D) (e : Look) : Look := match dst with | some t => fun t' => if t = t' then some d else e t' | none => e
theorem get_put (dst : Option Nat) (d : D) (e : Env) : get (put dst d e) = setL dst d (get e) := by cases dst <;> rfl
theorem evO_set {e e' : Look} {x : O} (h : ∀ t ∈ usesO x, e' t = e t) : evO e' x = evO e x := by cases x <;> simp [evO, usesO] at h ⊢ <;> exact h
theorem evOs_set {e e' : Look} : ∀ {xs : List O}, (∀ t ∈ usesOs xs, e' t = e t) → evOs e' xs = evOs e xs
  | [], _ => rfl
  | x :: r, h => by
    simp only [evOs]
    rw [evO_set (fun t ht => h t (by simp [usesOs, ht])), evOs_set (fun t ht => h t (by simp [usesOs, ht]))]
theorem evQ_set {e e' : Look} : ∀ {xs : List (Nat × Nat × O)}, (∀ t ∈ usesQ xs, e' t = e t) → evQ e' xs = evQ e xs
  | [], _ => rfl
  | (i, n, x) :: r, h => by
    simp only [evQ]
    rw [evO_set (fun t ht => h t (by simp [usesQ, ht])), evQ_set (fun t ht => h t (by simp [usesQ, ht]))]
theorem bndD_set {e e' : Look} {n : Nat} {x : Option O} (h : ∀ t ∈ usesOo x, e' t = e t) : bndD e' n x = bndD e n x := by
  cases x with
  | none => rfl
  | some y => simp only [bndD]; rw [evO_set (fun t ht => h t (by simp [usesOo, ht]))]
theorem evOp_set {e e' : Look} {h : Heap} {k : Nat} {op : AOp} (hu : ∀ t ∈ usesOp op, e' t = e t) : evOp e' h k op = evOp e h k op := by
  cases op <;> simp only [usesOp, List.mem_append] at hu <;> simp only [evOp]
  case mv x => rw [evO_set hu]
  case pick c x y =>
    rw [evO_set (fun t ht => hu t (.inl (.inl ht)))]
    split
    · rename_i b _
      cases b
      · simp only [Bool.false_eq_true, if_false]; rw [evO_set (x := y) (fun t ht => hu t (.inr ht))]
      · simp only [if_true]; rw [evO_set (x := x) (fun t ht => hu t (.inl (.inr ht)))]
    · rfl
  case box x => rw [evO_set hu]
  case build z ps => rw [evQ_set hu]
  case buildS a b c ps => rw [evQ_set hu]
  case load a b x => rw [evO_set hu]
  case store a x y => rw [evO_set (fun t ht => hu t (.inl ht)), evO_set (fun t ht => hu t (.inr ht))]
  case nilck x => rw [evO_set hu]
  case bin a x y => rw [evO_set (fun t ht => hu t (.inl ht)), evO_set (fun t ht => hu t (.inr ht))]
  case eqB a x y => rw [evO_set (fun t ht => hu t (.inl ht)), evO_set (fun t ht => hu t (.inr ht))]
  case eqA a b x y => rw [evO_set (fun t ht => hu t (.inl ht)), evO_set (fun t ht => hu t (.inr ht))]
  case eqN a x => rw [evO_set hu]
  case un a x => rw [evO_set hu]
  case conv a x => rw [evO_set hu]
  case mkfn f x y => rw [evOs_set (fun t ht => hu t (.inl ht)), evOs_set (fun t ht => hu t (.inr ht))]
  case mkslice a b c x y => rw [evO_set (fun t ht => hu t (.inl ht)), evO_set (fun t ht => hu t (.inr ht))]
  case slice a x lo hi => rw [evO_set (fun t ht => hu t (.inl (.inl ht))), bndD_set (fun t ht => hu t (.inl (.inr ht)))]; simp only [bndD_set (fun t ht => hu t (.inr ht))]
  case faddr a x => rw [evO_set hu]
  case field a b c x => rw [evO_set hu]
  case iaddr a x y => rw [evO_set (fun t ht => hu t (.inl ht)), evO_set (fun t ht => hu t (.inr ht))]
  case iaddrA a b x y => rw [evO_set (fun t ht => hu t (.inl ht)), evO_set (fun t ht => hu t (.inr ht))]
  case index a b c x y => rw [evO_set (fun t ht => hu t (.inl ht)), evO_set (fun t ht => hu t (.inr ht))]
  case indexS x y => rw [evO_set (fun t ht => hu t (.inl ht)), evO_set (fun t ht => hu t (.inr ht))]
  case extract a x => rw [evO_set hu]
  case len x => rw [evO_set hu]
  case lenS x => rw [evO_set hu]
  case strB x => rw [evO_set hu]
  case append a b x y => rw [evO_set (fun t ht => hu t (.inl ht)), evO_set (fun t ht => hu t (.inr ht))]
  case copy a x y => rw [evO_set (fun t ht => hu t (.inl ht)), evO_set (fun t ht => hu t (.inr ht))]
  case mima a xs => rw [evOs_set hu]
theorem cls0 {e : Look} {h h1 : Heap} {k : Nat} {op : AOp} {d : D} (hc : cls op = 0) (hev : evOp e h k op = some (d, h1)) : h1 = h ∧ ∀ h2 k2, evOp e h2 k2 op = some (d, h2) := by
  cases op <;> simp [cls] at hc <;> simp only [evOp] at hev ⊢
  all_goals
    (repeat' split at hev)
    all_goals first
      | (cases hev; done)
      | (injection hev with hev; injection hev with h3 h4; subst h3; subst h4; exact ⟨rfl, fun _ _ => by simp_all⟩)
theorem cls1 {e : Look} {h h1 : Heap} {k : Nat} {op : AOp} {d : D} (hc : cls op = 1) (hev : evOp e h k op = some (d, h1)) : h1 = h ∧ ∀ k2, evOp e h k2 op = some (d, h) := by
  cases op <;> simp [cls] at hc <;> simp only [evOp] at hev ⊢
  all_goals
    (repeat' split at hev)
    all_goals first
      | (cases hev; done)
      | (injection hev with hev; injection hev with h3 h4; subst h3; subst h4; exact ⟨rfl, fun _ => by simp_all⟩)
theorem cls2 {e : Look} {h h1 : Heap} {k : Nat} {op : AOp} {d : D} (hc : cls op = 2) (hev : evOp e h k op = some (d, h1)) : ∃ c, h1 = upd h k c ∧ ∀ h2, evOp e h2 k op = some (d, upd h2 k c) := by
  cases op <;> simp [cls] at hc <;> simp only [evOp] at hev ⊢
  all_goals
    (repeat' split at hev)
    all_goals first
      | (cases hev; done)
      | (injection hev with hev; injection hev with h3 h4; subst h3; subst h4; exact ⟨_, rfl, fun _ => by simp_all⟩)
/-! ### Heaps of which a part is hidden -/
def hide (hf : Nat → Bool) (h : Heap) : Heap := fun k => if hf k then none else h k
def unhide (hf : Nat → Bool) (h h1 : Heap) : Heap := fun k => if hf k then h k else h1 k
theorem unhide_hide (hf : Nat → Bool) (h : Heap) : unhide hf h (hide hf h) = h := by funext k; simp only [unhide, hide]; split <;> simp_all
theorem unhide_upd {hf : Nat → Bool} {h : Heap} {k : Nat} {c : List D} (hk : hf k = false) : unhide hf h (upd (hide hf h) k c) = upd h k c := by
  funext j
  simp only [unhide, upd, hide]
  by_cases hj : j = k
  · subst hj; simp [hk]
  · cases hfj : hf j <;> simp [hj]
theorem hide_upd {hf : Nat → Bool} {h : Heap} {k : Nat} {c : List D} (hk : hf k = true) : hide hf (upd h k c) = hide hf h := by
  funext j
  simp only [hide, upd]
  by_cases hj : j = k
  · subst hj; simp [hk]
  · simp [hj]
theorem unhide_upd_out {hf : Nat → Bool} {h g : Heap} {k : Nat} {c : List D} (hk : hf k = true) : unhide hf (upd h k c) g = upd (unhide hf h g) k c := by
  funext j
  simp only [unhide, upd]
  by_cases hj : j = k
  · subst hj; simp [hk]
  · simp [hj]
theorem hide_some {hf : Nat → Bool} {h : Heap} {k : Nat} {c : List D} (hk : hide hf h k = some c) : hf k = false ∧ h k = some c := by
  simp only [hide] at hk
  split at hk
  · cases hk
  · rename_i hn; exact ⟨by simpa using hn, hk⟩
theorem memAt_hide {hf : Nat → Bool} {h : Heap} {d : D} {x : List D × Nat} (hm : memAt (hide hf h) d = some x) : memAt h d = some x := by
  unfold memAt at hm ⊢
  split at hm
  · exact hm
  · rename_i k off
    split at hm
    · rename_i c hk; rw [(hide_some hk).2]; exact hm
    · cases hm
  · cases hm
theorem srcD_hide {hf : Nat → Bool} {h : Heap} {sz n : Nat} {d : D} {x : List D} (hm : srcD (hide hf h) sz n d = some x) : srcD h sz n d = some x := by
  unfold srcD at hm ⊢
  split at hm
  all_goals first
    | exact hm
    | (split at hm
       · rename_i hc
         split at hm
         · rename_i c hk; simp only [if_pos hc, (hide_some hk).2]; exact hm
         · cases hm
       · cases hm)
    | cases hm
theorem strD_hide {hf : Nat → Bool} {h : Heap} {d r : D} (hm : strD (hide hf h) d = some r) : strD h d = some r := by
  unfold strD at hm ⊢
  split at hm
  · split at hm
    · rename_i c hc
      simp only [srcD_hide hc]
      exact hm
    · cases hm
  · cases hm
theorem unhide_del_upd {hf : Nat → Bool} {h : Heap} {k k2 : Nat} {c : List D} (hk : hf k = false) (hk2 : hf k2 = false) : unhide hf h (upd (del (hide hf h) k) k2 c) = upd (del h k) k2 c := by
  funext j
  simp only [unhide, upd, del, hide]
  by_cases hj2 : j = k2
  · subst hj2; simp [hk2]
  · by_cases hj : j = k
    · subst hj; simp [hk, hj2]
    · cases hfj : hf j <;> simp [hj, hj2]
theorem evOp_hide {e : Look} {hf : Nat → Bool} {h h1 : Heap} {k : Nat} {op : AOp} {d : D} (hk : hf k = false) (hev : evOp e (hide hf h) k op = some (d, h1)) : evOp e h k op = some (d, unhide hf h h1) := by
  have hcl : cls op = 0 ∨ cls op = 1 ∨ cls op = 2 ∨ cls op = 3 ∨ cls op = 4 := by cases op <;> simp [cls]
  rcases hcl with hc | hc | hc | hc | hc
  · obtain ⟨rfl, h2⟩ := cls0 hc hev
    rw [unhide_hide]; exact h2 h k
  · have h0 := (cls1 hc hev).1
    subst h0
    rw [unhide_hide]
    cases op <;> simp [cls] at hc <;> simp only [evOp] at hev ⊢
    case load a n x =>
      split at hev
      · rename_i c off hm
        cases hx : evO e x with
        | none => rw [hx] at hm; cases hm
        | some dx =>
          rw [hx] at hm
          simp only [Option.bind_some] at hm ⊢
          rw [memAt_hide hm]
          simp only
          split at hev
          · injection hev with hev; injection hev with h3 _; subst h3; rfl
          · cases hev
      · cases hev
    case strB x =>
      split at hev
      · split at hev
        · rename_i r hr
          injection hev with hev; injection hev with h3 _; subst h3
          rw [strD_hide hr]
        · cases hev
      · cases hev
    case iaddr sz x i =>
      split at hev
      · split at hev
        · injection hev with hev; injection hev with h3 _; subst h3; simp_all
        · cases hev
      · rename_i k2 sz' off len kk n hx hi
        split at hev
        · rename_i hb
          split at hev
          · rename_i c hkk
            injection hev with hev; injection hev with h3 _; subst h3
            simp only [if_pos hb, (hide_some hkk).2]
          · cases hev
        · cases hev
      · cases hev
  · obtain ⟨c, rfl, h2⟩ := cls2 hc hev
    rw [h2 h, unhide_upd hk]
  · cases op <;> simp [cls] at hc <;> simp only [evOp] at hev ⊢
    case store n x y =>
      split at hev
      · rename_i k2 off new hx hy
        split at hev
        · rename_i c hkk
          obtain ⟨hf2, hk2⟩ := hide_some hkk
          split at hev
          · rename_i hb
            injection hev with hev; injection hev with h3 h4; subst h3; subst h4
            simp only [hk2, if_pos hb, unhide_upd hf2]
          · cases hev
        · cases hev
      · cases hev
    case append sz by' x y =>
      split at hev
      · rename_i dx dy hx hy
        unfold appD at hev ⊢
        split at hev
        · cases hev
        · rename_i n hn
          split at hev
          · cases hev
          · rename_i new hs
            rw [srcD_hide hs]
            simp only
            split at hev
            · split at hev
              · injection hev with hev; injection hev with h3 h4; subst h3; subst h4; simp_all [unhide_hide]
              · split at hev
                · injection hev with hev; injection hev with h3 h4; subst h3; subst h4; simp_all [unhide_upd]
                · cases hev
            · split at hev
              · injection hev with hev; injection hev with h3 h4; subst h3; subst h4; simp_all [unhide_hide]
              · split at hev
                · injection hev with hev; injection hev with h3 h4; subst h3; subst h4; simp_all [unhide_upd]
                · cases hev
            · rename_i k2 sz' off len
              split at hev
              · rename_i hsz
                split at hev
                · cases hev
                · rename_i c hkk
                  obtain ⟨hf2, hk2⟩ := hide_some hkk
                  simp only [if_pos hsz, hk2]
                  split at hev
                  · injection hev with hev; injection hev with h3 h4; subst h3; subst h4; simp_all [unhide_hide]
                  · rename_i hn0
                    rw [if_neg hn0]
                    split at hev
                    · rename_i hb
                      injection hev with hev; injection hev with h3 h4; subst h3; subst h4
                      rw [if_pos hb, unhide_upd hf2]
                    · rename_i hb
                      rw [if_neg hb]
                      split at hev
                      · rename_i hb2
                        injection hev with hev; injection hev with h3 h4; subst h3; subst h4
                        rw [if_pos hb2, unhide_del_upd hf2 hk]
                      · cases hev
              · cases hev
            · cases hev
      · cases hev
    case copy sz x y =>
      split at hev
      · rename_i dx dy hx hy
        unfold copyD at hev ⊢
        split at hev
        · rename_i m n' hm hn'
          simp only [hm, hn'] at hev ⊢
          split at hev
          · cases hev
          · rename_i new hs
            rw [srcD_hide hs]
            simp only
            split at hev
            · injection hev with hev; injection hev with h3 h4; subst h3; subst h4; simp [unhide_hide]
            · injection hev with hev; injection hev with h3 h4; subst h3; subst h4; simp [unhide_hide]
            · rename_i k2 sz' off len
              split at hev
              · rename_i hsz
                split at hev
                · rename_i c hkk
                  obtain ⟨hf2, hk2⟩ := hide_some hkk
                  simp only [if_pos hsz, hk2]
                  split at hev
                  · rename_i hb
                    injection hev with hev; injection hev with h3 h4; subst h3; subst h4
                    rw [if_pos hb, unhide_upd hf2]
                  · cases hev
                · cases hev
              · cases hev
            · cases hev
        · cases hev
      · cases hev
  · cases op <;> simp [cls] at hc
    simp [evOp] at hev
end Go.AM
end
section
/- Contracts by value; regions that draw their order. Generic over the program. -/
set_option linter.unusedSimpArgs false
set_option linter.unusedVariables false
namespace Go.AM
/-! ### Contracts by value -/
structure RHo (s : Sg) (h : Heap) : Prop where
  lt : ∀ b, s.prot b → b < s.w.heap.size
  own : ∀ k c, h k = some c → s.used k ∧ ∃ x, s.ρ k = some (x, c.length) ∧ (x = none → c = []) ∧
    ∀ b, x = some b → ¬ s.prot b ∧ ∃ cs e, s.w.heap[b]? = some (.cells cs e (0, 0)) ∧ c.length ≤ cs.size ∧ All2 (RC s) (cs.toList.take c.length) c
theorem RH.toO {s : Sg} {h : Heap} (H : RH s h) : RHo s h := ⟨H.lt, H.own⟩
theorem RHo.hide {s : Sg} {h : Heap} (H : RHo s h) (hf : Nat → Bool) : RHo s (hide hf h) := ⟨H.lt, fun k c hk => H.own k c (hide_some hk).2⟩
def below (n : Nat) : Nat → Prop := fun b => b < n
def Rd (h : Heap) (d d' : D) : Prop := ∀ (s : Sg) (v : Value), RHo s h → RV s v d → RP s.w (below s.w.heap.size) v d'
def RPc (w : World) (prot : Nat → Prop) (v : Value) (d : D) : Prop := RP w prot v d ∧ v.oneCell' = true
def Own1 (x : Option Nat) (w : World) (prot : Nat → Prop) (v : Value) (sz : Nat) (cells : List D) (len : Nat) : Prop :=
  ∃ a cap, v = .slice a len cap ∧ len ≤ cap ∧ cells.length = len * sz ∧ (x = none → cap = 0) ∧
    ∀ b, x = some b → ∃ cs e, w.heap[b]? = some (.cells cs e (0, 0)) ∧ All2 (RPc w prot) (cs.toList.take cells.length) cells ∧ (len ≠ 0 → a ≠ none) ∧ (cap = 0 ∨ (a = some ⟨b, 0, none⟩ ∧ cap * sz ≤ cs.size))
def OutC (x : Option Nat) (w : World) (prot : Nat → Prop) (v : Value) : D → Prop
  | .ow sz cells len => Own1 x w prot v sz cells len
  | r => RP w prot v r
def isOw : D → Bool | .ow _ _ _ => true | _ => false
def nOw : List D → Nat
  | [] => 0
  | d :: r => (if isOw d then 1 else 0) + nOw r
def Out (base : Nat) (w : World) (v : Value) (r : D) : Prop :=
  ∃ x : Option Nat, (∀ b, x = some b → base ≤ b ∧ b < w.heap.size) ∧
    match r with
    | .tup rs => nOw rs ≤ 1 ∧ ∃ vs, v = .tuple vs ∧ All2 (OutC x w (fun b => base ≤ b ∧ b < w.heap.size ∧ x ≠ some b)) vs.toList rs
    | r => OutC x w (fun b => base ≤ b ∧ b < w.heap.size ∧ x ≠ some b) v r
def PCon (P : Program) (f : Nat) (ds : List D) (r : D) : Prop :=
  Callable P f ∧ ∀ (w : World) (args : Array Value), All2 (RP w (below w.heap.size)) args.toList ds →
    Calls P f args w fun e w' => ∃ v, e = .returned v ∧ (∀ b, b < w.heap.size → w'.heap[b]? = w.heap[b]?) ∧ w.heap.size ≤ w'.heap.size ∧ SameO w w' ∧ Out w.heap.size w' v r
def thawC (k : Nat) : D → D
  | .ow sz _ len => .sl k sz 0 len
  | d => d
def thaw (k : Nat) : D → D
  | .tup rs => .tup (rs.map (thawC k))
  | d => thawC k d
def owL : List D → Option (List D)
  | [] => none
  | .ow _ c _ :: _ => some c
  | _ :: r => owL r
def owOf : D → Option (List D)
  | .tup rs => owL rs
  | .ow _ c _ => some c
  | _ => none
def thawH (k : Nat) (r : D) (h : Heap) : Heap := match owOf r with | some c => upd h k c | none => h
def unowC : D → D
  | .ow sz c len => .vs sz c len
  | d => d
def unow : D → D
  | .tup rs => .tup (rs.map unowC)
  | d => unowC d
theorem thawH_some {k : Nat} {r : D} {h : Heap} {c : List D} (hc : owOf r = some c) : thawH k r h = upd h k c := by simp [thawH, hc]
theorem thawH_none {k : Nat} {r : D} {h : Heap} (hc : owOf r = none) : thawH k r h = h := by simp [thawH, hc]
theorem Own1.toVs {x : Option Nat} {w : World} {prot prot' : Nat → Prop} {v : Value} {sz len : Nat} {cells : List D} (h : Own1 x w prot v sz cells len) (hp : ∀ b, prot b → prot' b) (hx : ∀ b, x = some b → prot' b) : RP w prot' v (.vs sz cells len) := by
  obtain ⟨a, cap, rfl, hlc, hcl, h0, hq⟩ := h
  cases x with
  | none =>
    have := h0 rfl
    obtain rfl : len = 0 := by omega
    obtain rfl : cells = [] := List.length_eq_zero_iff.1 (by simpa using hcl)
    exact .vs0 a cap sz
  | some b =>
    obtain ⟨cs, e, hb, hall, _, hcap⟩ := hq b rfl
    rcases hcap with hcap | ⟨rfl, hcap⟩
    · obtain rfl : len = 0 := by omega
      obtain rfl : cells = [] := List.length_eq_zero_iff.1 (by simpa using hcl)
      exact .vs0 a cap sz
    have hle : len * sz ≤ cap * sz := Nat.mul_le_mul_right _ hlc
    refine .vs b 0 cap sz len cells (cs.toList.take cells.length) hcl hlc (hx b rfl) hall.1 ?_ ?_ ?_
    · intro v hv
      obtain ⟨i, hi⟩ := List.mem_iff_getElem?.1 hv
      have hlt : i < cells.length := by
        rcases Nat.lt_or_ge i (cs.toList.take cells.length).length with h' | h'
        · rw [hall.1] at h'; exact h'
        · simp [List.getElem?_eq_none h'] at hi
      exact (hall.2 i v _ hi (List.getElem?_eq_getElem hlt)).2
    · have := (cellsAt_block hb).sub 0 cells.length
      simp only [Nat.add_zero, List.drop_zero] at this
      exact this
    · intro i v d hv hd
      exact (hall.2 i v d hv hd).1.mono (fun b hb => ⟨hp b hb, rfl⟩)
theorem OutC.unow {x : Option Nat} {w : World} {prot prot' : Nat → Prop} {v : Value} {r : D} (h : OutC x w prot v r) (hp : ∀ b, prot b → prot' b) (hx : ∀ b, x = some b → prot' b) : RP w prot' v (unowC r) := by
  cases r <;> simp only [OutC, unowC] at h ⊢
  case ow sz c len => exact Own1.toVs h hp hx
  all_goals exact h.mono (fun b hb => ⟨hp b hb, rfl⟩)
theorem Out.unow {base : Nat} {w : World} {v : Value} {r : D} (h : Out base w v r) : RP w (fun b => base ≤ b ∧ b < w.heap.size) v (unow r) := by
  obtain ⟨x, hx, h⟩ := h
  have hp : ∀ b, (base ≤ b ∧ b < w.heap.size ∧ x ≠ some b) → (base ≤ b ∧ b < w.heap.size) := fun b h => ⟨h.1, h.2.1⟩
  cases r <;> simp only [AM.unow] at h ⊢
  case tup rs =>
    obtain ⟨_, vs, rfl, hall⟩ := h
    refine .tup vs (rs.map unowC) (by simpa using hall.1) ?_
    intro i v d hv hd
    rw [List.getElem?_map] at hd
    cases hr : rs[i]? with
    | none => rw [hr] at hd; cases hd
    | some r0 =>
      rw [hr] at hd; simp at hd; subst hd
      exact (hall.2 i v r0 hv hr).unow hp (fun b hb => hx b hb)
  all_goals exact OutC.unow h hp (fun b hb => hx b hb)
theorem own_res {s : Sg} {h : Heap} (H : RH s h) {kk : Nat} (hkk : ¬ s.used kk) {r : D} {v : Value} {w' : World} (hsame : ∀ b, b < s.w.heap.size → w'.heap[b]? = s.w.heap[b]?) (hsize : s.w.heap.size ≤ w'.heap.size) (hso : SameO s.w w') (ho : Out s.w.heap.size w' v r) :
    ∃ s' : Sg, s'.w = w' ∧ Ext s s' ∧ (∀ k, s'.used k → s.used k ∨ k = kk) ∧ RH s' (thawH kk r h) ∧ RV s' v (thaw kk r) := by
  obtain ⟨x, hx, hout⟩ := ho
  let s' : Sg := { w := w', ρ := fun k => if k = kk then (match owOf r with | some c => some (x, c.length) | none => none) else s.ρ k, prot := fun b => s.prot b ∨ (s.w.heap.size ≤ b ∧ b < w'.heap.size ∧ x ≠ some b), used := fun k => s.used k ∨ k = kk, next := max s.next (kk + 1) }
  have hne : ∀ k, s.used k → k ≠ kk := fun k hk e => hkk (by rw [← e]; exact hk)
  have hρ : ∀ k, k ≠ kk → s'.ρ k = s.ρ k := fun k hk => by show (if k = kk then _ else _) = _; rw [if_neg hk]
  have hρn : s'.ρ kk = (match owOf r with | some c => some (x, c.length) | none => none) := by show (if kk = kk then _ else _) = _; rw [if_pos rfl]
  have hltb : ∀ b cs e, s.w.heap[b]? = some (.cells cs e (0, 0)) → b < s.w.heap.size := by
    intro b cs e hb
    rcases Nat.lt_or_ge b s.w.heap.size with h' | h'
    · exact h'
    · simp [Array.getElem?_eq_none h'] at hb
  have hE : Ext s s' := by
    refine ⟨Nat.le_max_left _ _, fun _ h => .inl h, hsize, fun b hb => ⟨.inl hb, hsame b (H.lt b hb)⟩, fun k y hk hy => by rw [hρ k (hne k hk)] at hy; exact hy, ?_, hso⟩
    intro k b n cs e hk _ hb
    exact ⟨cs, (hsame b (hltb b cs e hb)).trans hb, rfl⟩
  have hprot : ∀ b, (s.w.heap.size ≤ b ∧ b < w'.heap.size ∧ x ≠ some b) → s'.prot b ∧ w'.heap[b]? = w'.heap[b]? := fun b hb => ⟨.inr hb, rfl⟩
  -- a component
  have comp : ∀ v r0, OutC x w' (fun b => s.w.heap.size ≤ b ∧ b < w'.heap.size ∧ x ≠ some b) v r0 → (∀ c, isOw r0 = true → owOf r = some c → ∃ sz len, r0 = .ow sz c len) → (isOw r0 = true → (owOf r).isSome) → RV s' v (thawC kk r0) := by
    intro v r0 hc hsame1 hsome
    cases r0 <;> simp only [OutC, thawC] at hc ⊢
    case ow sz c len =>
      obtain ⟨c2, hc2⟩ := Option.isSome_iff_exists.1 (hsome rfl)
      obtain ⟨sz2, len2, h2⟩ := hsame1 c2 rfl hc2
      injection h2 with h3 h4 h5
      subst h4
      obtain ⟨a, cap, rfl, hlc, hcl, h0, hq⟩ := hc
      refine .sl a kk sz 0 len cap (.inr rfl) ?_ hlc ?_
      · intro hl
        cases x with
        | none => have := h0 rfl; omega
        | some b => obtain ⟨_, _, _, _, hna, _⟩ := hq b rfl; exact hna hl
      · intro y n hy
        rw [hρn, hc2] at hy
        injection hy with hy; injection hy with h6 h7
        subst h6; subst h7
        have hle : len * sz ≤ cap * sz := Nat.mul_le_mul_right _ hlc
        refine ⟨by omega, ?_⟩
        cases x with
        | none => exact .inl (h0 rfl)
        | some b =>
          obtain ⟨cs, e, hb, _, _, hcap⟩ := hq b rfl
          rcases hcap with hcap | ⟨rfl, hcap⟩
          · exact .inl hcap
          · exact .inr ⟨b, cs, e, rfl, rfl, hb, by omega⟩
    all_goals exact .pure (hc.mono hprot)
  -- the own block's facts
  have hown : ∀ c, owOf r = some c → ∃ v0 sz len, Own1 x w' (fun b => s.w.heap.size ≤ b ∧ b < w'.heap.size ∧ x ≠ some b) v0 sz c len := by
    intro c hc
    cases r <;> simp only [owOf] at hc <;> try (cases hc; done)
    case ow sz c2 len => injection hc with hc; subst hc; exact ⟨v, sz, len, hout⟩
    case tup rs =>
      obtain ⟨_, vs, rfl, hall⟩ := hout
      have key : ∀ (rs : List D) (us : List Value), All2 (OutC x w' (fun b => s.w.heap.size ≤ b ∧ b < w'.heap.size ∧ x ≠ some b)) us rs → owL rs = some c → ∃ v0 sz len, Own1 x w' (fun b => s.w.heap.size ≤ b ∧ b < w'.heap.size ∧ x ≠ some b) v0 sz c len := by
        intro rs
        induction rs with
        | nil => intro us _ h; simp [owL] at h
        | cons r0 rs ih =>
          intro us hall h
          cases us with
          | nil => have := hall.1; simp at this
          | cons u us =>
            have h0 := hall.2 0 u r0 rfl rfl
            have ht : All2 (OutC x w' (fun b => s.w.heap.size ≤ b ∧ b < w'.heap.size ∧ x ≠ some b)) us rs := by simpa using hall.drop 1
            cases r0 <;> simp only [owL] at h
            case ow sz c2 len => injection h with h; subst h; exact ⟨u, sz, len, h0⟩
            all_goals exact ih us ht h
      exact key rs vs.toList hall hc
  have hH : RH s' (thawH kk r h) := by
    refine ⟨?_, ?_, ?_, ?_, ?_⟩
    · intro b hb
      rcases hb with hb | hb
      · have := H.lt b hb; show b < w'.heap.size; omega
      · exact hb.2.1
    · intro k k' b n n' h1 h2
      have hother : ∀ k n, k ≠ kk → s'.ρ k = some (some b, n) → x ≠ some b := by
        intro k n hk hkb hxb
        rw [hρ k hk] at hkb
        cases e : h k with
        | none => rw [H.dead k e] at hkb; cases hkb
        | some c =>
          obtain ⟨_, _, cs, e2, hb2, _⟩ := H.block e hkb
          have := hltb _ _ _ hb2
          have := (hx b hxb).1
          omega
      have hmine : ∀ n, s'.ρ kk = some (some b, n) → x = some b := by
        intro n hn
        rw [hρn] at hn
        split at hn
        · injection hn with hn; injection hn with h3 _
        · cases hn
      by_cases e1 : k = kk <;> by_cases e2 : k' = kk
      · omega
      · subst e1; exact absurd (hmine n h1) (hother k' n' e2 h2)
      · subst e2; exact absurd (hmine n' h2) (hother k n e1 h1)
      · rw [hρ k e1] at h1; rw [hρ k' e2] at h2; exact H.inj k k' b n n' h1 h2
    · intro k hk
      by_cases e1 : k = kk
      · rw [e1, hρn]
        cases ho : owOf r with
        | none => rfl
        | some c => rw [thawH_some ho, e1] at hk; simp [upd] at hk
      · rw [hρ k e1]
        cases ho : owOf r with
        | none => rw [thawH_none ho] at hk; exact H.dead k hk
        | some c => rw [thawH_some ho] at hk; simp only [upd, if_neg e1] at hk; exact H.dead k hk
    · intro k hk
      show k < max s.next (kk + 1)
      rcases hk with hk | hk
      · have := H.bound k hk; omega
      · omega
    · intro k c hk
      by_cases e1 : k = kk
      · rw [e1] at hk ⊢
        cases hc2 : owOf r with
        | none => rw [thawH_none hc2, H.fresh hkk] at hk; cases hk
        | some c2 =>
          rw [thawH_some hc2] at hk
          simp [upd] at hk
          subst hk
          refine ⟨.inr rfl, x, by rw [hρn, hc2], ?_, ?_⟩
          · intro hxn
            obtain ⟨v0, sz, len, a, cap, _, hlc, hcl, h0, _⟩ := hown c2 hc2
            have := h0 hxn
            obtain rfl : len = 0 := by omega
            exact List.length_eq_zero_iff.1 (by simpa using hcl)
          · intro b hb
            obtain ⟨v0, sz, len, a, cap, _, hlc, hcl, h0, hq⟩ := hown c2 hc2
            obtain ⟨cs, e, hbb, hall, _, hcap⟩ := hq b hb
            refine ⟨?_, cs, e, hbb, by have := hall.1; simp at this; omega, hall.mono fun _ _ h => ⟨.pure (h.1.mono hprot), h.2⟩⟩
            rintro (hp | hp)
            · have := H.lt b hp; have := (hx b hb).1; omega
            · exact hp.2.2 hb
      · have hk' : h k = some c := by
          cases ho : owOf r with
          | none => rw [thawH_none ho] at hk; exact hk
          | some c2 => rw [thawH_some ho] at hk; simpa only [upd, if_neg e1] using hk
        obtain ⟨hu, y, hy, hyn, hq⟩ := H.own k c hk'
        refine ⟨.inl hu, y, by rw [hρ k e1]; exact hy, hyn, ?_⟩
        intro b hb
        obtain ⟨hnp, cs, e, hbb, hl, hall⟩ := hq b hb
        have hbl := hltb _ _ _ hbb
        refine ⟨?_, cs, e, (hsame b hbl).trans hbb, hl, hall.mono fun _ _ h => h.mono hE⟩
        rintro (hp | hp)
        · exact hnp hp
        · omega
  refine ⟨s', rfl, hE, fun _ h => h, hH, ?_⟩
  cases r <;> simp only [thaw] at hout ⊢
  case tup rs =>
    obtain ⟨hn, vs, rfl, hall⟩ := hout
    refine .tup vs (rs.map (thawC kk)) (by simpa using hall.1) ?_
    intro i v d hv hd
    rw [List.getElem?_map] at hd
    cases hr0 : rs[i]? with
    | none => rw [hr0] at hd; cases hd
    | some r0 =>
      rw [hr0] at hd; simp at hd; subst hd
      have key : ∀ (rs : List D) (i : Nat) (r0 : D), nOw rs ≤ 1 → rs[i]? = some r0 → isOw r0 = true → (∃ c, owL rs = some c) ∧ ∀ c, owL rs = some c → ∃ sz len, r0 = .ow sz c len := by
        intro rs
        induction rs with
        | nil => intro i r0 _ hi _; simp at hi
        | cons a rs ih =>
          intro i r0 hn hi ho
          have hzero : ∀ (l : List D) (j : Nat) (r1 : D), nOw l = 0 → l[j]? = some r1 → isOw r1 = true → False := by
            intro l
            induction l with
            | nil => intro j r1 _ hj _; simp at hj
            | cons b l ihl =>
              intro j r1 hn hj ho
              simp only [nOw] at hn
              cases j with
              | zero => simp at hj; subst hj; rw [ho] at hn; simp at hn
              | succ j => simp at hj; exact ihl j r1 (by omega) hj ho
          cases i with
          | zero =>
            simp at hi
            subst hi
            cases a <;> simp [isOw] at ho
            rename_i sz c len
            exact ⟨⟨c, rfl⟩, fun c2 h2 => by simp [owL] at h2; subst h2; exact ⟨sz, len, rfl⟩⟩
          | succ i =>
            simp at hi
            by_cases ha : isOw a = true
            · simp only [nOw, ha, if_true] at hn
              exact (hzero rs i r0 (by omega) hi ho).elim
            · have hla : owL (a :: rs) = owL rs := by cases a <;> first | rfl | (simp [isOw] at ha)
              rw [hla]
              exact ih i r0 (by simp only [nOw, ha] at hn; simp at hn; exact hn) hi ho
      refine comp v r0 (hall.2 i v r0 hv hr0) ?_ ?_
      · intro c ho hc
        exact (key rs i r0 hn hr0 ho).2 c hc
      · intro ho
        obtain ⟨c, hc⟩ := (key rs i r0 hn hr0 ho).1
        show (owL rs).isSome
        rw [hc]; rfl
  case ow sz c len => exact comp v _ hout (fun c2 _ h2 => by simp [owOf] at h2; subst h2; exact ⟨sz, len, rfl⟩) (fun _ => rfl)
  all_goals exact comp v _ hout (fun c2 h2 => by simp [isOw] at h2) (fun h2 => by simp [isOw] at h2)
theorem con_of_pcon {P : Program} {f : Nat} {ds ds' : List D} {r : D} {h : Heap} {Q : D → Heap → Prop} (hp : PCon P f ds' r) (hr : All2 (Rd h) ds ds') (hq : ∀ k, h k = none → Q (thaw k r) (thawH k r h)) : Con P f ds h Q := by
  refine ⟨hp.1, fun s args H A => ?_⟩
  have hargs : All2 (RP s.w (below s.w.heap.size)) args.toList ds' := by
    refine ⟨A.1.trans hr.1, fun i v d' hv hd => ?_⟩
    have hlt : i < ds.length := by
      rcases Nat.lt_or_ge i ds.length with h' | h'
      · exact h'
      · rw [hr.1] at h'; simp [List.getElem?_eq_none h'] at hd
    have hdi := List.getElem?_eq_getElem hlt
    exact hr.2 i _ d' hdi hd s v H.toO (A.2 i v _ hv hdi)
  refine (hp.2 s.w args hargs).mono ?_
  rintro e w' ⟨v, rfl, hsame, hsize, hso, hout⟩
  obtain ⟨s', rfl, hE, _, hH, hv⟩ := own_res H H.next_free hsame hsize hso hout
  exact ⟨v, thaw s.next r, thawH s.next r h, s', rfl, rfl, hE, hH, hv, hq _ (H.fresh H.next_free)⟩
theorem thawC_unow (k : Nat) (r : D) : thawC k (unowC r) = unowC r := by cases r <;> rfl
theorem isOw_unow (r : D) : isOw (unowC r) = false := by cases r <;> rfl
theorem thaw_unow (k : Nat) (r : D) : thaw k (unow r) = unow r := by
  cases r <;> simp only [unow, thaw]
  case tup rs =>
    rw [List.map_map]
    congr 1
    exact List.map_congr_left fun a _ => thawC_unow k a
  all_goals exact thawC_unow k _
theorem owL_unow : ∀ rs : List D, owL (rs.map unowC) = none
  | [] => rfl
  | r :: rs => by cases r <;> simp only [List.map_cons, unowC, owL] <;> exact owL_unow rs
theorem owOf_unow (r : D) : owOf (unow r) = none := by
  cases r <;> simp only [unow, unowC, owOf]
  exact owL_unow _
theorem nOw_unow : ∀ rs : List D, nOw (rs.map unowC) = 0
  | [] => rfl
  | r :: rs => by rw [List.map_cons, nOw, isOw_unow, nOw_unow rs]; rfl
theorem OutC_unow {x : Option Nat} {w : World} {prot prot' : Nat → Prop} {v : Value} {r : D} (h : OutC x w prot v r) (hp : ∀ b, prot b → prot' b) (hx : ∀ b, x = some b → prot' b) : OutC none w prot' v (unowC r) := by
  have := h.unow hp hx
  cases r <;> exact this
theorem Out_unow {base : Nat} {w : World} {v : Value} {r : D} (h : Out base w v r) : Out base w v (unow r) := by
  obtain ⟨x, hx, h⟩ := h
  have hp : ∀ b, (base ≤ b ∧ b < w.heap.size ∧ x ≠ some b) → (base ≤ b ∧ b < w.heap.size ∧ (none : Option Nat) ≠ some b) := fun b h => ⟨h.1, h.2.1, by simp⟩
  have hx' : ∀ b, x = some b → (base ≤ b ∧ b < w.heap.size ∧ (none : Option Nat) ≠ some b) := fun b hb => ⟨(hx b hb).1, (hx b hb).2, by simp⟩
  refine Exists.intro none (And.intro (fun b hb => by simp at hb) ?_)
  cases r <;> simp only [unow] at h ⊢
  case tup rs =>
    obtain ⟨_, vs, rfl, hall⟩ := h
    refine ⟨by rw [nOw_unow]; omega, vs, rfl, by simpa using hall.1, ?_⟩
    intro i v d hv hd
    rw [List.getElem?_map] at hd
    cases hr : rs[i]? with
    | none => rw [hr] at hd; cases hd
    | some r0 =>
      rw [hr] at hd; simp at hd; subst hd
      exact OutC_unow (hall.2 i v r0 hv hr) hp hx'
  all_goals exact OutC_unow h hp hx'
theorem pcon_unow {P : Program} {f : Nat} {ds : List D} {r : D} (hp : PCon P f ds r) : PCon P f ds (unow r) :=
  ⟨hp.1, fun w args h => (hp.2 w args h).mono fun _ _ ⟨v, h1, h2, h3, h4, h5⟩ => ⟨v, h1, h2, h3, h4, Out_unow h5⟩⟩
end Go.AM
end
