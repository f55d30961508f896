/-
An evaluator over data for the model's Go code: its values, its memory, its operations, its code. Conditions: none; definitions alone.
-/
import Derived.WalkKit
namespace Go.Aug
inductive D where
  | v (x : Value)
  | sl (n : Nat) (l : List D) (cap : Option Nat)
  | cp (l : List D)
  | rf (r off : Nat)
  | rs (r off n : Nat) (cap : Option Nat) (size : Nat)
  | mp (r : Nat)
  | agg (l : List D)
  | tup (l : List D)
  | fn (f : Fn) (first caps : List D)
  | ifc (t : TypeId) (d : D)
  | yl (r : Nat)
  deriving Inhabited
inductive Rand where
  | t (i : Nat)
  | c (d : D)
  deriving Inhabited
inductive K0 where
  | bool | int | text
  deriving DecidableEq, Inhabited
inductive CK where
  | bool | int | text
  | row (ks : List K0)
  deriving DecidableEq, Inhabited
def K0.ck : K0 → CK
  | .bool => .bool
  | .int => .int
  | .text => .text
inductive EK where
  | bool
  | cells (ks : List CK)
  | slice | ptr | func | ifc
  deriving DecidableEq, Inhabited
inductive AOp where
  | mv (x : Rand)
  | pick (c a b : Rand)
  | new (x : Rand)
  | zero (z : List D)
  | build (z : List D) (parts : List (Nat × Nat × Rand))
  | lits (n size : Nat) (z : List D) (parts : List (Nat × Nat × Rand))
  | load (k : Option Nat) (a : Rand)
  | store (k : Nat) (a x : Rand)
  | nilck (x : Rand)
  | bin (op : BinOp) (x y : Rand)
  | eqt (neg : Bool) (k : EK) (x y : Rand)
  | un (op : UnOp) (x : Rand)
  | conv (k : IntKind) (x : Rand)
  | convI (x : Rand)
  | convB (x : Rand)
  | convF (k : FloatKind) (x : Rand)
  | cplx (x y : Rand)
  | eqC (x y : Rand)
  | ifc (t : TypeId) (x : Rand)
  | mkfn (f : Fn) (first caps : List Rand)
  | ext (x : Rand) (i : Nat)
  | fadr (off : Nat) (x : Rand)
  | fld (k : Option Nat) (off : Nat) (x : Rand)
  | iadr (size : Nat) (x i : Rand)
  | iadrA (size len : Nat) (x i : Rand)
  | idxS (x i : Rand)
  | idxA (k : Option Nat) (size len : Nat) (x i : Rand)
  | slice (size : Nat) (x : Rand) (lo hi mx : Option Rand)
  | sliceS (x : Rand) (lo hi : Option Rand)
  | len (text : Bool) (x : Rand)
  | app (text : Bool) (size bytes : Nat) (x y : Rand)
  | minmax (most : Bool) (xs : List Rand)
  | call (f : FuncId) (args : List Rand)
  | cald (f : Rand) (args : List Rand)
  | mkmap
  | mlook (ck : CK) (z : D) (ok : Bool) (m k : Rand)
  | mput (ck : CK) (m k x : Rand)
  | ment (ck : CK) (z : D) (m k : Rand)
  | mset (m i x : Rand)
  | clr (size : Nat) (z : List D) (x : Rand)
  | mksl (size bytes : Nat) (z : List D) (x : Rand)
  | mlen (m : Rand)
  | mrng (m : Rand)
  | mnxt (it : Rand)
  | mcur (it : Rand)
  | bad
  deriving Inhabited
inductive Cls where
  | plain | reads | news | acts
  deriving DecidableEq, Inhabited
structure POp where
  dst : Option Nat
  op : AOp
  guard : Option (Nat × Bool)
  cls : Cls
  act : List Nat
  lo : Nat
  still : Bool
  deriving Inhabited
inductive AC where
  | skip
  | ret
  | exit (id : Nat)
  | seq (a b : AC)
  | cond (c : Rand) (a b : AC)
  | block (id : Nat) (b : AC)
  | loop (b : AC)
  | reg (ops : List POp)
  | dreg (news : Nat) (ops : List POp)
  | rfun (f : Rand) (params : List Nat) (assign body : AC)
  | bad
  deriving Inhabited
inductive Ex where
  | normal
  | exit (id : Nat)
  | ret
  deriving DecidableEq, Inhabited
inductive O where
  | cells (l : List D)
  | map (es : List (D × D))
  | loop (busy over : Bool) (jump : Ex) (e : List D) (params : List Nat) (assign body : AC)
  | iter (m since clk : Nat) (seen : List Nat)
  deriving Inhabited
structure Heap where
  next : Nat
  low : Nat
  objs : List (Nat × O)
  deriving Inhabited
def look : List (Nat × O) → Nat → Option O
  | [], _ => none
  | (k, o) :: rest, r => if r == k then some o else look rest r
def putAt : List (Nat × O) → Nat → O → List (Nat × O)
  | [], _, _ => []
  | (k, x) :: rest, r, o => if r == k then (k, o) :: rest else (k, x) :: putAt rest r o
def dropAt : List (Nat × O) → Nat → List (Nat × O)
  | [], _ => []
  | (k, x) :: rest, r => if r == k then dropAt rest r else (k, x) :: dropAt rest r
def Heap.get (H : Heap) (r : Nat) : Option O := look H.objs r
def Heap.set (H : Heap) (r : Nat) (o : O) : Heap := ⟨H.next, if r < H.low then r else H.low, putAt H.objs r o⟩
def Heap.swap (H : Heap) (r : Nat) (o : O) : Heap := ⟨H.next, H.low, putAt H.objs r o⟩
def Heap.del (H : Heap) (r : Nat) : Heap := ⟨H.next, if r < H.low then r else H.low, dropAt H.objs r⟩
def Heap.add (H : Heap) (o : O) : Heap := ⟨H.next + 1, H.low, (H.next, o) :: H.objs⟩
inductive RV where
  | tmp (t : Nat)
  | cell (t : Nat) (k : Option Nat)
  deriving Inhabited
structure FI where
  ntmps : Nat
  results : List RV
  code : AC
  deriving Inhabited
abbrev Env := List D
def uD : D := .v (.tuple #[])
def Env.get (e : Env) (i : Nat) : D := (e[i]?).getD uD
def evR (e : Env) : Rand → D
  | .t i => Env.get e i
  | .c d => d
def putE (e : Env) (dst : Option Nat) (d : D) : Env :=
  match dst with
  | some i => e.set i d
  | none => e
def cellsOf : D → Option (List D)
  | .agg l => some l
  | .v (.agg _) => none
  | .v (.tuple _) => none
  | .tup _ => none
  | d => some [d]
def setAll (cells : List D) (off : Nat) : List D → List D
  | [] => cells
  | d :: rest => setAll (cells.set off d) (off + 1) rest
def fillD (e : Env) (cells : List D) : List (Nat × Nat × Rand) → Option (List D)
  | [] => some cells
  | (off, size, x) :: rest =>
    match cellsOf (evR e x) with
    | some l => if l.length == size && decide (off + size ≤ cells.length) then fillD e (setAll cells off l) rest else none
    | none => none
def eqK (k : CK) (x y : D) : Option Bool :=
  match k with
  | .bool => match x, y with
    | .v (.bool a), .v (.bool b) => some (a == b)
    | _, _ => none
  | .int => match x, y with
    | .v (.int k a), .v (.int k' b) => if k = k' then some (a == b) else none
    | _, _ => none
  | .text => match x, y with
    | .v (.string a), .v (.string b) => some (a.toList == b.toList)
    | _, _ => none
  | .row _ => none
def eqL : List CK → List D → List D → Option Bool
  | [], _, _ => some true
  | k :: ks, a :: x, b :: y => match eqK k a b with
    | some true => eqL ks x y
    | some false => some false
    | none => none
  | _, _, _ => none
def eqM (k : CK) (x y : D) : Option Bool :=
  match k with
  | .row ks => match x, y with
    | .agg a, .agg b => if a.length == ks.length && b.length == ks.length then eqL (ks.map K0.ck) a b else none
    | _, _ => none
  | k => eqK k x y
def eqAny (k : EK) (x y : D) : Option Bool :=
  match k with
  | .bool => match x, y with
    | .v (.bool a), .v (.bool b) => some (a == b)
    | _, _ => none
  | .cells ks => match x, y with
    | .agg x, .agg y => eqL ks x y
    | _, _ => none
  | .slice => match x, y with
    | .v (.slice none _ _), .v (.slice none _ _) => some true
    | .v (.slice none _ _), .sl _ _ _ => some false
    | .sl _ _ _, .v (.slice none _ _) => some false
    | .v (.slice none _ _), .rs _ _ _ _ _ => some false
    | .rs _ _ _ _ _, .v (.slice none _ _) => some false
    | _, _ => none
  | .ptr => match x, y with
    | .v (.pointer none), .v (.pointer none) => some true
    | .v (.pointer none), .rf _ _ => some false
    | .rf _ _, .v (.pointer none) => some false
    | _, _ => none
  | .func => match x, y with
    | .v .nilFunc, .v .nilFunc => some true
    | .v .nilFunc, .fn _ _ _ => some false
    | .fn _ _ _, .v .nilFunc => some false
    | _, _ => none
  | .ifc => match x, y with
    | .v .nilIface, .ifc _ _ => some false
    | .ifc _ _, .v .nilIface => some false
    | _, _ => none
def binInt (op : BinOp) (k : IntKind) (a b : Int) : Option Value :=
  match op with
  | .add => some (.int k (k.wrap (a + b)))
  | .sub => some (.int k (k.wrap (a - b)))
  | .mul => some (.int k (k.wrap (a * b)))
  | .quo => if b = 0 then none else some (.int k (k.wrap (a.tdiv b)))
  | .rem => if b = 0 then none else some (.int k (a.tmod b))
  | .and => some (.int k (k.wrap (BitVec.ofInt k.bits a &&& BitVec.ofInt k.bits b).toNat))
  | .or => some (.int k (k.wrap (BitVec.ofInt k.bits a ||| BitVec.ofInt k.bits b).toNat))
  | .xor => some (.int k (k.wrap (BitVec.ofInt k.bits a ^^^ BitVec.ofInt k.bits b).toNat))
  | .eql => some (.bool (a == b))
  | .neq => some (.bool (a != b))
  | .lss => some (.bool (a < b))
  | .leq => some (.bool (a ≤ b))
  | .gtr => some (.bool (a > b))
  | .geq => some (.bool (a ≥ b))
  | _ => none
def binStr (op : BinOp) (x y : ByteArray) : Option Value :=
  let eq := x.toList == y.toList
  let lt := Op.bytesLess x.toList y.toList
  match op with
  | .add => if ((x.size + y.size : Nat) : Int) > IntKind.i64.max then none else some (.string (x ++ y))
  | .eql => some (.bool eq)
  | .neq => some (.bool !eq)
  | .lss => some (.bool lt)
  | .leq => some (.bool (lt || eq))
  | .gtr => some (.bool !(lt || eq))
  | .geq => some (.bool !lt)
  | _ => none
def evBin (op : BinOp) : D → D → Option D
  | .v (.int k a), .v (.int k' b) =>
    match op with
    | .shl => if b < 0 then none else some (.v (.int k (k.wrap (a * 2 ^ (min b.toNat k.bits)))))
    | .shr => if b < 0 then none else some (.v (.int k (a.fdiv (2 ^ (min b.toNat k.bits)))))
    | _ => if k = k' then (binInt op k a b).map .v else none
  | .v (.string a), .v (.string b) => (binStr op a b).map .v
  | _, _ => none
def evConvF (k : FloatKind) : D → Option D
  | .v (.int _ n) => some (.v (.float k (k.nearest n)))
  | _ => none
def evEqC : D → D → Option D
  | .v (.complex k a b), .v (.complex k' c d) => if k = k' then some (.v (.bool (k.format.order a c == some .eq && k.format.order b d == some .eq))) else none
  | _, _ => none
def evCplx : D → D → Option D
  | .v (.float k a), .v (.float k' b) => if k = k' then some (.v (.complex k a b)) else none
  | _, _ => none
def evUn (op : UnOp) : D → Option D
  | .v (.int k n) => match op with
    | .neg => some (.v (.int k (k.wrap (0 - n))))
    | _ => none
  | .v (.bool b) => match op with
    | .not => some (.v (.bool !b))
    | _ => none
  | _ => none
def evConv (k : IntKind) : D → Option D
  | .v (.int _ n) => some (.v (.int k (k.wrap n)))
  | _ => none
def evExt : D → Nat → Option D
  | .tup l, i => l[i]?
  | _, _ => none
def evFadr (off : Nat) : D → Option D
  | .rf r o => some (.rf r (o + off))
  | .cp l => some (.cp (l.drop off))
  | _ => none
def evFld (k : Option Nat) (off : Nat) : D → Option D
  | .agg l => match k with
    | some n => if off + n ≤ l.length then some (.agg ((l.drop off).take n)) else none
    | none => l[off]?
  | _ => none
def asI : D → Option Int
  | .v (.int _ n) => some n
  | _ => none
def evIadr (size : Nat) (x i : D) : Option D :=
  match asI i with
  | none => none
  | some n => match x with
    | .sl m l _ => if 0 ≤ n ∧ n < (m : Int) then some (.cp (l.drop (n.toNat * size))) else none
    | .rs r off m _ _ => if 0 ≤ n ∧ n < (m : Int) then some (.rf r (off + n.toNat * size)) else none
    | _ => none
def evIadrA (size len : Nat) (x i : D) : Option D :=
  match asI i with
  | none => none
  | some n => if 0 ≤ n ∧ n < (len : Int) then
      match x with
      | .cp l => some (.cp (l.drop (n.toNat * size)))
      | .rf r off => some (.rf r (off + n.toNat * size))
      | _ => none
    else none
def evIdxS : D → D → Option D
  | .v (.string s), .v (.int _ n) => if 0 ≤ n then (match s[n.toNat]? with | some b => some (.v (.int .u8 b.toNat)) | none => none) else none
  | _, _ => none
def evIdxA (k : Option Nat) (size len : Nat) (x i : D) : Option D :=
  match asI i with
  | none => none
  | some n => if 0 ≤ n ∧ n < (len : Int) then evFld k (n.toNat * size) x else none
def bound (e : Env) (x : Option Rand) (other most : Nat) : Option Nat :=
  match x with
  | none => some other
  | some x => match asI (evR e x) with
    | some n => if 0 ≤ n ∧ n ≤ (most : Int) then some n.toNat else none
    | none => none
def evSlice (e : Env) (size : Nat) (x : D) (lo hi mx : Option Rand) : Option D :=
  match x with
  | .v (.slice none 0 0) =>
    match bound e mx 0 0, bound e hi 0 0, bound e lo 0 0 with
    | some _, some _, some _ => some (.v (.slice none 0 0))
    | _, _, _ => none
  | .sl n l cap =>
    match bound e mx n n with
    | none => none
    | some m => match bound e hi n m with
      | none => none
      | some h => match bound e lo 0 h with
        | none => none
        | some k => some (.sl (h - k) ((l.drop (k * size)).take ((h - k) * size)) (if mx.isSome then some (m - k) else cap.map (· - k)))
  | .rs r off n cap sz =>
    match bound e mx n n with
    | none => none
    | some m => match bound e hi n m with
      | none => none
      | some h => match bound e lo 0 h with
        | none => none
        | some k => if sz == size && decide (k < m ∨ k = 0) then some (.rs r (off + k * size) (h - k) (if mx.isSome then some (m - k) else cap.map (· - k)) sz) else
          if h == k then some (.sl 0 [] (if mx.isSome then some (m - k) else cap.map (· - k))) else none
  | _ => none
def evSliceS (e : Env) (x : D) (lo hi : Option Rand) : Option D :=
  match x with
  | .v (.string s) =>
    match bound e hi s.size s.size with
    | none => none
    | some h => match bound e lo 0 h with
      | none => none
      | some k => some (.v (.string (s.extract k h)))
  | _ => none
def evLen (text : Bool) (d : D) : Option D :=
  match text with
  | true => match d with
    | .v (.string s) => some (.v (.int .i64 s.size))
    | _ => none
  | false => match d with
    | .v (.slice none n _) => some (.v (.int .i64 n))
    | .sl n _ _ => some (.v (.int .i64 n))
    | .rs _ _ n _ _ => some (.v (.int .i64 n))
    | _ => none
def mm2 (most : Bool) : D → D → Option D
  | .v (.int k x), .v (.int k' y) => if k = k' then some (.v (.int k (if most then (if y > x then y else x) else (if y < x then y else x)))) else none
  | _, _ => none
def mmAll (most : Bool) (x : D) : List D → Option D
  | [] => some x
  | y :: rest => match mm2 most x y with
    | some z => mmAll most z rest
    | none => none
def evMinmax (most : Bool) : List D → Option D
  | [] => none
  | x :: rest => match x with
    | .v (.int _ _) => mmAll most x rest
    | _ => none
def D.under (n : Nat) : D → Bool
  | .v _ => true
  | .sl _ l _ => underAll n l
  | .cp l => underAll n l
  | .rf r _ => decide (r < n)
  | .rs r _ _ _ _ => decide (r < n)
  | .mp r => decide (r < n)
  | .agg l => underAll n l
  | .tup l => underAll n l
  | .fn _ a b => underAll n a && underAll n b
  | .ifc _ d => d.under n
  | .yl r => decide (r < n)
where underAll (n : Nat) : List D → Bool
  | [] => true
  | d :: rest => d.under n && underAll n rest
def cellsAt (H : Heap) : D → Option (List D)
  | .cp l => some l
  | .rf r off => match H.get r with
    | some (.cells l) => some (l.drop off)
    | _ => none
  | _ => none
def pickL (k : Option Nat) (l : List D) : Option D :=
  match k with
  | none => l[0]?
  | some n => if n ≤ l.length then some (.agg (l.take n)) else none
def evLoad (H : Heap) (k : Option Nat) (a : D) : Option D :=
  match cellsAt H a with
  | none => none
  | some l => pickL k l
def evStore (H : Heap) (k : Nat) (a x : D) : Option Heap :=
  match a with
  | .rf r off => match H.get r with
    | some (.cells l) => match cellsOf x with
      | some c => if c.length == k && decide (off + k ≤ l.length) then some (H.set r (.cells (setAll l off c))) else none
      | none => none
    | _ => none
  | _ => none
def firstD (H : Heap) (text : Bool) (size : Nat) (y : D) : Option (Nat × List D) :=
  match text with
  | true => match y with
    | .v (.string s) => some (s.size, s.data.toList.map fun b => .v (.int .u8 b.toNat))
    | _ => none
  | false => match y with
    | .v (.slice none 0 0) => some (0, [])
    | .sl n l _ => if l.length == n * size then some (n, l) else none
    | .rs r off n _ _ => match H.get r with
      | some (.cells l) => if off + n * size ≤ l.length then some (n, (l.drop off).take (n * size)) else none
      | _ => none
    | _ => none
def bytesL : List D → Option (List UInt8)
  | [] => some []
  | .v (.int .u8 n) :: l => match bytesL l with
    | some bs => some (UInt8.ofNat n.toNat :: bs)
    | none => none
  | _ => none
def evConvI : D → Option D
  | .v (.int _ n) => some (.v (.string (Utf8.encode n)))
  | _ => none
def evConvB (H : Heap) (x : D) : Option D :=
  match firstD H false 1 x with
  | some (_, l) => (match bytesL l with
    | some bs => some (.v (.string ⟨bs.toArray⟩))
    | none => none)
  | none => none
def roomOk (bytes n : Nat) : Bool := decide (n * bytes ≤ 2 ^ 47) && decide (bytes ≤ 2 ^ 20) && decide (n ≤ 2 ^ 47)
def evApp (H : Heap) (text : Bool) (size bytes : Nat) (x y : D) : Option (D × Heap) :=
  match firstD H text size y with
  | none => none
  | some (m, new) =>
    match x with
    | .v (.slice none 0 0) =>
      if m == 0 then some (x, H) else
      if roomOk bytes m then some (.rs H.next 0 m none size, H.add (.cells new)) else none
    | .sl n l cap =>
      if m == 0 then some (x, H) else
      match cap with
      | some c => if c < n + m && l.length == n * size && roomOk bytes (n + m) then some (.rs H.next 0 (n + m) none size, H.add (.cells (l ++ new))) else none
      | none => none
    | .rs r off n cap sz =>
      if m == 0 then some (x, H) else
      if sz == size then
        match H.get r with
        | some (.cells l) =>
          match cap with
          | some c =>
            if n + m ≤ c then
              (if off + (n + m) * size ≤ l.length then some (.rs r off (n + m) (some c) size, H.set r (.cells (setAll l (off + n * size) new))) else none)
            else if off + n * size ≤ l.length && roomOk bytes (n + m) then
              some (.rs H.next 0 (n + m) none size, H.add (.cells ((l.drop off).take (n * size) ++ new)))
            else none
          | none =>
            if off == 0 && n * size == l.length && roomOk bytes (n + m) then
              some (.rs H.next 0 (n + m) none size, (H.del r).add (.cells (l ++ new)))
            else if off == 0 && decide (n * size ≤ l.length) && roomOk bytes (n + m) then
              some (.rs H.next 0 (n + m) none size, (H.del r).add (.cells (l.take (n * size) ++ new)))
            else none
        | _ => none
      else none
    | _ => none
def findD (ck : CK) (k : D) : List (D × D) → Nat → Option (Option Nat)
  | [], _ => some none
  | e :: rest, i => match eqM ck k e.1 with
    | some true => some (some i)
    | some false => findD ck k rest (i + 1)
    | none => none
def mapAt (H : Heap) : D → Option (List (D × D))
  | .v (.map none) => some []
  | .mp r => match H.get r with
    | some (.map es) => some es
    | _ => none
  | _ => none
def rowOk : List K0 → List D → Bool
  | [], [] => true
  | k :: ks, d :: l => match k, d with
    | .int, .v (.int _ _) => rowOk ks l
    | .text, .v (.string _) => rowOk ks l
    | .bool, .v (.bool _) => rowOk ks l
    | _, _ => false
  | _, _ => false
def keyOk (ck : CK) (k : D) : Bool :=
  match ck, k with
  | .int, .v (.int _ _) => true
  | .text, .v (.string _) => true
  | .bool, .v (.bool _) => true
  | .row ks, .agg l => rowOk ks l
  | _, _ => false
def evMlook (H : Heap) (ck : CK) (z : D) (ok : Bool) (m k : D) : Option D :=
  match mapAt H m with
  | none => none
  | some es => if keyOk ck k then match findD ck k es 0 with
    | none => none
    | some none => some (if ok then .tup [z, .v (.bool false)] else z)
    | some (some i) => match es[i]? with
      | some e => some (if ok then .tup [e.2, .v (.bool true)] else e.2)
      | none => none
    else none
def evMlen (H : Heap) (m : D) : Option D :=
  match mapAt H m with
  | some es => some (.v (.int .i64 (es.length : Nat)))
  | none => none
def evMput (H : Heap) (ck : CK) (m k x : D) : Option Heap :=
  match m with
  | .mp r => match H.get r with
    | some (.map es) => if keyOk ck k then (match findD ck k es 0 with
      | none => none
      | some none => some (H.set r (.map (es ++ [(k, x)])))
      | some (some i) => some (H.set r (.map (es.set i (k, x))))) else none
    | _ => none
  | _ => none
def evMent (H : Heap) (ck : CK) (z m k : D) : Option (D × Heap) :=
  match m with
  | .mp r => match H.get r with
    | some (.map es) => if keyOk ck k then (match findD ck k es 0 with
      | none => none
      | some none => some (.tup [z, .v (.int .i64 es.length)], H.set r (.map (es ++ [(k, z)])))
      | some (some i) => match es[i]? with
        | some e => some (.tup [e.2, .v (.int .i64 i)], H.set r (.map (es.set i (k, e.2))))
        | none => none) else none
    | _ => none
  | _ => none
def evMrng (H : Heap) (m : D) : Option (D × Heap) :=
  match m with
  | .mp r => match H.get r with
    | some (.map es) => some (.rf H.next 0, H.add (.iter r es.length es.length []))
    | _ => none
  | _ => none
def leftIdx (n : Nat) (seen : List Nat) : List Nat := (List.range n).filter fun i => !seen.contains i
def evMnxt (H : Heap) (it : D) : Option (D × Heap) :=
  match it with
  | .rf r 0 => match H.get r with
    | some (.iter m since clk seen) => match H.get m with
      | some (.map es) => if es.length ≤ since ∧ since ≤ clk then (match leftIdx es.length seen with
        | [] => some (.tup [.v (.bool false)], H)
        | [i] => (match es[i]? with
          | some e => some (.tup [.v (.bool true), e.1, e.2], H.set r (.iter m since es.length (seen ++ [i])))
          | none => none)
        | _ => none) else none
      | _ => none
    | _ => none
  | _ => none
def evMcur (H : Heap) (it : D) : Option D :=
  match it with
  | .rf r 0 => match H.get r with
    | some (.iter m _ clk seen) => match H.get m, seen.getLast? with
      | some (.map es), some i => if es.length = clk then (match es[i]? with
        | some e => some (.tup [e.1, e.2])
        | none => none) else none
      | _, _ => none
    | _ => none
  | _ => none
def evMset (H : Heap) (m i x : D) : Option Heap :=
  match m, i with
  | .mp r, .v (.int _ n) => match H.get r with
    | some (.map es) => match es[n.toNat]? with
      | some e => if 0 ≤ n then some (H.set r (.map (es.set n.toNat (e.1, x)))) else none
      | none => none
    | _ => none
  | _, _ => none
def evClr (H : Heap) (size : Nat) (z : List D) (x : D) : Option Heap :=
  match x with
  | .v (.slice none _ _) => some H
  | .sl n _ _ => if n = 0 then some H else none
  | .rs r off n _ _ => if n = 0 then some H else match H.get r with
    | some (.cells l) => if off + n * size ≤ l.length then some (H.set r (.cells (setAll l off (List.replicate n z).flatten))) else none
    | _ => none
  | _ => none
def evMksl (H : Heap) (size bytes : Nat) (z : List D) (x : D) : Option (D × Heap) :=
  match asI x with
  | some n => if 0 ≤ n ∧ roomOk bytes n.toNat = true then some (.rs H.next 0 n.toNat (some n.toNat) size, H.add (.cells (List.replicate n.toNat z).flatten)) else none
  | none => none
inductive Callee where
  | fn (f : FuncId)
  | yl (r : Nat)
  deriving Inhabited
abbrev CallF := Callee → List D → Heap → Option (D × Heap)
def evOp (call : CallF) (e : Env) (H : Heap) : AOp → Option (D × Heap)
  | .mv x => some (evR e x, H)
  | .pick c a b => match evR e c with
    | .v (.bool t) => some (if t then evR e a else evR e b, H)
    | _ => none
  | .new x => (cellsOf (evR e x)).map fun l => (.rf H.next 0, H.add (.cells l))
  | .zero z => some (.rf H.next 0, H.add (.cells z))
  | .build z parts => (fillD e z parts).map fun l => (.agg l, H)
  | .lits n size z parts => (fillD e z parts).map fun l => (.rs H.next 0 n (some n) size, H.add (.cells l))
  | .load k a => (evLoad H k (evR e a)).map fun d => (d, H)
  | .store k a x => (evStore H k (evR e a) (evR e x)).map fun H' => (uD, H')
  | .nilck x => match evR e x with
    | .rf r o => some (.rf r o, H)
    | .cp l => some (.cp l, H)
    | _ => none
  | .bin op x y => (evBin op (evR e x) (evR e y)).map fun d => (d, H)
  | .eqt neg k x y => (eqAny k (evR e x) (evR e y)).map fun b => (.v (.bool (b != neg)), H)
  | .un op x => (evUn op (evR e x)).map fun d => (d, H)
  | .conv k x => (evConv k (evR e x)).map fun d => (d, H)
  | .convI x => (evConvI (evR e x)).map fun d => (d, H)
  | .convB x => (evConvB H (evR e x)).map fun d => (d, H)
  | .convF k x => (evConvF k (evR e x)).map fun d => (d, H)
  | .cplx x y => (evCplx (evR e x) (evR e y)).map fun d => (d, H)
  | .eqC x y => (evEqC (evR e x) (evR e y)).map fun d => (d, H)
  | .ifc t x => some (.ifc t (evR e x), H)
  | .mkfn f first caps => some (.fn f (first.map (evR e)) (caps.map (evR e)), H)
  | .ext x i => (evExt (evR e x) i).map fun d => (d, H)
  | .fadr off x => (evFadr off (evR e x)).map fun d => (d, H)
  | .fld k off x => (evFld k off (evR e x)).map fun d => (d, H)
  | .iadr size x i => (evIadr size (evR e x) (evR e i)).map fun d => (d, H)
  | .iadrA size len x i => (evIadrA size len (evR e x) (evR e i)).map fun d => (d, H)
  | .idxS x i => (evIdxS (evR e x) (evR e i)).map fun d => (d, H)
  | .idxA k size len x i => (evIdxA k size len (evR e x) (evR e i)).map fun d => (d, H)
  | .slice size x lo hi mx => (evSlice e size (evR e x) lo hi mx).map fun d => (d, H)
  | .sliceS x lo hi => (evSliceS e (evR e x) lo hi).map fun d => (d, H)
  | .len text x => (evLen text (evR e x)).map fun d => (d, H)
  | .app text size bytes x y => evApp H text size bytes (evR e x) (evR e y)
  | .minmax most xs => (evMinmax most (xs.map (evR e))).map fun d => (d, H)
  | .call f args => call (.fn f) (args.map (evR e)) H
  | .cald f args => match evR e f with
    | .fn (.func g) first caps => call (.fn g) (first ++ args.map (evR e) ++ caps) H
    | .yl r => call (.yl r) (args.map (evR e)) H
    | _ => none
  | .mkmap => some (.mp H.next, H.add (.map []))
  | .mlook ck z ok m k => (evMlook H ck z ok (evR e m) (evR e k)).map fun d => (d, H)
  | .mput ck m k x => (evMput H ck (evR e m) (evR e k) (evR e x)).map fun H' => (uD, H')
  | .ment ck z m k => evMent H ck z (evR e m) (evR e k)
  | .mset m i x => (evMset H (evR e m) (evR e i) (evR e x)).map fun H' => (uD, H')
  | .clr size z x => (evClr H size z (evR e x)).map fun H' => (.tup [], H')
  | .mksl size bytes z x => evMksl H size bytes z (evR e x)
  | .mlen m => (evMlen H (evR e m)).map fun d => (d, H)
  | .mrng m => evMrng H (evR e m)
  | .mnxt it => evMnxt H (evR e it)
  | .mcur it => (evMcur H (evR e it)).map fun d => (d, H)
  | .bad => none
def D.says (b : Bool) : D → Bool
  | .v (.bool c) => c == b
  | _ => false
def wants (e : Env) : Option (Nat × Bool) → Bool
  | none => true
  | some (t, b) => (Env.get e t).says b
def evOps (call : CallF) : List POp → Env → Heap → Option (Env × Heap)
  | [], e, H => some (e, H)
  | p :: rest, e, H =>
    if wants e p.guard then
      match evOp call e H p.op with
      | some (d, H') => evOps call rest (putE e p.dst d) H'
      | none => none
    else evOps call rest (putE e p.dst uD) H
def wake (base : Nat) : List Nat → List (Nat × O) → List Nat → Heap → Heap
  | [], _, _, H => H
  | k :: rest, pend, on, H => if on.contains k then wake base rest pend on H else
    match look pend (base + k) with
    | some o => wake base rest pend (k :: on) ⟨H.next, H.low, (base + k, o) :: H.objs⟩
    | none => wake base rest pend on H
structure DS where
  env : Env
  rank : Nat
  pend : List (Nat × O)
  Hs : List (Heap × List Nat)
  deriving Inhabited
def DS.cur (s : DS) : Heap × List Nat := s.Hs.headD default
def DS.at (s : DS) (n : Nat) : Heap × List Nat := (s.Hs[s.Hs.length - 1 - n]?).getD default
def stillLim (lo first next : Nat) : Nat := if lo = 1 then first else next
def evD (call : CallF) (base : Nat) (p : POp) (s : DS) : Option DS :=
  if wants s.env p.guard then
    match p.cls with
    | .plain => match evOp call s.env s.cur.1 p.op with
      | some (d, _) => some { s with env := putE s.env p.dst d }
      | none => none
    | .reads => match evOp call s.env (wake base p.act s.pend (s.at p.lo).2 (s.at p.lo).1) p.op with
      | some (d, _) => some { s with env := putE s.env p.dst d }
      | none => none
    | .news => match evOp call s.env ⟨base + s.rank, 0, []⟩ p.op with
      | some (d, ⟨_, _, [(_, o)]⟩) => some { s with env := putE s.env p.dst d, rank := s.rank + 1, pend := (base + s.rank, o) :: s.pend }
      | _ => none
    | .acts =>
      let H := wake base p.act s.pend s.cur.2 s.cur.1
      if p.still then
        match evOp call s.env ⟨H.next, H.next, H.objs⟩ p.op with
        | some (d, H') => if stillLim p.lo (s.at 0).1.next H.next ≤ H'.low then some { s with env := putE s.env p.dst d, Hs := (⟨H'.next, H.low, H'.objs⟩, p.act ++ s.cur.2) :: s.Hs } else none
        | none => none
      else
        match evOp call s.env H p.op with
        | some (d, H') => some { s with env := putE s.env p.dst d, Hs := (H', p.act ++ s.cur.2) :: s.Hs }
        | none => none
  else
    match p.cls with
    | .plain | .reads => some { s with env := putE s.env p.dst uD }
    | .news => some { s with env := putE s.env p.dst uD, rank := s.rank + 1 }
    | .acts => some { s with env := putE s.env p.dst uD, Hs := s.cur :: s.Hs }
def evDs (call : CallF) (base : Nat) : List POp → DS → Option DS
  | [], s => some s
  | p :: rest, s => match evD call base p s with
    | some s' => evDs call base rest s'
    | none => none
def evDreg (call : CallF) (news : Nat) (ops : List POp) (e : Env) (H : Heap) : Option (Env × Heap) :=
  match evDs call H.next ops ⟨e, 0, [], [(⟨H.next + news, H.low, H.objs⟩, [])]⟩ with
  | some s => some (s.env, ⟨s.cur.1.next, s.cur.1.low, s.pend.filter (fun p => !s.cur.2.contains (p.1 - H.next)) ++ s.cur.1.objs⟩)
  | none => none
abbrev St := Ex × Env × Heap
def evLoop (b : Env → Heap → Option St) : Nat → Env → Heap → Option St
  | 0, _, _ => none
  | n + 1, e, H => match b e H with
    | some (.normal, e', H') => evLoop b n e' H'
    | r => r
def inRound : Option Nat → Heap → Bool
  | none, _ => true
  | some r, H => match H.get r with
    | some (.loop _ _ _ _ _ _ _) => true
    | _ => false
def evC (call : CallF) (n : Nat) (rd : Option Nat) : AC → Env → Heap → Option St
  | .skip, e, H => some (.normal, e, H)
  | .ret, e, H => some (.ret, e, H)
  | .exit id, e, H => some (.exit id, e, H)
  | .seq a b, e, H => match evC call n rd a e H with
    | some (.normal, e', H') => evC call n rd b e' H'
    | r => r
  | .cond c a b, e, H => match evR e c with
    | .v (.bool t) => if t then evC call n rd a e H else evC call n rd b e H
    | _ => none
  | .block id b, e, H => match evC call n rd b e H with
    | some (.exit id', e', H') => if id' = id then some (.normal, e', H') else some (.exit id', e', H')
    | r => r
  | .loop b, e, H => evLoop (evC call n rd b) n e H
  | .reg ops, e, H => (evOps call ops e H).map fun (e', H') => (.normal, e', H')
  | .dreg news ops, e, H => (evDreg call news ops e H).map fun (e', H') => (.normal, e', H')
  | .rfun f params assign body, e, H => match evR e f with
    | .fn (.func g) first caps =>
      if inRound rd H then
        match call (.fn g) (first ++ [.yl H.next] ++ caps) (H.add (.loop false false .normal e params assign body)) with
        | some (_, H') => match H'.get H.next with
          | some (.loop false _ jump _ _ _ _) => some (jump, e, H'.del H.next)
          | _ => none
        | none => none
      else none
    | _ => none
  | .bad, _, _ => none
def evRV (e : Env) (H : Heap) : RV → Option D
  | .tmp t => some (Env.get e t)
  | .cell t k => evLoad H k (Env.get e t)
def evRVs (e : Env) (H : Heap) : List RV → Option (List D)
  | [] => some []
  | r :: rest => match evRV e H r, evRVs e H rest with
    | some d, some l => some (d :: l)
    | _, _ => none
def resOf : List D → D
  | [d] => d
  | l => .tup l
def leave (H : Heap) (d : D) (H' : Heap) : D × Heap :=
  if decide (H.next ≤ H'.low) && d.under H.next then (d, H)
  else (d, ⟨H'.next, if H.low < H'.low then H.low else H'.low, H'.objs⟩)
def frzL (f : D → Option D) : List D → Option (List D)
  | [] => some []
  | d :: l => match f d, frzL f l with
    | some x, some r => some (x :: r)
    | _, _ => none
def frz (H : Heap) (lo : Nat) : Nat → D → Option D
  | 0, _ => none
  | n + 1, d => if d.under lo = true then some d else match d with
    | .v x => some (.v x)
    | .sl m l cap => (frzL (frz H lo n) l).map fun l => .sl m l cap
    | .cp l => (frzL (frz H lo n) l).map .cp
    | .rf r off => if r < lo then some (.rf r off) else match H.get r with
      | some (.cells l) => (frzL (frz H lo n) (l.drop off)).map .cp
      | _ => none
    | .rs r off m cap size => if r < lo then some (.rs r off m cap size) else match H.get r with
      | some (.cells l) => if off + m * size ≤ l.length then (frzL (frz H lo n) ((l.drop off).take (m * size))).map fun l => .sl m l cap else none
      | _ => none
    | .mp r => if r < lo then some (.mp r) else none
    | .agg l => (frzL (frz H lo n) l).map .agg
    | .tup l => (frzL (frz H lo n) l).map .tup
    | .fn f a b => match frzL (frz H lo n) a, frzL (frz H lo n) b with
      | some a, some b => some (.fn f a b)
      | _, _ => none
    | .ifc t d => (frz H lo n d).map (.ifc t)
    | .yl r => if r < lo then some (.yl r) else none
def leaveF (fz : Bool) (H : Heap) (d : D) (H' : Heap) : D × Heap :=
  match fz with
  | true => if H.next ≤ H'.low then match frz H' H.next 64 d with
      | some d' => (d', H)
      | none => leave H d H'
    else leave H d H'
  | false => leave H d H'
def evBody (call : CallF) (n : Nat) (fz : Bool) (fi : FI) (args : List D) (H : Heap) : Option (D × Heap) :=
  match evC call n none fi.code (args ++ List.replicate (fi.ntmps - args.length) uD) ⟨H.next, H.next, H.objs⟩ with
  | some (.exit _, _, _) => none
  | some (_, e, H') => match evRVs e H' fi.results with
    | some ds => some (leaveF fz H (resOf ds) H')
    | none => none
  | none => none
structure Tab where
  fn : FuncId → Option FI
  fz : FuncId → Bool
  orc : FuncId → Option (List D → Heap → Option (D × Heap))
def evRound (call : CallF) (n : Nat) (r : Nat) (args : List D) (H : Heap) : Option (D × Heap) :=
  match H.get r with
  | some (.loop false false _jump e params assign body) =>
    if params.length == args.length then
      match evC call n (some r) assign ((params.zip args).foldl (fun e p => e.set p.1 p.2) e) H with
      | some (.normal, e1, H1) => match H1.get r with
        | some (.loop false false j1 e1' p1 a1 b1) => match evC call n (some r) body e1 (H1.set r (.loop true false j1 e1' p1 a1 b1)) with
          | some (x, _, H2) => (match H2.get r with
            | some (.loop _ _ _ e2 p2 a2 b2) => match x with
              | .normal => some (.v (.bool true), H2.set r (.loop false false .normal e2 p2 a2 b2))
              | x => some (.v (.bool false), H2.set r (.loop false true x e2 p2 a2 b2))
            | _ => none)
          | none => none
        | _ => none
      | _ => none
    else none
  | _ => none
def ev (T : Tab) : Nat → CallF
  | 0, _, _, _ => none
  | n + 1, .fn f, args, H => match T.orc f with
    | some g => g args H
    | none => match T.fn f with
      | some fi => evBody (ev T n) n (T.fz f) fi args H
      | none => none
  | n + 1, .yl r, args, H => evRound (ev T n) n r args H
end Go.Aug
namespace Go.Aug
def ofV : Value → D
  | .agg cs => if cs.toList.all (·.oneCell') then .agg (cs.toList.map .v) else .v (.agg cs)
  | v => .v v
def ofR : Operand → Rand
  | .tmp t => .t t
  | .const v => .c (ofV v)
  | .global g => .c (.v (.pointer (some ⟨g, 0, none⟩)))
  | .func f => .c (.fn (.func f) [] [])
def sameTmp : Operand → Operand → Bool
  | .tmp a, .tmp b => a == b
  | _, _ => false
def zeroOf (P : Program) (t : TypeId) : Option (List D) :=
  match P.info? t with
  | some i => match i.zero with
    | some z => if z.cells.toList.all (·.oneCell') then some (z.cells.toList.map .v) else none
    | none => none
  | none => none
def kindOf (P : Program) (t : TypeId) : Option (Option Nat) :=
  match P.underlying t with
  | some (.struct _) => (P.info? t).map fun i => some i.size
  | some (.array _ _) => (P.info? t).map fun i => some i.size
  | some _ => some none
  | none => none
def sizeAt (P : Program) (t : TypeId) : Option Nat := (P.info? t).map (·.size)
def kindsOf (P : Program) : Nat → TypeId → Option (List CK)
  | 0, _ => none
  | d + 1, t => match P.underlying t with
    | some .bool => some [.bool]
    | some (.int _) => some [.int]
    | some .string => some [.text]
    | some (.struct fs) => if P.stoodInHeld t then none else match kindsFs (kindsOf P d) 0 fs.toList with
      | some ks => if sizeAt P t == some ks.length then some ks else none
      | none => none
    | _ => none
where kindsFs (of : TypeId → Option (List CK)) (at_ : Nat) : List Field → Option (List CK)
  | [] => some []
  | f :: rest => if f.name == "_" || f.offset != at_ then none else match of f.type with
    | some ks => (match kindsFs of (at_ + ks.length) rest with
      | some l => some (ks ++ l)
      | none => none)
    | none => none
def eqKind (P : Program) (t : TypeId) : Option EK :=
  match P.underlying t with
  | some .bool => some .bool
  | some (.slice _) => some .slice
  | some (.pointer _) => some .ptr
  | some (.func _ _ _) => some .func
  | some (.interface _) => some .ifc
  | some (.struct _) => if P.eqGuardType P.depth t then none else (kindsOf P 20 t).map .cells
  | _ => none
def partsOf (parts : List (Nat × Operand)) (place : Nat → Option (Nat × Nat)) : Option (List (Nat × Nat × Rand)) :=
  match parts with
  | [] => some []
  | (i, x) :: rest => match place i, partsOf rest place with
    | some (off, size), some l => some ((off, size, ofR x) :: l)
    | _, _ => none
def times (n : Nat) (z : List D) : List D :=
  match n with
  | 0 => []
  | n + 1 => z ++ times n z
def rowKs (P : Program) (n : Nat) : List Field → Option (List K0)
  | [] => some []
  | f :: rest => if f.offset < n then (match P.underlying f.type, rowKs P n rest with
      | some .bool, some l => some (.bool :: l)
      | some (.int _), some l => some (.int :: l)
      | some .string, some l => some (.text :: l)
      | _, _ => none)
    else none
def keyKind (P : Program) (t : TypeId) : Option CK :=
  match P.underlying t with
  | some (.int _) => some .int
  | some .string => some .text
  | some .bool => some .bool
  | some (.struct fs) => (match rowKs P fs.toList.length fs.toList with
    | some ks => if kindsOf P 2 t = some (ks.map K0.ck) then some (.row ks) else none
    | none => none)
  | _ => none
def zeroD (P : Program) (t : TypeId) : Option D :=
  match P.info? t with
  | some i => i.zero.map ofV
  | none => none
def compCall (P : Program) (c : Call) : AOp × Cls :=
  match c.callee with
  | .value (.func f) => (.call f (c.args.toList.map ofR), .acts)
  | .value x => (.cald (ofR x) (c.args.toList.map ofR), .acts)
  | .invoke _ _ => (.bad, .acts)
  | .builtin b =>
    match b, c.argTypes.toList, c.args.toList with
    | .len, t :: _, x :: _ => (match P.underlying t with
      | some .string => (.len true (ofR x), .plain)
      | some (.slice _) => (.len false (ofR x), .plain)
      | some (.map _ _) => (.mlen (ofR x), .reads)
      | _ => (.bad, .acts))
    | .append, [t, u], [x, y] => (match P.underlying t, P.underlying u with
      | some (.slice elem), some (.slice _) => (match P.info? elem, zeroOf P elem with
        | some i, some z => (if z.length == i.size then .app false i.size i.bytes (ofR x) (ofR y) else .bad, .acts)
        | _, _ => (.bad, .acts))
      | some (.slice elem), some .string => (match P.info? elem, zeroOf P elem with
        | some i, some z => (if i.size == 1 && z.length == i.size then .app true i.size i.bytes (ofR x) (ofR y) else .bad, .acts)
        | _, _ => (.bad, .acts))
      | _, _ => (.bad, .acts))
    | .clear, [t], [x] => (match P.underlying t with
      | some (.slice elem) => (match P.info? elem, zeroOf P elem with
        | some i, some z => (if z.length == i.size then .clr i.size z (ofR x) else .bad, .acts)
        | _, _ => (.bad, .acts))
      | _ => (.bad, .acts))
    | .complex, _, [x, y] => (.cplx (ofR x) (ofR y), .plain)
    | .min, _, l => (.minmax false (l.map ofR), .plain)
    | .max, _, l => (.minmax true (l.map ofR), .plain)
    | _, _, _ => (.bad, .acts)
def compOp (P : Program) : Op → AOp × Cls
  | .move x => (.mv (ofR x), .plain)
  | .assign x => (.mv (ofR x), .plain)
  | .pick c a b => (.pick (ofR c) (ofR a) (ofR b), .plain)
  | .alloc t => (match zeroOf P t with | some z => .zero z | none => .bad, .news)
  | .box _ x => (.new (ofR x), .news)
  | .build t parts => (match P.underlying t, zeroOf P t with
      | some (.struct fs), some z => (match partsOf parts.toList (fun i => match fs[i]? with | some f => (sizeAt P f.type).map fun n => (f.offset, n) | none => none) with
        | some l => if fs.toList.all fun f => (P.info? f.type).isSome then .build z l else .bad
        | none => .bad)
      | some (.array _ elem), some z => (match sizeAt P elem with
        | some n => (match partsOf parts.toList (fun i => some (i * n, n)) with
          | some l => .build z l
          | none => .bad)
        | none => .bad)
      | _, _ => .bad, .plain)
  | .buildSlice t len parts => (match P.underlying t with
      | some (.slice elem) => (match sizeAt P elem, zeroOf P elem with
        | some n, some z => (match partsOf parts.toList (fun i => some (i * n, n)) with
          | some l => if z.length == n && decide (len * n ≤ 2 ^ 24) then .lits len n (times len z) l else .bad
          | none => .bad)
        | _, _ => .bad)
      | _ => .bad, .news)
  | .load t a => (match kindOf P t with | some k => .load k (ofR a) | none => .bad, .reads)
  | .store t a x => (match sizeAt P t with | some n => .store n (ofR a) (ofR x) | none => .bad, .acts)
  | .nilCheck x => (.nilck (ofR x), .plain)
  | .binOp op t x y _ => (match op with
      | .eql => (match P.underlying t with
        | some (.int _) | some .string => .bin .eql (ofR x) (ofR y)
        | some (.complex _) => .eqC (ofR x) (ofR y)
        | _ => match eqKind P t with | some k => .eqt false k (ofR x) (ofR y) | none => .bad)
      | .neq => (match P.underlying t with
        | some (.int _) | some .string => .bin .neq (ofR x) (ofR y)
        | _ => match eqKind P t with | some k => .eqt true k (ofR x) (ofR y) | none => .bad)
      | op => .bin op (ofR x) (ofR y), .plain)
  | .unOp op _ x => (.un op (ofR x), .plain)
  | .convert s d x => (match P.underlying s, P.underlying d with
      | some (.int _), some (.int k) => .conv k (ofR x)
      | some (.int _), some .string => .convI (ofR x)
      | some (.int _), some (.float k) => .convF k (ofR x)
      | some (.slice e), some .string => (match P.underlying e with
        | some (.int .u8) => .convB (ofR x)
        | _ => .bad)
      | _, _ => .bad, .reads)
  | .makeInterface t x => (match P.underlying t with
      | some (.interface _) | none => .bad
      | _ => .ifc t (ofR x), .plain)
  | .makeFunc f first caps => (.mkfn f (first.toList.map ofR) (caps.toList.map ofR), .plain)
  | .extract x i => (.ext (ofR x) i, .plain)
  | .fieldAddr s x f => (match P.underlying s with
      | some (.struct fs) => (match fs[f]? with
        | some fl => (match sizeAt P fl.type with
          | some n => if n == 0 then .bad else .fadr fl.offset (ofR x)
          | none => .bad)
        | none => .bad)
      | _ => .bad, .plain)
  | .field s x f => (match P.underlying s with
      | some (.struct fs) => (match fs[f]? with
        | some fl => (match kindOf P fl.type with
          | some k => .fld k fl.offset (ofR x)
          | none => .bad)
        | none => .bad)
      | _ => .bad, .plain)
  | .indexAddr t x i => (match P.underlying t with
      | some (.slice elem) => (match sizeAt P elem with | some n => .iadr n (ofR x) (ofR i) | none => .bad)
      | some (.array len elem) => (match sizeAt P elem with | some n => .iadrA n len (ofR x) (ofR i) | none => .bad)
      | _ => .bad, .plain)
  | .index t x i => (match P.underlying t with
      | some .string => .idxS (ofR x) (ofR i)
      | some (.array len elem) => (match kindOf P elem, sizeAt P elem with
        | some k, some n => .idxA k n len (ofR x) (ofR i)
        | _, _ => .bad)
      | _ => .bad, .plain)
  | .makeMap _ none => (.mkmap, .news)
  | .range t x => (match P.underlying t with
      | some (.map _ _) => .mrng (ofR x)
      | _ => .bad, .acts)
  | .next it s => (if s = true then .bad else .mnxt (ofR it), .acts)
  | .entry it => (.mcur (ofR it), .reads)
  | .makeSlice t len cap => (match P.underlying t with
      | some (.slice elem) => (match P.info? elem, zeroOf P elem with
        | some i, some z => if z.length = i.size ∧ 0 < i.size ∧ sameTmp len cap = true then .mksl i.size i.bytes z (ofR len) else .bad
        | _, _ => .bad)
      | _ => .bad, .news)
  | .lookup t m k ok => (match P.underlying t with
      | some (.map key elem) => (match zeroD P elem, keyKind P key with
        | some z, some ck => .mlook ck z ok (ofR m) (ofR k)
        | _, _ => .bad)
      | _ => .bad, .reads)
  | .mapUpdate t m k x => (match P.underlying t with
      | some (.map key _) => (match keyKind P key with
        | some ck => .mput ck (ofR m) (ofR k) (ofR x)
        | none => .bad)
      | _ => .bad, .acts)
  | .mapEntry t m k => (match P.underlying t with
      | some (.map key elem) => (match zeroD P elem, keyKind P key with
        | some z, some ck => .ment ck z (ofR m) (ofR k)
        | _, _ => .bad)
      | _ => .bad, .acts)
  | .entryStore _ m i x => (.mset (ofR m) (ofR i) (ofR x), .acts)
  | .slice t x lo hi mx => (match P.underlying t with
      | some (.slice elem) => (match sizeAt P elem with | some n => if mx.isSome && !hi.isSome then .bad else .slice n (ofR x) (lo.map ofR) (hi.map ofR) (mx.map ofR) | none => .bad)
      | some .string => if mx.isSome then .bad else .sliceS (ofR x) (lo.map ofR) (hi.map ofR)
      | _ => .bad, .plain)
  | .call c => compCall P c
  | _ => (.bad, .acts)
def randT : Rand → List Nat
  | .t i => [i]
  | .c _ => []
def oRand : Option Rand → List Nat
  | some x => randT x
  | none => []
def AOp.looks : AOp → List Nat
  | .mv x | .new x | .nilck x | .un _ x | .conv _ x | .convI x | .convB x | .convF _ x | .ifc _ x | .ext x _ | .fadr _ x | .fld _ _ x | .len _ x | .load _ x | .mlen x | .mrng x | .mnxt x | .mcur x | .clr _ _ x | .mksl _ _ _ x => randT x
  | .pick c a b | .mput _ c a b | .mset c a b => randT c ++ (randT a ++ randT b)
  | .zero _ | .bad | .mkmap => []
  | .build _ ps | .lits _ _ _ ps => ps.flatMap fun p => randT p.2.2
  | .idxA _ _ _ a x | .mlook _ _ _ a x | .ment _ _ a x | .store _ a x | .bin _ a x | .eqt _ _ a x | .iadr _ a x | .iadrA _ _ a x | .idxS a x | .app _ _ _ a x | .cplx a x | .eqC a x => randT a ++ randT x
  | .mkfn _ a b => a.flatMap randT ++ b.flatMap randT
  | .slice _ x a b c => randT x ++ (oRand a ++ (oRand b ++ oRand c))
  | .sliceS x a b => randT x ++ (oRand a ++ oRand b)
  | .minmax _ xs => xs.flatMap randT
  | .call _ xs => xs.flatMap randT
  | .cald f xs => randT f ++ xs.flatMap randT
def guardT : Option (Nat × Bool) → List Nat
  | some (t, _) => [t]
  | none => []
def POp.looks (p : POp) : List Nat := p.op.looks ++ guardT p.guard
def masks (ops : List Oper) : List Nat :=
  ops.foldl (fun acc o => acc ++ [o.after.toList.foldl (fun s e => if Region.binds .any e then s ||| (2 ^ e.on ||| (acc[e.on]?).getD 0) else s) 0]) []
def compGuard (ops : Array Oper) : Option (Nat × Bool) → Option (Option (Nat × Bool))
  | none => some none
  | some (j, b) => match (ops[j]?).bind (·.dst) with
    | some d => some (some (d, b))
    | none => none
def compPlain (P : Program) (ops : Array Oper) : List Oper → Option (List POp)
  | [] => some []
  | o :: rest => match compGuard ops o.guard, compPlain P ops rest with
    | some g, some l => some (⟨o.dst, (compOp P o.op).1, g, .acts, [], 0, false⟩ :: l)
    | _, _ => none
def sided (ms : List Nat) (i j : Nat) : Bool := ((ms[i]?).getD 0).testBit j || ((ms[j]?).getD 0).testBit i
def ranksIn (m : Nat) : List Cls → Nat → Nat → List Nat
  | [], _, _ => []
  | c :: rest, i, rank => if c == .news then (if m.testBit i then rank :: ranksIn m rest (i + 1) (rank + 1) else ranksIn m rest (i + 1) (rank + 1)) else ranksIn m rest (i + 1) rank
def actsIn (m : Nat) : List Cls → Nat → Nat
  | [], _ => 0
  | c :: rest, i => (if c == .acts && m.testBit i then 1 else 0) + actsIn m rest (i + 1)
def stillAt (ms : List Nat) (cls : List Cls) (i : Nat) (c : Cls) : Bool :=
  match c with
  | .acts => (List.range cls.length).any fun j => (cls[j]?).getD .acts == .reads && !sided ms i j
  | _ => false
def earlyAt (ms : List Nat) (cls : List Cls) (i : Nat) : Bool :=
  (List.range cls.length).all fun j => (cls[j]?).getD .acts != .reads || sided ms i j || actsIn ((ms[j]?).getD 0) cls 0 == 0
def loOf (ms : List Nat) (cls : List Cls) (i : Nat) (c : Cls) : Nat :=
  match c with
  | .acts => if stillAt ms cls i c && earlyAt ms cls i then 1 else 0
  | _ => actsIn ((ms[i]?).getD 0) cls 0
def compDraw (P : Program) (ops : Array Oper) (ms : List Nat) (cls : List Cls) : List Oper → Nat → Option (List POp)
  | [], _ => some []
  | o :: rest, i => match compGuard ops o.guard, compDraw P ops ms cls rest (i + 1) with
    | some g, some l =>
      let m := (ms[i]?).getD 0
      let c := (compOp P o.op).2
      some (⟨o.dst, (compOp P o.op).1, g, c, ranksIn m cls 0 0, loOf ms cls i c, stillAt ms cls i c⟩ :: l)
    | _, _ => none
def countTo (c : Cls) (cls : List Cls) (i : Nat) : Nat := (cls.take i).countP (· == c)
def drawOk (ops : List Oper) (ms : List Nat) (cls : List Cls) (ps : List POp) : Bool :=
  (List.range ps.length).all fun j =>
    match ps[j]?, ops[j]? with
    | some q, some o =>
      (o.after.toList.all fun e => !Region.binds .any e || decide (e.on < j)) &&
      (q.act.all fun k => (List.range j).any fun i => cls[i]? == some .news && ((ms[j]?).getD 0).testBit i && countTo .news cls i == k) &&
      (q.cls != .reads || (List.range ps.length).all fun c => cls[c]? != some .acts || (((ms[j]?).getD 0).testBit c == decide (countTo .acts cls c < q.lo))) &&
      (q.cls != .acts || (if q.still then q.lo != 1 || (List.range ps.length).all fun i => match ps[i]? with | some p => p.cls != .reads || sided ms i j || p.lo == 0 | none => true else (List.range ps.length).all fun i => cls[i]? != some .reads || sided ms i j)) &&
      ((List.range j).all fun i =>
        match ps[i]? with
        | some p => ((ms[j]?).getD 0).testBit i ||
            (!(p.cls == .acts && q.cls == .acts) &&
             (match p.dst with | some d => !q.looks.contains d && q.dst != some d | none => true) &&
             (match q.dst with | some d => !p.looks.contains d | none => true))
        | none => false)
    | _, _ => false
def comp (P : Program) : Code → AC
  | .skip => .skip
  | .region _ ops draw =>
    if draw then
      let l := ops.toList
      let ms := masks l
      let cls := l.map fun o => (compOp P o.op).2
      match compDraw P ops ms cls l 0 with
      | some ps => if drawOk l ms cls ps then .dreg (countTo .news cls cls.length) ps else .bad
      | none => .bad
    else match compPlain P ops ops.toList with
      | some ps => .reg ps
      | none => .bad
  | .seq a b => .seq (comp P a) (comp P b)
  | .cond c a b => .cond (ofR c) (comp P a) (comp P b)
  | .block id b => .block id (comp P b)
  | .loop b => .loop (comp P b)
  | .exit id => .exit id
  | .ret => .ret
  | .label _ => .skip
  | .scope b => comp P b
  | .rangeFunc f ps a b => .rfun (ofR f) ps.toList (comp P a) (comp P b)
  | _ => .bad
def compRV (P : Program) : ResultVar → Option RV
  | .tmp t => some (.tmp t)
  | .cell a t => (kindOf P t).map fun k => .cell a k
def compRVs (P : Program) : List ResultVar → Option (List RV)
  | [] => some []
  | r :: rest => match compRV P r, compRVs P rest with
    | some x, some l => some (x :: l)
    | _, _ => none
def compFn (P : Program) (fn : Func) : Option FI :=
  match fn.body, compRVs P fn.results.toList with
  | some c, some rs => if fn.name == "runtime.NumGoroutine" then none else some ⟨fn.ntmps, rs, comp P c⟩
  | _, _ => none
end Go.Aug
namespace Go.Aug
def P1 (d : Nat) (op : AOp) : POp := ⟨some d, op, none, .acts, [], 0, false⟩
def P0 (op : AOp) : POp := ⟨none, op, none, .acts, [], 0, false⟩
def G1 (d : Nat) (op : AOp) (t : Nat) (b : Bool) : POp := ⟨some d, op, some (t, b), .acts, [], 0, false⟩
def G0 (op : AOp) (t : Nat) (b : Bool) : POp := ⟨none, op, some (t, b), .acts, [], 0, false⟩
def Q1 (d : Nat) (op : AOp) : POp := ⟨some d, op, none, .plain, [], 0, false⟩
def QL (d : Nat) (op : AOp) (lo : Nat) : POp := ⟨some d, op, none, .plain, [], lo, false⟩
def QR (d : Nat) (op : AOp) (lo : Nat) : POp := ⟨some d, op, none, .reads, [], lo, false⟩
end Go.Aug
