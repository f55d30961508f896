/-
The evaluator again, made for the kernel: frames are trees, no great terms are copied. Conditions: none; definitions alone.
-/
import Derived.Test.YtlnkifnkamojnaaGreatGA
import Derived.Laws.Strings
namespace Go.Aug
inductive Tr where
  | leaf
  | node (d : D) (l r : Tr)
  deriving Inhabited
noncomputable def Tr.get (t : Tr) : Nat → D :=
  Tr.rec (fun _ => uD) (fun d _ _ gl gr n => cond (Nat.beq n 0) d (cond (Nat.beq (Nat.mod n 2) 1) (gl (Nat.div n 2)) (gr (Nat.sub (Nat.div n 2) 1)))) t
noncomputable def Tr.set (t : Tr) : Nat → D → Tr :=
  Tr.rec (fun _ _ => .leaf) (fun d l r sl sr n x => cond (Nat.beq n 0) (.node x l r) (cond (Nat.beq (Nat.mod n 2) 1) (.node d (sl (Nat.div n 2) x) r) (.node d l (sr (Nat.sub (Nat.div n 2) 1) x)))) t
noncomputable def Tr.blank (fuel : Nat) : Nat → Tr :=
  Nat.rec (fun _ => .leaf) (fun _ ih n => cond (Nat.beq n 0) .leaf (.node uD (ih (Nat.div n 2)) (ih (Nat.div (Nat.sub n 1) 2)))) fuel
def quick (k : IntKind) (n : Int) : Bool :=
  match n with
  | .ofNat m => IntKind.casesOn (motive := fun _ => Nat → Bool) k (fun _ => false) (fun _ => false) (fun _ => false) (fun m => Nat.ble m 9223372036854775807) (fun m => Nat.ble m 255) (fun _ => false) (fun _ => false) (fun _ => false) m
  | .negSucc m => IntKind.casesOn (motive := fun _ => Nat → Bool) k (fun _ => false) (fun _ => false) (fun _ => false) (fun m => Nat.ble m 9223372036854775807) (fun _ => false) (fun _ => false) (fun _ => false) (fun _ => false) m
def wrapF (k : IntKind) (n : Int) : Int := cond (quick k n) n (k.wrap n)
def ltF (a b : Int) : Bool :=
  match a with
  | .ofNat m => (match b with
    | .ofNat n => Nat.ble (Nat.succ m) n
    | .negSucc _ => false)
  | .negSucc m => (match b with
    | .ofNat _ => true
    | .negSucc n => Nat.ble (Nat.succ n) m)
def eqF (a b : Int) : Bool :=
  match a with
  | .ofNat m => (match b with
    | .ofNat n => Nat.beq m n
    | .negSucc _ => false)
  | .negSucc m => (match b with
    | .ofNat _ => false
    | .negSucc n => Nat.beq m n)
def kNum (k : IntKind) : Nat := IntKind.casesOn (motive := fun _ => Nat) k 0 1 2 3 4 5 6 7
noncomputable def eqBs (x : List UInt8) : List UInt8 → Bool :=
  List.rec (fun y => List.casesOn (motive := fun _ => Bool) y true (fun _ _ => false)) (fun a _ ih y => List.casesOn (motive := fun _ => Bool) y false (fun b y => cond (Nat.beq a.toNat b.toNat) (ih y) false)) x
noncomputable def ltBs (x : List UInt8) : List UInt8 → Bool :=
  List.rec (fun y => List.casesOn (motive := fun _ => Bool) y false (fun _ _ => true)) (fun a _ ih y => List.casesOn (motive := fun _ => Bool) y false (fun b y => cond (Nat.beq a.toNat b.toNat) (ih y) (Nat.ble (Nat.succ a.toNat) b.toNat))) x
def addI (k : IntKind) (a b : Int) : Option Value := some (.int k (wrapF k (a + b)))
def subI (k : IntKind) (a b : Int) : Option Value := some (.int k (wrapF k (a - b)))
def mulI (k : IntKind) (a b : Int) : Option Value := some (.int k (wrapF k (a * b)))
def eqlI (_ : IntKind) (a b : Int) : Option Value := some (.bool (eqF a b))
def neqI (_ : IntKind) (a b : Int) : Option Value := some (.bool (not (eqF a b)))
def lssI (_ : IntKind) (a b : Int) : Option Value := some (.bool (ltF a b))
def geqI (_ : IntKind) (a b : Int) : Option Value := some (.bool (not (ltF a b)))
def noS (_ _ : ByteArray) : Option Value := none
def addS (x y : ByteArray) : Option Value := cond (Nat.ble (Nat.add x.size y.size) 9223372036854775807) (some (.string ⟨⟨x.data.toList ++ y.data.toList⟩⟩)) none
noncomputable def eqlS (x y : ByteArray) : Option Value := some (.bool (eqBs x.data.toList y.data.toList))
noncomputable def neqS (x y : ByteArray) : Option Value := some (.bool (not (eqBs x.data.toList y.data.toList)))
noncomputable def lssS (x y : ByteArray) : Option Value := some (.bool (ltBs x.data.toList y.data.toList))
noncomputable def geqS (x y : ByteArray) : Option Value := some (.bool (not (ltBs x.data.toList y.data.toList)))
def bin2 (fi : IntKind → Int → Int → Option Value) (fs : ByteArray → ByteArray → Option Value) (x y : D) : Option D :=
  match x with
  | .v (.int k a) => (match y with
    | .v (.int k' b) => cond (Nat.beq (kNum k) (kNum k')) ((fi k a b).map .v) none
    | _ => none)
  | .v (.string a) => (match y with
    | .v (.string b) => (fs a b).map .v
    | _ => none)
  | _ => none
noncomputable def binF (op : BinOp) : D → D → Option D :=
  BinOp.casesOn (motive := fun _ => D → D → Option D) op (bin2 addI addS) (bin2 subI noS) (bin2 mulI noS) (evBin .quo) (evBin .rem) (evBin .and) (evBin .or) (evBin .xor) (evBin .shl) (evBin .shr) (evBin .andNot)
    (bin2 eqlI eqlS) (bin2 neqI neqS) (bin2 lssI lssS) (evBin .leq) (evBin .gtr) (bin2 geqI geqS)
def idxSF (x i : D) : Option D :=
  match x with
  | .v (.string s) => (match i with
    | .v (.int _ n) => (match n with
      | .ofNat m => (match s.data.toList[m]? with
        | some b => some (.v (.int .u8 (.ofNat b.toNat)))
        | none => none)
      | .negSucc _ => none)
    | _ => none)
  | _ => none
def subS (s : ByteArray) (k h : Nat) : ByteArray := ⟨⟨(s.data.toList.drop k).take (Nat.sub h k)⟩⟩
noncomputable def rF (x : Rand) : Tr → D := Rand.rec (fun i t => t.get i) (fun d _ => d) x
abbrev OpF := CallF → Tr → Heap → Option (D × Heap)
noncomputable def optH (x : Option D) (H : Heap) : Option (D × Heap) := Option.rec none (fun d => some (d, H)) x
noncomputable def optT (x : Option Heap) : Option (D × Heap) := Option.rec none (fun H => some (.tup [], H)) x
noncomputable def optU (x : Option Heap) : Option (D × Heap) := Option.rec none (fun H => some (uD, H)) x
noncomputable def lF (l : List Rand) : Tr → List D := List.rec (fun _ => []) (fun x _ ih t => rF x t :: ih t) l
noncomputable def fillF (parts : List (Nat × Nat × Rand)) : Tr → List D → Option (List D) :=
  List.rec (fun _ cells => some cells) (fun p _ ih t cells =>
    Option.rec none (fun l => cond (and (Nat.beq l.length p.2.1) (Nat.ble (Nat.add p.1 p.2.1) cells.length)) (ih t (setAll cells p.1 l)) none) (cellsOf (rF p.2.2 t))) parts
noncomputable def orF (x : Option Rand) : Tr → Option D := Option.rec (fun _ => none) (fun x t => some (rF x t)) x
def boundD (x : Option D) (other most : Nat) : Option Nat :=
  match x with
  | none => some other
  | some d => match asI d with
    | some n => if 0 ≤ n ∧ n ≤ (most : Int) then some n.toNat else none
    | none => none
def sliceD (size : Nat) (x : D) (lo hi mx : Option D) (three : Bool) : Option D :=
  match x with
  | .v (.slice none 0 0) =>
    match boundD mx 0 0, boundD hi 0 0, boundD lo 0 0 with
    | some _, some _, some _ => some (.v (.slice none 0 0))
    | _, _, _ => none
  | .sl n l cap =>
    match boundD mx n n with
    | none => none
    | some m => match boundD hi n m with
      | none => none
      | some h => match boundD lo 0 h with
        | none => none
        | some k => some (.sl (h - k) ((l.drop (k * size)).take ((h - k) * size)) (if three then some (m - k) else cap.map (· - k)))
  | .rs r off n cap sz =>
    match boundD mx n n with
    | none => none
    | some m => match boundD hi n m with
      | none => none
      | some h => match boundD lo 0 h with
        | none => none
        | some k => if sz == size && decide (k < m ∨ k = 0) then some (.rs r (off + k * size) (h - k) (if three then some (m - k) else cap.map (· - k)) sz) else
          if h == k then some (.sl 0 [] (if three then some (m - k) else cap.map (· - k))) else none
  | _ => none
def sliceSD (x : D) (lo hi : Option D) : Option D :=
  match x with
  | .v (.string s) =>
    match boundD hi s.size s.size with
    | none => none
    | some h => match boundD lo 0 h with
      | none => none
      | some k => some (.v (.string (subS s k h)))
  | _ => none
noncomputable def oMv (x : Rand) : OpF := fun _ t H => some (rF x t, H)
def pickD (c a b : D) : Option D :=
  match c with
  | .v (.bool t) => some (if t then a else b)
  | _ => none
noncomputable def oPick (c a b : Rand) : OpF := fun _ t H => optH (pickD (rF c t) (rF a t) (rF b t)) H
noncomputable def oNew (x : Rand) : OpF := fun _ t H => Option.rec none (fun l => some (.rf H.next 0, H.add (.cells l))) (cellsOf (rF x t))
def oZero (z : List D) : OpF := fun _ _ H => some (.rf H.next 0, H.add (.cells z))
noncomputable def oBuild (z : List D) (parts : List (Nat × Nat × Rand)) : OpF := fun _ t H => Option.rec none (fun l => some (.agg l, H)) (fillF parts t z)
noncomputable def oLits (n size : Nat) (z : List D) (parts : List (Nat × Nat × Rand)) : OpF := fun _ t H => Option.rec none (fun l => some (.rs H.next 0 n (some n) size, H.add (.cells l))) (fillF parts t z)
noncomputable def oLoad (k : Option Nat) (a : Rand) : OpF := fun _ t H => optH (evLoad H k (rF a t)) H
noncomputable def oStore (k : Nat) (a x : Rand) : OpF := fun _ t H => optU (evStore H k (rF a t) (rF x t))
def nilckD (x : D) : Option D :=
  match x with
  | .rf r o => some (.rf r o)
  | .cp l => some (.cp l)
  | _ => none
noncomputable def oNilck (x : Rand) : OpF := fun _ t H => optH (nilckD (rF x t)) H
noncomputable def oBin (op : BinOp) (x y : Rand) : OpF := fun _ t H => optH (binF op (rF x t) (rF y t)) H
noncomputable def oEqt (neg : Bool) (k : EK) (x y : Rand) : OpF := fun _ t H => Option.rec none (fun b => some (.v (.bool (b != neg)), H)) (eqAny k (rF x t) (rF y t))
noncomputable def oUn (op : UnOp) (x : Rand) : OpF := fun _ t H => optH (evUn op (rF x t)) H
noncomputable def oConv (k : IntKind) (x : Rand) : OpF := fun _ t H => optH (evConv k (rF x t)) H
noncomputable def oConvI (x : Rand) : OpF := fun _ t H => optH (evConvI (rF x t)) H
noncomputable def oConvB (x : Rand) : OpF := fun _ t H => optH (evConvB H (rF x t)) H
noncomputable def oConvF (k : FloatKind) (x : Rand) : OpF := fun _ t H => optH (evConvF k (rF x t)) H
noncomputable def oEqC (x y : Rand) : OpF := fun _ t H => optH (evEqC (rF x t) (rF y t)) H
noncomputable def oMrng (x : Rand) : OpF := fun _ t H => evMrng H (rF x t)
noncomputable def oMnxt (x : Rand) : OpF := fun _ t H => evMnxt H (rF x t)
noncomputable def oMcur (x : Rand) : OpF := fun _ t H => optH (evMcur H (rF x t)) H
noncomputable def oCplx (x y : Rand) : OpF := fun _ t H => optH (evCplx (rF x t) (rF y t)) H
noncomputable def oIfc (ty : TypeId) (x : Rand) : OpF := fun _ t H => some (.ifc ty (rF x t), H)
noncomputable def oMkfn (f : Fn) (first caps : List Rand) : OpF := fun _ t H => some (.fn f (lF first t) (lF caps t), H)
noncomputable def oExt (x : Rand) (i : Nat) : OpF := fun _ t H => optH (evExt (rF x t) i) H
noncomputable def oFadr (off : Nat) (x : Rand) : OpF := fun _ t H => optH (evFadr off (rF x t)) H
noncomputable def oFld (k : Option Nat) (off : Nat) (x : Rand) : OpF := fun _ t H => optH (evFld k off (rF x t)) H
noncomputable def oIadr (size : Nat) (x i : Rand) : OpF := fun _ t H => optH (evIadr size (rF x t) (rF i t)) H
noncomputable def oIadrA (size len : Nat) (x i : Rand) : OpF := fun _ t H => optH (evIadrA size len (rF x t) (rF i t)) H
noncomputable def oIdxS (x i : Rand) : OpF := fun _ t H => optH (idxSF (rF x t) (rF i t)) H
noncomputable def oIdxA (k : Option Nat) (size len : Nat) (x i : Rand) : OpF := fun _ t H => optH (evIdxA k size len (rF x t) (rF i t)) H
noncomputable def oSlice (size : Nat) (x : Rand) (lo hi mx : Option Rand) : OpF := fun _ t H => optH (sliceD size (rF x t) (orF lo t) (orF hi t) (orF mx t) mx.isSome) H
noncomputable def oSliceS (x : Rand) (lo hi : Option Rand) : OpF := fun _ t H => optH (sliceSD (rF x t) (orF lo t) (orF hi t)) H
noncomputable def oLen (text : Bool) (x : Rand) : OpF := fun _ t H => optH (evLen text (rF x t)) H
noncomputable def oApp (text : Bool) (size bytes : Nat) (x y : Rand) : OpF := fun _ t H => evApp H text size bytes (rF x t) (rF y t)
noncomputable def oMinmax (most : Bool) (xs : List Rand) : OpF := fun _ t H => optH (evMinmax most (lF xs t)) H
noncomputable def oCall (f : FuncId) (args : List Rand) : OpF := fun call t H => call (.fn f) (lF args t) H
def caldD (call : CallF) (f : D) (args : List D) (H : Heap) : Option (D × Heap) :=
  match f with
  | .fn (.func g) first caps => call (.fn g) (first ++ args ++ caps) H
  | .yl r => call (.yl r) args H
  | _ => none
noncomputable def oCald (f : Rand) (args : List Rand) : OpF := fun call t H => caldD call (rF f t) (lF args t) H
def oMkmap : OpF := fun _ _ H => some (.mp H.next, H.add (.map []))
noncomputable def oMlook (ck : CK) (z : D) (ok : Bool) (m k : Rand) : OpF := fun _ t H => optH (evMlook H ck z ok (rF m t) (rF k t)) H
noncomputable def oMput (ck : CK) (m k x : Rand) : OpF := fun _ t H => optU (evMput H ck (rF m t) (rF k t) (rF x t))
noncomputable def oMent (ck : CK) (z : D) (m k : Rand) : OpF := fun _ t H => evMent H ck z (rF m t) (rF k t)
noncomputable def oMset (m i x : Rand) : OpF := fun _ t H => optU (evMset H (rF m t) (rF i t) (rF x t))
noncomputable def oMksl (size bytes : Nat) (z : List D) (x : Rand) : OpF := fun _ t H => evMksl H size bytes z (rF x t)
noncomputable def oClr (size : Nat) (z : List D) (x : Rand) : OpF := fun _ t H => optT (evClr H size z (rF x t))
noncomputable def oMlen (m : Rand) : OpF := fun _ t H => optH (evMlen H (rF m t)) H
def oBad : OpF := fun _ _ _ => none
noncomputable def opF (op : AOp) : OpF :=
  AOp.casesOn (motive := fun _ => OpF) op oMv oPick oNew oZero oBuild oLits oLoad oStore oNilck oBin oEqt oUn oConv oConvI oConvB oConvF oCplx oEqC oIfc oMkfn oExt oFadr oFld oIadr oIadrA oIdxS oIdxA oSlice oSliceS oLen oApp oMinmax oCall oCald oMkmap oMlook oMput oMent oMset oClr oMksl oMlen oMrng oMnxt oMcur oBad
noncomputable def wantsF (g : Option (Nat × Bool)) : Tr → Bool :=
  Option.rec (fun _ => true) (fun p t => (t.get p.1).says p.2) g
noncomputable def putF (dst : Option Nat) : Tr → D → Tr :=
  Option.rec (fun t _ => t) (fun i t d => t.set i d) dst
abbrev KR := Option (Tr × Heap)
noncomputable def thenF (dst : Option Nat) (t : Tr) (k : Tr → Heap → KR) (r : Option (D × Heap)) : KR :=
  Option.rec none (fun p => Prod.rec (fun d H => k (putF dst t d) H) p) r
noncomputable def stepF (p : POp) (k : CallF → Tr → Heap → KR) : CallF → Tr → Heap → KR :=
  POp.rec (fun dst op guard _ _ _ _ call t H => cond (wantsF guard t) (thenF dst t (k call) (opF op call t H)) (k call (putF dst t uD) H)) p
noncomputable def opsF (l : List POp) : CallF → Tr → Heap → KR :=
  List.rec (fun _ t H => some (t, H)) (fun p _ ih => stepF p ih) l
abbrev Pend := List (Nat × O)
abbrev Chain := List (Heap × List Nat)
abbrev DK := Tr → Nat → Pend → Chain → KR
def chainAt (Hs : Chain) (n : Nat) : Heap × List Nat := (Hs[Hs.length - 1 - n]?).getD default
def chainTop (Hs : Chain) : Heap × List Nat := Hs.headD default
noncomputable def dPut (dst : Option Nat) (k : DK) (t : Tr) (rank : Nat) (pend : Pend) (Hs : Chain) (r : Option (D × Heap)) : KR :=
  Option.rec none (fun p => k (putF dst t p.1) rank pend Hs) r
def newOf (r : Option (D × Heap)) : Option (D × O) :=
  match r with
  | some (d, ⟨_, _, [(_, o)]⟩) => some (d, o)
  | _ => none
noncomputable def dNew (dst : Option Nat) (base : Nat) (k : DK) (t : Tr) (rank : Nat) (pend : Pend) (Hs : Chain) (r : Option (D × O)) : KR :=
  Option.rec none (fun p => k (putF dst t p.1) (Nat.succ rank) ((Nat.add base rank, p.2) :: pend) Hs) r
noncomputable def dAct (dst : Option Nat) (act : List Nat) (k : DK) (t : Tr) (rank : Nat) (pend : Pend) (Hs : Chain) (r : Option (D × Heap)) : KR :=
  Option.rec none (fun p => k (putF dst t p.1) rank pend ((p.2, act ++ (chainTop Hs).2) :: Hs)) r
def stillOf (lim : Nat) (H : Heap) (r : Option (D × Heap)) : Option (D × Heap) :=
  match r with
  | some (d, H') => if lim ≤ H'.low then some (d, ⟨H'.next, H.low, H'.objs⟩) else none
  | none => none
noncomputable def dActOn (dst : Option Nat) (op : AOp) (act : List Nat) (lo : Nat) (still : Bool) (call : CallF) (k : DK) (t : Tr) (rank : Nat) (pend : Pend) (Hs : Chain) (H : Heap) : KR :=
  dAct dst act k t rank pend Hs (cond still (stillOf (stillLim lo (chainAt Hs 0).1.next H.next) H (opF op call t ⟨H.next, H.next, H.objs⟩)) (opF op call t H))
noncomputable def dGo (dst : Option Nat) (op : AOp) (act : List Nat) (lo : Nat) (still : Bool) (cls : Cls) : CallF → Nat → DK → Tr → Nat → Pend → Chain → KR :=
  Cls.casesOn (motive := fun _ => CallF → Nat → DK → Tr → Nat → Pend → Chain → KR) cls
    (fun call _ k t rank pend Hs => dPut dst k t rank pend Hs (opF op call t (chainTop Hs).1))
    (fun call base k t rank pend Hs => dPut dst k t rank pend Hs (opF op call t (wake base act pend (chainAt Hs lo).2 (chainAt Hs lo).1)))
    (fun call base k t rank pend Hs => dNew dst base k t rank pend Hs (newOf (opF op call t ⟨Nat.add base rank, 0, []⟩)))
    (fun call base k t rank pend Hs => dActOn dst op act lo still call k t rank pend Hs (wake base act pend (chainTop Hs).2 (chainTop Hs).1))
noncomputable def dNot (dst : Option Nat) (cls : Cls) : DK → Tr → Nat → Pend → Chain → KR :=
  Cls.casesOn (motive := fun _ => DK → Tr → Nat → Pend → Chain → KR) cls
    (fun k t rank pend Hs => k (putF dst t uD) rank pend Hs)
    (fun k t rank pend Hs => k (putF dst t uD) rank pend Hs)
    (fun k t rank pend Hs => k (putF dst t uD) (Nat.succ rank) pend Hs)
    (fun k t rank pend Hs => k (putF dst t uD) rank pend (chainTop Hs :: Hs))
noncomputable def dStep (p : POp) (k : CallF → Nat → DK) : CallF → Nat → DK :=
  POp.rec (fun dst op guard cls act lo still call base t rank pend Hs => cond (wantsF guard t) (dGo dst op act lo still cls call base (k call base) t rank pend Hs) (dNot dst cls (k call base) t rank pend Hs)) p
noncomputable def dsF (l : List POp) (fin : Nat → DK) : CallF → Nat → DK :=
  List.rec (fun _ base => fin base) (fun p _ ih => dStep p ih) l
def dEnd (base : Nat) : DK := fun t _ pend Hs =>
  some (t, ⟨(chainTop Hs).1.next, (chainTop Hs).1.low, pend.filter (fun p => !(chainTop Hs).2.contains (p.1 - base)) ++ (chainTop Hs).1.objs⟩)
noncomputable def dregF (news : Nat) (l : List POp) : CallF → Tr → Heap → KR := fun call t H => dsF l dEnd call H.next t 0 [] [(⟨H.next + news, H.low, H.objs⟩, [])]
abbrev StF := Option (Ex × Tr × Heap)
abbrev CF := CallF → Nat → Option Nat → Tr → Heap → StF
noncomputable def cSkip : CF := fun _ _ _ t H => some (.normal, t, H)
noncomputable def cRet : CF := fun _ _ _ t H => some (.ret, t, H)
noncomputable def cExit (id : Nat) : CF := fun _ _ _ t H => some (.exit id, t, H)
noncomputable def onF (k : Tr → Heap → StF) (r : StF) : StF :=
  Option.rec none (fun p => Prod.rec (fun x q => Ex.casesOn (motive := fun _ => StF) x (Prod.rec (fun t H => k t H) q) (fun id => some (.exit id, q)) (some (.ret, q))) p) r
noncomputable def cSeq (a b : CF) : CF := fun call n rd t H => onF (b call n rd) (a call n rd t H)
noncomputable def condD (c : D) (a b : StF) : StF :=
  match c with
  | .v (.bool t) => cond t a b
  | _ => none
noncomputable def cCond (c : Rand) (a b : CF) : CF := fun call n rd t H => condD (rF c t) (a call n rd t H) (b call n rd t H)
noncomputable def blockF (id : Nat) (r : StF) : StF :=
  Option.rec none (fun p => Prod.rec (fun x q => Ex.casesOn (motive := fun _ => StF) x (some (.normal, q)) (fun id' => cond (Nat.beq id' id) (some (.normal, q)) (some (.exit id', q))) (some (.ret, q))) p) r
noncomputable def cBlock (id : Nat) (a : CF) : CF := fun call n rd t H => blockF id (a call n rd t H)
noncomputable def loopF (b : Tr → Heap → StF) (n : Nat) : Tr → Heap → StF :=
  Nat.rec (fun _ _ => none) (fun _ ih t H => onF ih (b t H)) n
noncomputable def cLoop (a : CF) : CF := fun call n rd t H => loopF (a call n rd) n t H
noncomputable def regOf (r : KR) : StF := Option.rec none (fun p => some (.normal, p)) r
noncomputable def cReg (l : List POp) : CF := fun call _ _ t H => regOf (opsF l call t H)
noncomputable def cDreg (news : Nat) (l : List POp) : CF := fun call _ _ t H => regOf (dregF news l call t H)
noncomputable def Tr.size (t : Tr) : Nat := Tr.rec 0 (fun _ _ _ a b => Nat.succ (Nat.add a b)) t
noncomputable def Tr.toL (t : Tr) : List D := (List.range t.size).map t.get
def rfunEnd (r : Nat) (t : Tr) (x : Option (D × Heap)) : StF :=
  match x with
  | some (_, H') => match H'.get r with
    | some (.loop false _ jump _ _ _ _) => some (jump, t, H'.del r)
    | _ => none
  | none => none
noncomputable def rfunGo (fd : D) (ps : List Nat) (a b : AC) (call : CallF) (t : Tr) (H : Heap) : StF :=
  match fd with
  | .fn (.func g) first caps => rfunEnd H.next t (call (.fn g) (first ++ [.yl H.next] ++ caps) (H.add (.loop false false .normal t.toL ps a b)))
  | _ => none
noncomputable def cRfun (f : Rand) (ps : List Nat) (a b : AC) : CF := fun call _ rd t H => cond (inRound rd H) (rfunGo (rF f t) ps a b call t H) none
noncomputable def cBad : CF := fun _ _ _ _ _ => none
noncomputable def cF (c : AC) : CF :=
  AC.rec (motive := fun _ => CF) cSkip cRet cExit (fun _ _ a b => cSeq a b) (fun c _ _ a b => cCond c a b) (fun id _ a => cBlock id a) (fun _ a => cLoop a) cReg cDreg (fun f ps a b _ _ => cRfun f ps a b) cBad c
noncomputable def setAllF (args : List D) : Nat → Tr → Tr :=
  List.rec (fun _ t => t) (fun d _ ih i t => ih (Nat.succ i) (t.set i d)) args
noncomputable def Tr.ofArgs (n : Nat) (args : List D) : Tr := setAllF args 0 (Tr.blank (Nat.add args.length (Nat.sub n args.length)) (Nat.add args.length (Nat.sub n args.length)))
noncomputable def rvF (r : RV) : Tr → Heap → Option D :=
  RV.rec (fun t tr _ => some (tr.get t)) (fun t k tr H => evLoad H k (tr.get t)) r
noncomputable def rvsF (l : List RV) : Tr → Heap → Option (List D) :=
  List.rec (fun _ _ => some []) (fun r _ ih t H => Option.rec none (fun d => Option.rec none (fun l => some (d :: l)) (ih t H)) (rvF r t H)) l
noncomputable def bodyEnd (fz : Bool) (rs : List RV) (H : Heap) (r : StF) : Option (D × Heap) :=
  Option.rec none (fun p => Prod.rec (fun x q => Prod.rec (fun t H' => Ex.casesOn (motive := fun _ => Option (D × Heap)) x
    (Option.rec none (fun ds => some (leaveF fz H (resOf ds) H')) (rvsF rs t H')) (fun _ => none) (Option.rec none (fun ds => some (leaveF fz H (resOf ds) H')) (rvsF rs t H'))) q) p) r
noncomputable def bodyF (call : CallF) (n : Nat) (fz : Bool) (fi : FI) (args : List D) (H : Heap) : Option (D × Heap) :=
  FI.rec (fun ntmps rs code => bodyEnd fz rs H (cF code call n none (Tr.ofArgs ntmps args) ⟨H.next, H.next, H.objs⟩)) fi
noncomputable def roundF (call : CallF) (n : Nat) (r : Nat) (args : List D) (H : Heap) : Option (D × Heap) :=
  match H.get r with
  | some (.loop false false _jump e params assign body) =>
    if params.length == args.length then
      match cF assign call n (some r) ((params.zip args).foldl (fun t p => t.set p.1 p.2) (Tr.ofArgs 0 e)) H with
      | some (.normal, t1, H1) => match H1.get r with
        | some (.loop false false j1 e1' p1 a1 b1) => match cF body call n (some r) t1 (H1.set r (.loop true false j1 e1' p1 a1 b1)) with
          | some (x, _, H2) => (match H2.get r with
            | some (.loop _ _ _ e2 p2 a2 b2) => match x with
              | .normal => some (.v (.bool true), H2.set r (.loop false false .normal e2 p2 a2 b2))
              | x => some (.v (.bool false), H2.set r (.loop false true x e2 p2 a2 b2))
            | _ => none)
          | none => none
        | _ => none
      | _ => none
    else none
  | _ => none
noncomputable def fnF (T : Tab) (call : CallF) (n : Nat) (f : FuncId) (args : List D) (H : Heap) : Option (D × Heap) :=
  Option.rec (Option.rec none (fun fi => bodyF call n (T.fz f) fi args H) (T.fn f)) (fun g => g args H) (T.orc f)
noncomputable def evF (T : Tab) (n : Nat) : CallF :=
  Nat.rec (fun _ _ _ => none) (fun n ih c args H => Callee.casesOn (motive := fun _ => Option (D × Heap)) c (fun f => fnF T ih n f args H) (fun r => roundF ih n r args H)) n
end Go.Aug
namespace Go.Aug
inductive Braun : Tr → Nat → Prop
  | leaf : Braun .leaf 0
  | node {d : D} {l r : Tr} {n : Nat} (hl : Braun l ((n + 1) / 2)) (hr : Braun r (n / 2)) : Braun (.node d l r) (n + 1)
theorem get_node (d : D) (l r : Tr) (i : Nat) : (Tr.node d l r).get i = cond (Nat.beq i 0) d (cond (Nat.beq (i % 2) 1) (l.get (i / 2)) (r.get (i / 2 - 1))) := rfl
theorem set_leaf (i : Nat) (x : D) : Tr.leaf.set i x = .leaf := rfl
theorem set_node (d : D) (l r : Tr) (i : Nat) (x : D) : (Tr.node d l r).set i x = cond (Nat.beq i 0) (.node x l r) (cond (Nat.beq (i % 2) 1) (.node d (l.set (i / 2) x) r) (.node d l (r.set (i / 2 - 1) x))) := rfl
theorem beq_eq (a b : Nat) : Nat.beq a b = decide (a = b) := by
  cases h : Nat.beq a b with
  | true => simp [Nat.eq_of_beq_eq_true h]
  | false => simp [Nat.ne_of_beq_eq_false h]
theorem ble_eq (a b : Nat) : Nat.ble a b = decide (a ≤ b) := by
  cases h : Nat.ble a b with
  | true => simp [Nat.le_of_ble_eq_true h]
  | false =>
    have : ¬ a ≤ b := fun hle => by rw [Nat.ble_eq_true_of_le hle] at h; cases h
    simp [this]
theorem Braun.set {t : Tr} {n : Nat} (h : Braun t n) : ∀ (i : Nat) (x : D), Braun (t.set i x) n ∧ ∀ j, (t.set i x).get j = if i = j ∧ i < n then x else t.get j := by
  induction h with
  | leaf => intro i x; exact ⟨.leaf, fun j => by simp [set_leaf]⟩
  | @node d l r n hl hr ihl ihr =>
    intro i x
    rw [set_node, beq_eq, beq_eq]
    by_cases h0 : i = 0
    · subst h0
      simp only [decide_true, cond_true]
      refine ⟨.node hl hr, fun j => ?_⟩
      rw [get_node, get_node, beq_eq]
      by_cases hj : j = 0
      · subst hj; simp
      · have : ¬ 0 = j := fun h => hj h.symm
        simp [hj, this]
    · simp only [h0, decide_false, cond_false]
      by_cases h1 : i % 2 = 1
      · simp only [h1, decide_true, cond_true]
        obtain ⟨b1, b2⟩ := ihl (i / 2) x
        refine ⟨.node b1 hr, fun j => ?_⟩
        rw [get_node, get_node, beq_eq, beq_eq]
        by_cases hj : j = 0
        · have : ¬ i = j := by omega
          simp [hj, h0]
        · simp only [hj, decide_false, cond_false]
          by_cases hj1 : j % 2 = 1
          · simp only [hj1, decide_true, cond_true, b2]
            have : (i / 2 = j / 2 ∧ i / 2 < (n + 1) / 2) ↔ (i = j ∧ i < n + 1) := by omega
            simp only [this]
          · have : ¬ (i = j ∧ i < n + 1) := by intro h; omega
            simp only [hj1, decide_false, cond_false, this, if_false]
      · simp only [h1, decide_false, cond_false]
        obtain ⟨b1, b2⟩ := ihr (i / 2 - 1) x
        refine ⟨.node hl b1, fun j => ?_⟩
        rw [get_node, get_node, beq_eq, beq_eq]
        by_cases hj : j = 0
        · have : ¬ i = j := by omega
          simp [hj, h0]
        · simp only [hj, decide_false, cond_false]
          by_cases hj1 : j % 2 = 1
          · have : ¬ (i = j ∧ i < n + 1) := by intro h; omega
            simp only [hj1, decide_true, cond_true, this, if_false]
          · simp only [hj1, decide_false, cond_false, b2]
            have : (i / 2 - 1 = j / 2 - 1 ∧ i / 2 - 1 < n / 2) ↔ (i = j ∧ i < n + 1) := by omega
            simp only [this]
theorem blank_succ (f n : Nat) : Tr.blank (f + 1) n = cond (Nat.beq n 0) .leaf (.node uD (Tr.blank f (n / 2)) (Tr.blank f ((n - 1) / 2))) := rfl
theorem blank_ok : ∀ (f n : Nat), n ≤ f → Braun (Tr.blank f n) n ∧ ∀ i, (Tr.blank f n).get i = uD
  | 0, n, h => by
    obtain rfl : n = 0 := by omega
    exact ⟨.leaf, fun i => rfl⟩
  | f + 1, n, h => by
    rw [blank_succ, beq_eq]
    cases n with
    | zero => exact ⟨.leaf, fun i => rfl⟩
    | succ n =>
      have h0 : ¬ n + 1 = 0 := by omega
      simp only [h0, decide_false, cond_false, Nat.add_sub_cancel]
      obtain ⟨l1, l2⟩ := blank_ok f ((n + 1) / 2) (by omega)
      obtain ⟨r1, r2⟩ := blank_ok f (n / 2) (by omega)
      refine ⟨.node l1 r1, fun i => ?_⟩
      rw [get_node, l2, r2]
      cases Nat.beq i 0 <;> cases Nat.beq (i % 2) 1 <;> rfl
theorem Braun.size {t : Tr} {n : Nat} (h : Braun t n) : t.size = n := by
  induction h with
  | leaf => rfl
  | @node d l r n hl hr ihl ihr =>
    show Nat.succ (l.size + r.size) = n + 1
    rw [ihl, ihr]
    omega
structure Is (t : Tr) (e : Env) : Prop where
  br : Braun t e.length
  get : ∀ i, t.get i = Env.get e i
theorem env_get_set (e : Env) (i j : Nat) (d : D) : Env.get (e.set i d) j = if i = j ∧ i < e.length then d else Env.get e j := by
  unfold Env.get
  by_cases hij : i = j
  · subst hij
    by_cases hi : i < e.length
    · simp [hi]
    · simp [hi]
  · simp [List.getElem?_set_ne hij, hij]
theorem Is.set {t : Tr} {e : Env} (h : Is t e) (i : Nat) (d : D) : Is (t.set i d) (e.set i d) := by
  obtain ⟨h1, h2⟩ := h.br.set i d
  exact ⟨by simpa using h1, fun j => by rw [h2, env_get_set, h.get]⟩
theorem Is.put {t : Tr} {e : Env} (h : Is t e) (dst : Option Nat) (d : D) : Is (putF dst t d) (putE e dst d) := by
  cases dst with
  | none => exact h
  | some i => exact h.set i d
theorem Is.toL {t : Tr} {e : Env} (h : Is t e) : t.toL = e := by
  unfold Tr.toL
  rw [h.br.size]
  refine List.ext_getElem (by simp) fun i h1 h2 => ?_
  simp [h.get, Env.get, h2]
theorem setAllF_cons (d : D) (l : List D) (i : Nat) (t : Tr) : setAllF (d :: l) i t = setAllF l (i + 1) (t.set i d) := rfl
theorem setAllF_ok : ∀ (args : List D) (i : Nat) (t : Tr) (e : Env), Is t e → i + args.length ≤ e.length → Is (setAllF args i t) (e.take i ++ args ++ e.drop (i + args.length))
  | [], i, t, e, h, hl => by simpa [setAllF] using h
  | d :: args, i, t, e, h, hl => by
    rw [setAllF_cons]
    simp only [List.length_cons] at hl
    have := setAllF_ok args (i + 1) (t.set i d) (e.set i d) (h.set i d) (by simp; omega)
    have he : (e.set i d).take (i + 1) ++ args ++ (e.set i d).drop (i + 1 + args.length) = e.take i ++ (d :: args) ++ e.drop (i + (d :: args).length) := by
      have hi : i < e.length := by omega
      rw [List.take_set, List.drop_set_of_lt (by omega)]
      have h1 : (e.take (i + 1)).set i d = e.take i ++ [d] := by
        have hsplit : e.take (i + 1) = e.take i ++ [e[i]] := by rw [List.take_succ_eq_append_getElem hi]
        have hlen : (e.take i).length = i := by simp [Nat.le_of_lt hi]
        rw [hsplit]
        rw [List.set_append, if_neg (by omega), hlen]
        simp
      rw [h1]
      simp only [List.append_assoc, List.length_cons, List.cons_append, List.nil_append]
      have : i + 1 + args.length = i + (args.length + 1) := by omega
      rw [this]
    rw [he] at this
    exact this
theorem ofArgs_ok (n : Nat) (args : List D) : Is (Tr.ofArgs n args) (args ++ List.replicate (n - args.length) uD) := by
  unfold Tr.ofArgs
  have hb := blank_ok (args.length + (n - args.length)) (args.length + (n - args.length)) (Nat.le_refl _)
  have hI : Is (Tr.blank (args.length + (n - args.length)) (args.length + (n - args.length))) (List.replicate (args.length + (n - args.length)) uD) := by
    refine ⟨by simpa using hb.1, fun i => ?_⟩
    rw [hb.2]
    unfold Env.get
    by_cases hi : i < args.length + (n - args.length)
    · simp [hi]
    · simp [hi]
  have := setAllF_ok args 0 _ _ hI (by simp)
  simp only [List.take_zero, List.nil_append, Nat.zero_add, List.drop_replicate, Nat.add_sub_cancel_left] at this
  exact this
theorem wrap_i64 (n : Int) (h1 : -9223372036854775808 ≤ n) (h2 : n ≤ 9223372036854775807) : IntKind.i64.wrap n = n := by
  have hw : IntKind.i64.wrap n = if n % 18446744073709551616 ≥ 9223372036854775808 then n % 18446744073709551616 - 18446744073709551616 else n % 18446744073709551616 := by
    simp [IntKind.wrap, IntKind.bits, IntKind.signed]
  rw [hw]
  split <;> omega
theorem wrap_u8 (n : Int) (h1 : 0 ≤ n) (h2 : n ≤ 255) : IntKind.u8.wrap n = n := by
  have hw : IntKind.u8.wrap n = n % 256 := by simp [IntKind.wrap, IntKind.bits, IntKind.signed]
  rw [hw]
  omega
theorem wrapF_eq (k : IntKind) (n : Int) : wrapF k n = k.wrap n := by
  unfold wrapF
  cases h : quick k n with
  | false => rfl
  | true =>
    simp only [cond_true]
    unfold quick at h
    cases n with
    | ofNat m =>
      have h0 : Int.ofNat m = (m : Int) := rfl
      cases k <;> simp [ble_eq] at h
      · exact (wrap_i64 _ (by omega) (by omega)).symm
      · exact (wrap_u8 _ (by omega) (by omega)).symm
    | negSucc m =>
      have hm : Int.negSucc m = -((m : Int) + 1) := Int.negSucc_eq m
      cases k <;> simp [ble_eq] at h
      exact (wrap_i64 _ (by omega) (by omega)).symm
theorem eqF_eq (a b : Int) : eqF a b = (a == b) := by
  have hb : (a == b) = decide (a = b) := by
    by_cases h : a = b
    · subst h; simp
    · simp [h]
  rw [hb]
  cases a with
  | ofNat m =>
    cases b with
    | ofNat n =>
      simp only [eqF, beq_eq]
      exact decide_eq_decide.2 ⟨fun h => by rw [h], fun h => by cases h; rfl⟩
    | negSucc n => simp [eqF]
  | negSucc m =>
    cases b with
    | ofNat n => simp [eqF]
    | negSucc n =>
      simp only [eqF, beq_eq]
      exact decide_eq_decide.2 ⟨fun h => by rw [h], fun h => by cases h; rfl⟩
theorem ltF_eq (a b : Int) : ltF a b = decide (a < b) := by
  cases a with
  | ofNat m =>
    have h0 : Int.ofNat m = (m : Int) := rfl
    cases b with
    | ofNat n =>
      have h2 : Int.ofNat n = (n : Int) := rfl
      simp only [ltF, ble_eq]
      exact decide_eq_decide.2 ⟨fun h => by omega, fun h => by omega⟩
    | negSucc n =>
      have h1 := Int.negSucc_eq n
      have : ¬ Int.ofNat m < Int.negSucc n := by omega
      simp only [ltF, this, decide_false]
  | negSucc m =>
    have h1 := Int.negSucc_eq m
    cases b with
    | ofNat n =>
      have h0 : Int.ofNat n = (n : Int) := rfl
      have : Int.negSucc m < Int.ofNat n := by omega
      simp only [ltF, this, decide_true]
    | negSucc n =>
      have h2 := Int.negSucc_eq n
      simp only [ltF, ble_eq]
      exact decide_eq_decide.2 ⟨fun h => by omega, fun h => by omega⟩
theorem kNum_eq (k k' : IntKind) : Nat.beq (kNum k) (kNum k') = decide (k = k') := by cases k <;> cases k' <;> rfl
theorem eqBs_eq : ∀ x y : List UInt8, eqBs x y = (x == y)
  | [], [] => rfl
  | [], _ :: _ => rfl
  | _ :: _, [] => rfl
  | a :: x, b :: y => by
    show cond (Nat.beq a.toNat b.toNat) (eqBs x y) false = _
    rw [eqBs_eq x y, beq_eq]
    by_cases h : a = b
    · subst h; simp
    · have : ¬ a.toNat = b.toNat := fun e => h (UInt8.toNat_inj.1 e)
      simp [this, h]
theorem ltBs_eq : ∀ x y : List UInt8, ltBs x y = Op.bytesLess x y
  | [], [] => rfl
  | [], _ :: _ => rfl
  | _ :: _, [] => rfl
  | a :: x, b :: y => by
    show cond (Nat.beq a.toNat b.toNat) (ltBs x y) (Nat.ble (a.toNat + 1) b.toNat) = _
    rw [ltBs_eq x y, beq_eq, ble_eq]
    simp only [Op.bytesLess]
    by_cases h : a = b
    · subst h; simp
    · have : ¬ a.toNat = b.toNat := fun e => h (UInt8.toNat_inj.1 e)
      have hlt : (a < b) ↔ a.toNat + 1 ≤ b.toNat := UInt8.lt_iff_toNat_lt
      simp [this, h, hlt]
end Go.Aug
namespace Go.Aug
section
variable {t : Tr} {e : Env} {H : Heap} {call : CallF}
theorem rF_eq (h : Is t e) (x : Rand) : rF x t = evR e x := by
  cases x with
  | t i => exact h.get i
  | c d => rfl
theorem lF_eq (h : Is t e) : ∀ l : List Rand, lF l t = l.map (evR e)
  | [] => rfl
  | x :: l => by
    show rF x t :: lF l t = _
    rw [rF_eq h, lF_eq h l]
    rfl
theorem optH_eq (x : Option D) (H : Heap) : optH x H = x.map fun d => (d, H) := by cases x <;> rfl
theorem optU_eq (x : Option Heap) : optU x = x.map fun H => (uD, H) := by cases x <;> rfl
theorem optT_eq (x : Option Heap) : optT x = x.map fun H => (.tup [], H) := by cases x <;> rfl
theorem fillF_eq (h : Is t e) : ∀ (ps : List (Nat × Nat × Rand)) (cells : List D), fillF ps t cells = fillD e cells ps
  | [], cells => rfl
  | (off, size, x) :: ps, cells => by
    show Option.rec (motive := fun _ => Option (List D)) none (fun l => cond (and (Nat.beq l.length size) (Nat.ble (off + size) cells.length)) (fillF ps t (setAll cells off l)) none) (cellsOf (rF x t)) = _
    rw [rF_eq h]
    simp only [fillD]
    cases cellsOf (evR e x) with
    | none => rfl
    | some l =>
      simp only [fillF_eq h ps, beq_eq, ble_eq]
      by_cases h1 : l.length = size
      · by_cases h2 : off + size ≤ cells.length
        · simp [h1, h2]
        · simp [h1, h2]
      · simp [h1]
theorem orF_eq (h : Is t e) (x : Option Rand) : orF x t = x.map (evR e) := by
  cases x with
  | none => rfl
  | some x => show some (rF x t) = _; rw [rF_eq h]; rfl
theorem boundD_eq (x : Option Rand) (m n : Nat) : boundD (x.map (evR e)) m n = bound e x m n := by cases x <;> rfl
theorem sliceD_eq (size : Nat) (x : D) (lo hi mx : Option Rand) : sliceD size x (lo.map (evR e)) (hi.map (evR e)) (mx.map (evR e)) mx.isSome = evSlice e size x lo hi mx := by
  unfold sliceD evSlice
  simp only [boundD_eq]
  rfl
theorem subS_eq (s : ByteArray) (k h : Nat) : subS s k h = s.extract k h := by
  have h1 : (subS s k h).data = (s.extract k h).data := by
    rw [ByteArray.data_extract]
    apply Array.toList_inj.1
    rw [Array.toList_extract, List.extract_eq_take_drop]
    rfl
  cases hx : s.extract k h with
  | mk d => rw [hx] at h1; show ByteArray.mk _ = _; exact congrArg ByteArray.mk h1
theorem sliceSD_eq (x : D) (lo hi : Option Rand) : sliceSD x (lo.map (evR e)) (hi.map (evR e)) = evSliceS e x lo hi := by
  unfold sliceSD evSliceS
  simp only [boundD_eq, subS_eq]
  rfl
theorem idxSF_eq (x i : D) : idxSF x i = evIdxS x i := by
  unfold idxSF evIdxS
  cases x with
  | v a =>
    cases a with
    | string s =>
      cases i with
      | v b =>
        cases b with
        | int k n =>
          cases n with
          | ofNat m =>
            have h0 : (0 : Int) ≤ Int.ofNat m := Int.natCast_nonneg m
            have h1 : (Int.ofNat m).toNat = m := rfl
            simp only [h0, if_true, h1]
            have : s[m]? = s.data.toList[m]? := by
              rw [Array.getElem?_toList]
              rfl
            rw [this]
            cases s.data.toList[m]? <;> rfl
          | negSucc m =>
            have h0 : ¬ (0 : Int) ≤ Int.negSucc m := by have := Int.negSucc_eq m; omega
            simp only [h0, if_false]
        | _ => rfl
      | _ => rfl
    | _ => rfl
  | _ => rfl
theorem mk_append (x y : ByteArray) : (⟨⟨x.data.toList ++ y.data.toList⟩⟩ : ByteArray) = x ++ y := by
  have h1 : (⟨⟨x.data.toList ++ y.data.toList⟩⟩ : ByteArray).data = (x ++ y).data := by
    rw [ByteArray.data_append]
    apply Array.toList_inj.1
    rw [Array.toList_append]
  cases hx : x ++ y with
  | mk d => rw [hx] at h1; exact congrArg ByteArray.mk h1
theorem binF_eq (op : BinOp) (x y : D) : binF op x y = evBin op x y := by
  have main : ∀ (fi : IntKind → Int → Int → Option Value) (fs : ByteArray → ByteArray → Option Value) (op : BinOp), op ≠ .shl → op ≠ .shr → (∀ k a b, fi k a b = binInt op k a b) → (∀ a b, fs a b = binStr op a b) → bin2 fi fs x y = evBin op x y := by
    intro fi fs op h1 h2 h3 h4
    unfold bin2 evBin
    cases x with
    | v vx =>
      cases vx with
      | int k a =>
        cases y with
        | v vy =>
          cases vy with
          | int k' b =>
            simp only [kNum_eq, h3]
            by_cases hk : k = k'
            · subst hk
              cases op <;> simp at h1 h2 ⊢
            · cases op <;> simp [hk] at h1 h2 ⊢
          | _ => rfl
        | _ => rfl
      | string a =>
        cases y with
        | v vy =>
          cases vy with
          | string b => simp only [h4]
          | _ => rfl
        | _ => rfl
      | _ => rfl
    | _ => rfl
  have eqs : ∀ a b : ByteArray, eqBs a.data.toList b.data.toList = (a.toList == b.toList) := fun a b => by rw [eqBs_eq, ByteArray.toList_eq, ByteArray.toList_eq]
  have lts : ∀ a b : ByteArray, ltBs a.data.toList b.data.toList = Op.bytesLess a.toList b.toList := fun a b => by rw [ltBs_eq, ByteArray.toList_eq, ByteArray.toList_eq]
  have adds : ∀ a b : ByteArray, addS a b = binStr .add a b := by
    intro a b
    have hm : IntKind.i64.max = 9223372036854775807 := by decide
    simp only [addS, binStr, ble_eq, mk_append, hm]
    by_cases h : a.size + b.size ≤ 9223372036854775807
    · have : ¬ ((a.size + b.size : Nat) : Int) > 9223372036854775807 := by omega
      rw [if_neg this]
      simp [h]
    · have : ((a.size + b.size : Nat) : Int) > 9223372036854775807 := by omega
      rw [if_pos this]
      simp [h]
  have ges : ∀ (k : IntKind) (a b : Int), geqI k a b = binInt .geq k a b := by
    intro k a b
    simp only [geqI, binInt, ltF_eq]
    by_cases h : a < b
    · have : ¬ a ≥ b := by omega
      simp [h, this]
    · have : a ≥ b := by omega
      simp [h, this]
  cases op with
  | add => exact main addI addS .add (by simp) (by simp) (fun k a b => by simp [addI, binInt, wrapF_eq]) adds
  | sub => exact main subI noS .sub (by simp) (by simp) (fun k a b => by simp [subI, binInt, wrapF_eq]) fun a b => rfl
  | mul => exact main mulI noS .mul (by simp) (by simp) (fun k a b => by simp [mulI, binInt, wrapF_eq]) fun a b => rfl
  | eql => exact main eqlI eqlS .eql (by simp) (by simp) (fun k a b => by simp [eqlI, binInt, eqF_eq]) fun a b => by simp [eqlS, binStr, eqs]
  | neq => exact main neqI neqS .neq (by simp) (by simp) (fun k a b => by simp [neqI, binInt, eqF_eq, bne]) fun a b => by simp [neqS, binStr, eqs]
  | lss => exact main lssI lssS .lss (by simp) (by simp) (fun k a b => by simp [lssI, binInt, ltF_eq]) fun a b => by simp [lssS, binStr, lts]
  | geq => exact main geqI geqS .geq (by simp) (by simp) ges fun a b => by simp [geqS, binStr, lts]
  | _ => rfl
theorem opF_eq (h : Is t e) (op : AOp) : opF op call t H = evOp call e H op := by
  cases op with
  | mv x => show some (rF x t, H) = _; rw [rF_eq h]; rfl
  | pick c a b =>
    show optH (pickD (rF c t) (rF a t) (rF b t)) H = _
    rw [rF_eq h, rF_eq h, rF_eq h, optH_eq]
    simp only [evOp, pickD]
    cases evR e c with
    | v x => cases x <;> rfl
    | _ => rfl
  | new x => show Option.rec (motive := fun _ => Option (D × Heap)) _ _ (cellsOf (rF x t)) = _; rw [rF_eq h]; simp only [evOp]; cases cellsOf (evR e x) <;> rfl
  | zero z => rfl
  | build z ps => show Option.rec (motive := fun _ => Option (D × Heap)) _ _ (fillF ps t z) = _; rw [fillF_eq h]; simp only [evOp]; cases fillD e z ps <;> rfl
  | lits n size z ps => show Option.rec (motive := fun _ => Option (D × Heap)) _ _ (fillF ps t z) = _; rw [fillF_eq h]; simp only [evOp]; cases fillD e z ps <;> rfl
  | load k a => show optH (evLoad H k (rF a t)) H = _; rw [rF_eq h, optH_eq]; rfl
  | store k a x => show optU (evStore H k (rF a t) (rF x t)) = _; rw [rF_eq h, rF_eq h, optU_eq]; rfl
  | nilck x =>
    show optH (nilckD (rF x t)) H = _
    rw [rF_eq h, optH_eq]
    simp only [evOp, nilckD]
    cases evR e x <;> rfl
  | bin op x y => show optH (binF op (rF x t) (rF y t)) H = _; rw [rF_eq h, rF_eq h, binF_eq, optH_eq]; rfl
  | eqt neg k x y => show Option.rec (motive := fun _ => Option (D × Heap)) _ _ (eqAny k (rF x t) (rF y t)) = _; rw [rF_eq h, rF_eq h]; simp only [evOp]; cases eqAny k (evR e x) (evR e y) <;> rfl
  | un op x => show optH (evUn op (rF x t)) H = _; rw [rF_eq h, optH_eq]; rfl
  | conv k x => show optH (evConv k (rF x t)) H = _; rw [rF_eq h, optH_eq]; rfl
  | convI x => show optH (evConvI (rF x t)) H = _; rw [rF_eq h, optH_eq]; rfl
  | convB x => show optH (evConvB H (rF x t)) H = _; rw [rF_eq h, optH_eq]; rfl
  | convF k x => show optH (evConvF k (rF x t)) H = _; rw [rF_eq h, optH_eq]; rfl
  | cplx x y => show optH (evCplx (rF x t) (rF y t)) H = _; rw [rF_eq h, rF_eq h, optH_eq]; rfl
  | eqC x y => show optH (evEqC (rF x t) (rF y t)) H = _; rw [rF_eq h, rF_eq h, optH_eq]; rfl
  | ifc ty x => show some (D.ifc ty (rF x t), H) = _; rw [rF_eq h]; rfl
  | mkfn f a b => show some (D.fn f (lF a t) (lF b t), H) = _; rw [lF_eq h, lF_eq h]; rfl
  | ext x i => show optH (evExt (rF x t) i) H = _; rw [rF_eq h, optH_eq]; rfl
  | fadr off x => show optH (evFadr off (rF x t)) H = _; rw [rF_eq h, optH_eq]; rfl
  | fld k off x => show optH (evFld k off (rF x t)) H = _; rw [rF_eq h, optH_eq]; rfl
  | iadr size x i => show optH (evIadr size (rF x t) (rF i t)) H = _; rw [rF_eq h, rF_eq h, optH_eq]; rfl
  | iadrA size len x i => show optH (evIadrA size len (rF x t) (rF i t)) H = _; rw [rF_eq h, rF_eq h, optH_eq]; rfl
  | idxS x i => show optH (idxSF (rF x t) (rF i t)) H = _; rw [rF_eq h, rF_eq h, idxSF_eq, optH_eq]; rfl
  | idxA k size len x i => show optH (evIdxA k size len (rF x t) (rF i t)) H = _; rw [rF_eq h, rF_eq h, optH_eq]; rfl
  | slice size x lo hi mx => show optH (sliceD size (rF x t) (orF lo t) (orF hi t) (orF mx t) mx.isSome) H = _; rw [rF_eq h, orF_eq h, orF_eq h, orF_eq h, sliceD_eq, optH_eq]; rfl
  | sliceS x lo hi => show optH (sliceSD (rF x t) (orF lo t) (orF hi t)) H = _; rw [rF_eq h, orF_eq h, orF_eq h, sliceSD_eq, optH_eq]; rfl
  | len text x => show optH (evLen text (rF x t)) H = _; rw [rF_eq h, optH_eq]; rfl
  | app text size bytes x y => show evApp H text size bytes (rF x t) (rF y t) = _; rw [rF_eq h, rF_eq h]; rfl
  | minmax most xs => show optH (evMinmax most (lF xs t)) H = _; rw [lF_eq h, optH_eq]; rfl
  | call f args => show call (.fn f) (lF args t) H = _; rw [lF_eq h]; rfl
  | cald f args =>
    show caldD call (rF f t) (lF args t) H = _
    rw [rF_eq h, lF_eq h]
    simp only [evOp, caldD]
    cases evR e f with
    | fn g a b => cases g <;> rfl
    | _ => rfl
  | mkmap => rfl
  | mlook ck z ok m k => show optH (evMlook H ck z ok (rF m t) (rF k t)) H = _; rw [rF_eq h, rF_eq h, optH_eq]; rfl
  | mput ck m k x => show optU (evMput H ck (rF m t) (rF k t) (rF x t)) = _; rw [rF_eq h, rF_eq h, rF_eq h, optU_eq]; rfl
  | ment ck z m k => show evMent H ck z (rF m t) (rF k t) = _; rw [rF_eq h, rF_eq h]; rfl
  | mlen m => show optH (evMlen H (rF m t)) H = _; rw [rF_eq h, optH_eq]; rfl
  | mrng x => show evMrng H (rF x t) = _; rw [rF_eq h]; rfl
  | mnxt x => show evMnxt H (rF x t) = _; rw [rF_eq h]; rfl
  | mcur x => show optH (evMcur H (rF x t)) H = _; rw [rF_eq h, optH_eq]; rfl
  | clr size z x => show optT (evClr H size z (rF x t)) = _; rw [rF_eq h, optT_eq]; rfl
  | mksl size b z x => show evMksl H size b z (rF x t) = _; rw [rF_eq h]; rfl
  | mset m i x => show optU (evMset H (rF m t) (rF i t) (rF x t)) = _; rw [rF_eq h, rF_eq h, rF_eq h, optU_eq]; rfl
  | bad => rfl
theorem wantsF_eq (h : Is t e) (g : Option (Nat × Bool)) : wantsF g t = wants e g := by
  cases g with
  | none => rfl
  | some p => obtain ⟨i, b⟩ := p; show (t.get i).says b = _; rw [h.get]; rfl
end
def Same2 (x : Option (Tr × Heap)) (y : Option (Env × Heap)) : Prop :=
  (x = none ∧ y = none) ∨ ∃ t e H, x = some (t, H) ∧ y = some (e, H) ∧ Is t e
theorem opsF_ok {call : CallF} : ∀ (l : List POp) (t : Tr) (e : Env) (H : Heap), Is t e → Same2 (opsF l call t H) (evOps call l e H)
  | [], t, e, H, h => .inr ⟨t, e, H, rfl, rfl, h⟩
  | p :: l, t, e, H, h => by
    have ih := opsF_ok (call := call) l
    obtain ⟨dst, op, guard, cls, act, lo, still⟩ := p
    show Same2 (cond (wantsF guard t) (thenF dst t (opsF l call) (opF op call t H)) (opsF l call (putF dst t uD) H)) _
    rw [wantsF_eq h, opF_eq h]
    simp only [evOps]
    cases wants e guard with
    | false => exact ih _ _ _ (h.put dst uD)
    | true =>
      simp only [cond_true, if_true]
      cases evOp call e H op with
      | none => exact .inl ⟨rfl, rfl⟩
      | some r => obtain ⟨d, H'⟩ := r; exact ih _ _ _ (h.put dst d)
end Go.Aug
namespace Go.Aug
def dFin (base : Nat) (s : DS) : Env × Heap := (s.env, ⟨s.cur.1.next, s.cur.1.low, s.pend.filter (fun p => !s.cur.2.contains (p.1 - base)) ++ s.cur.1.objs⟩)
theorem Same2.none_ : Same2 none none := .inl ⟨rfl, rfl⟩
theorem newOf_eq (r : Option (D × Heap)) : (newOf r = none ∧ ∀ d a b c o, r ≠ some (d, ⟨a, b, [(c, o)]⟩)) ∨ ∃ d a b c o, r = some (d, ⟨a, b, [(c, o)]⟩) ∧ newOf r = some (d, o) := by
  match r with
  | none => exact .inl ⟨rfl, by intros; simp⟩
  | some (d, ⟨a, b, []⟩) => exact .inl ⟨rfl, by intros; simp⟩
  | some (d, ⟨a, b, [(c, o)]⟩) => exact .inr ⟨d, a, b, c, o, rfl, rfl⟩
  | some (d, ⟨a, b, _ :: _ :: _⟩) => exact .inl ⟨rfl, by intros; simp⟩
theorem dsF_ok {call : CallF} {base : Nat} : ∀ (l : List POp) (t : Tr) (e : Env) (rank : Nat) (pend : Pend) (Hs : Chain), Is t e →
    Same2 (dsF l dEnd call base t rank pend Hs) ((evDs call base l ⟨e, rank, pend, Hs⟩).map (dFin base))
  | [], t, e, rank, pend, Hs, h => .inr ⟨t, e, _, rfl, rfl, h⟩
  | p :: l, t, e, rank, pend, Hs, h => by
    have ih := dsF_ok (call := call) (base := base) l
    obtain ⟨dst, op, guard, cls, act, lo, still⟩ := p
    show Same2 (cond (wantsF guard t) (dGo dst op act lo still cls call base (dsF l dEnd call base) t rank pend Hs) (dNot dst cls (dsF l dEnd call base) t rank pend Hs)) _
    rw [wantsF_eq h]
    simp only [evDs, evD]
    cases wants e guard with
    | false =>
      cases cls with
      | plain => exact ih _ _ _ _ _ (h.put dst uD)
      | reads => exact ih _ _ _ _ _ (h.put dst uD)
      | news => exact ih _ _ _ _ _ (h.put dst uD)
      | acts => exact ih _ _ _ _ _ (h.put dst uD)
    | true =>
      simp only [cond_true, if_true]
      have put : ∀ (r : Option (D × Heap)) (r' : Option DS), (r = none ∧ r' = none ∨ ∃ d H', r = some (d, H') ∧ r' = some ⟨putE e dst d, rank, pend, Hs⟩) →
          Same2 (dPut dst (dsF l dEnd call base) t rank pend Hs r) ((match r' with | some s' => evDs call base l s' | none => none).map (dFin base)) := by
        intro r r' hr
        rcases hr with ⟨rfl, rfl⟩ | ⟨d, H', rfl, rfl⟩
        · exact .none_
        · exact ih _ _ _ _ _ (h.put dst d)
      cases cls with
      | plain =>
        show Same2 (dPut dst (dsF l dEnd call base) t rank pend Hs (opF op call t (chainTop Hs).1)) _
        rw [opF_eq h]
        refine put _ _ ?_
        show (evOp call e (chainTop Hs).1 op = none ∧ _) ∨ _
        have hc : (DS.cur ⟨e, rank, pend, Hs⟩).1 = (chainTop Hs).1 := rfl
        rw [hc]
        cases evOp call e (chainTop Hs).1 op with
        | none => exact .inl ⟨rfl, rfl⟩
        | some r => obtain ⟨d, H'⟩ := r; exact .inr ⟨d, H', rfl, rfl⟩
      | reads =>
        show Same2 (dPut dst (dsF l dEnd call base) t rank pend Hs (opF op call t (wake base act pend (chainAt Hs lo).2 (chainAt Hs lo).1))) _
        rw [opF_eq h]
        refine put _ _ ?_
        have hc : DS.at ⟨e, rank, pend, Hs⟩ lo = chainAt Hs lo := rfl
        rw [hc]
        cases evOp call e (wake base act pend (chainAt Hs lo).2 (chainAt Hs lo).1) op with
        | none => exact .inl ⟨rfl, rfl⟩
        | some r => obtain ⟨d, H'⟩ := r; exact .inr ⟨d, H', rfl, rfl⟩
      | news =>
        show Same2 (dNew dst base (dsF l dEnd call base) t rank pend Hs (newOf (opF op call t ⟨base + rank, 0, []⟩))) _
        rw [opF_eq h]
        rcases newOf_eq (evOp call e ⟨base + rank, 0, []⟩ op) with ⟨h1, h2⟩ | ⟨d, a, b, c, o, h1, h2⟩
        · rw [h1]
          have : (match evOp call e ⟨base + rank, 0, []⟩ op with
              | some (d, ⟨_, _, [(_, o)]⟩) => some (⟨putE e dst d, rank + 1, (base + rank, o) :: pend, Hs⟩ : DS)
              | _ => none) = none := by
            split
            · rename_i heq; exact absurd heq (h2 _ _ _ _ _)
            · rfl
          simp only []
          exact .none_
        · rw [h2, h1]
          exact ih _ _ _ _ _ (h.put dst d)
      | acts =>
        show Same2 (dActOn dst op act lo still call (dsF l dEnd call base) t rank pend Hs (wake base act pend (chainTop Hs).2 (chainTop Hs).1)) _
        have hc : DS.cur ⟨e, rank, pend, Hs⟩ = chainTop Hs := rfl
        simp only [hc]
        unfold dActOn
        generalize wake base act pend (chainTop Hs).2 (chainTop Hs).1 = H
        rw [opF_eq h, opF_eq h]
        cases still with
        | true =>
          simp only [cond_true, if_true]
          cases evOp call e ⟨H.next, H.next, H.objs⟩ op with
          | none => exact .none_
          | some r =>
            obtain ⟨d, H'⟩ := r
            simp only [stillOf]
            have hat0 : DS.at ⟨e, rank, pend, Hs⟩ 0 = chainAt Hs 0 := rfl
            simp only [hat0]
            by_cases hle : stillLim lo (chainAt Hs 0).1.next H.next ≤ H'.low
            · simp only [hle, if_true]
              exact ih _ _ _ _ _ (h.put dst d)
            · simp only [hle, if_false]
              exact .none_
        | false =>
          simp only [cond_false, Bool.false_eq_true, if_false]
          cases evOp call e H op with
          | none => exact .none_
          | some r => obtain ⟨d, H'⟩ := r; exact ih _ _ _ _ _ (h.put dst d)
theorem dregF_ok {call : CallF} (news : Nat) (l : List POp) (t : Tr) (e : Env) (H : Heap) (h : Is t e) : Same2 (dregF news l call t H) (evDreg call news l e H) := by
  have := dsF_ok (call := call) (base := H.next) l t e 0 [] [(⟨H.next + news, H.low, H.objs⟩, [])] h
  have he : (evDs call H.next l ⟨e, 0, [], [(⟨H.next + news, H.low, H.objs⟩, [])]⟩).map (dFin H.next) = evDreg call news l e H := by
    unfold evDreg
    cases evDs call H.next l ⟨e, 0, [], [(⟨H.next + news, H.low, H.objs⟩, [])]⟩ <;> rfl
  rw [he] at this
  exact this
def Same3 (x : Option (Ex × Tr × Heap)) (y : Option (Ex × Env × Heap)) : Prop :=
  (x = none ∧ y = none) ∨ ∃ q t e H, x = some (q, t, H) ∧ y = some (q, e, H) ∧ Is t e
theorem regOf_ok {x : Option (Tr × Heap)} {y : Option (Env × Heap)} (h : Same2 x y) : Same3 (regOf x) (y.map fun (e', H') => (.normal, e', H')) := by
  rcases h with ⟨rfl, rfl⟩ | ⟨t, e, H, rfl, rfl, h⟩
  · exact .inl ⟨rfl, rfl⟩
  · exact .inr ⟨.normal, t, e, H, rfl, rfl, h⟩
def onE (k' : Env → Heap → Option St) (y : Option St) : Option St :=
  match y with
  | some (.normal, e', H') => k' e' H'
  | r => r
theorem onF_ok {k : Tr → Heap → StF} {k' : Env → Heap → Option St} {x : StF} {y : Option St} (h : Same3 x y) (hk : ∀ t e H, Is t e → Same3 (k t H) (k' e H)) :
    Same3 (onF k x) (onE k' y) := by
  rcases h with ⟨rfl, rfl⟩ | ⟨q, t, e, H, rfl, rfl, h⟩
  · exact .inl ⟨rfl, rfl⟩
  · cases q with
    | normal => exact hk t e H h
    | exit id => exact .inr ⟨.exit id, t, e, H, rfl, rfl, h⟩
    | ret => exact .inr ⟨.ret, t, e, H, rfl, rfl, h⟩
theorem loopF_ok {b : Tr → Heap → StF} {b' : Env → Heap → Option St} (hb : ∀ t e H, Is t e → Same3 (b t H) (b' e H)) : ∀ (n : Nat) (t : Tr) (e : Env) (H : Heap), Is t e → Same3 (loopF b n t H) (evLoop b' n e H)
  | 0, t, e, H, h => .inl ⟨rfl, rfl⟩
  | n + 1, t, e, H, h => by
    show Same3 (onF (loopF b n) (b t H)) _
    have := onF_ok (k := loopF b n) (k' := evLoop b' n) (hb t e H h) (loopF_ok hb n)
    simp only [evLoop]
    exact this
theorem cF_ok {call : CallF} {n : Nat} {rd : Option Nat} : ∀ (c : AC) (t : Tr) (e : Env) (H : Heap), Is t e → Same3 (cF c call n rd t H) (evC call n rd c e H)
  | .skip, t, e, H, h => .inr ⟨.normal, t, e, H, rfl, rfl, h⟩
  | .ret, t, e, H, h => .inr ⟨.ret, t, e, H, rfl, rfl, h⟩
  | .exit id, t, e, H, h => .inr ⟨.exit id, t, e, H, rfl, rfl, h⟩
  | .seq a b, t, e, H, h => by
    show Same3 (onF (cF b call n rd) (cF a call n rd t H)) _
    have h1 : Same3 (cF a call n rd t H) (evC call n rd a e H) := cF_ok a t e H h
    have := onF_ok (k := cF b call n rd) (k' := evC call n rd b) h1 (cF_ok b)
    simp only [evC]
    exact this
  | .cond c a b, t, e, H, h => by
    show Same3 (condD (rF c t) (cF a call n rd t H) (cF b call n rd t H)) _
    rw [rF_eq h]
    simp only [evC, condD]
    cases evR e c with
    | v x =>
      cases x with
      | bool q =>
        cases q with
        | true => exact cF_ok a t e H h
        | false => exact cF_ok b t e H h
      | _ => exact .inl ⟨rfl, rfl⟩
    | _ => exact .inl ⟨rfl, rfl⟩
  | .block id a, t, e, H, h => by
    show Same3 (blockF id (cF a call n rd t H)) _
    simp only [evC]
    rcases cF_ok (call := call) (n := n) (rd := rd) a t e H h with ⟨h1, h2⟩ | ⟨q, t', e', H', h1, h2, h3⟩
    · rw [h1, h2]; exact .inl ⟨rfl, rfl⟩
    · rw [h1, h2]
      cases q with
      | normal => exact .inr ⟨.normal, t', e', H', rfl, rfl, h3⟩
      | exit id' =>
        show Same3 (cond (Nat.beq id' id) (some (.normal, t', H')) (some (.exit id', t', H'))) _
        rw [beq_eq]
        by_cases hid : id' = id
        · simp only [hid, decide_true, cond_true, if_true]; exact .inr ⟨.normal, t', e', H', rfl, rfl, h3⟩
        · simp only [hid, decide_false, cond_false, if_false]; exact .inr ⟨.exit id', t', e', H', rfl, rfl, h3⟩
      | ret => exact .inr ⟨.ret, t', e', H', rfl, rfl, h3⟩
  | .loop a, t, e, H, h => by
    show Same3 (loopF (cF a call n rd) n t H) _
    simp only [evC]
    exact loopF_ok (cF_ok a) n t e H h
  | .reg l, t, e, H, h => by
    show Same3 (regOf (opsF l call t H)) _
    simp only [evC]
    exact regOf_ok (opsF_ok l t e H h)
  | .dreg news l, t, e, H, h => by
    show Same3 (regOf (dregF news l call t H)) _
    simp only [evC]
    exact regOf_ok (dregF_ok news l t e H h)
  | .rfun f ps a b, t, e, H, h => by
    show Same3 (cond (inRound rd H) (rfunGo (rF f t) ps a b call t H) none) _
    rw [rF_eq h]
    simp only [evC]
    cases hin : inRound rd H with
    | false =>
      simp only [cond_false]
      cases evR e f with
      | fn g x y => cases g <;> exact .inl ⟨rfl, rfl⟩
      | _ => exact .inl ⟨rfl, rfl⟩
    | true =>
      simp only [cond_true, if_true]
      unfold rfunGo
      rw [h.toL]
      cases evR e f with
      | fn g x y =>
        cases g with
        | func g =>
          simp only
          cases call (.fn g) (x ++ [.yl H.next] ++ y) (H.add (.loop false false .normal e ps a b)) with
          | none => exact .inl ⟨rfl, rfl⟩
          | some r =>
            obtain ⟨d, H'⟩ := r
            simp only [rfunEnd]
            cases H'.get H.next with
            | none => exact .inl ⟨rfl, rfl⟩
            | some o =>
              cases o with
              | loop busy over jump e2 p2 a2 b2 =>
                cases busy with
                | false => exact .inr ⟨jump, t, e, _, rfl, rfl, h⟩
                | true => exact .inl ⟨rfl, rfl⟩
              | _ => exact .inl ⟨rfl, rfl⟩
        | _ => exact .inl ⟨rfl, rfl⟩
      | _ => exact .inl ⟨rfl, rfl⟩
  | .bad, t, e, H, h => .inl ⟨rfl, rfl⟩
theorem rvsF_eq {t : Tr} {e : Env} {H : Heap} (h : Is t e) : ∀ l : List RV, rvsF l t H = evRVs e H l
  | [] => rfl
  | r :: l => by
    show Option.rec (motive := fun _ => Option (List D)) none (fun d => Option.rec (motive := fun _ => Option (List D)) none (fun l => some (d :: l)) (rvsF l t H)) (rvF r t H) = _
    have hr : rvF r t H = evRV e H r := by
      cases r with
      | tmp i => show some (t.get i) = _; rw [h.get]; rfl
      | cell i k => show evLoad H k (t.get i) = _; rw [h.get]; rfl
    rw [hr, rvsF_eq h l]
    simp only [evRVs]
    cases evRV e H r with
    | none => rfl
    | some d => cases evRVs e H l <;> rfl
theorem bodyF_eq (call : CallF) (n : Nat) (fz : Bool) (fi : FI) (args : List D) (H : Heap) : bodyF call n fz fi args H = evBody call n fz fi args H := by
  obtain ⟨ntmps, rs, code⟩ := fi
  show bodyEnd fz rs H (cF code call n none (Tr.ofArgs ntmps args) ⟨H.next, H.next, H.objs⟩) = _
  unfold evBody
  have hI := ofArgs_ok ntmps args
  rcases cF_ok (call := call) (n := n) (rd := none) code _ _ ⟨H.next, H.next, H.objs⟩ hI with ⟨h1, h2⟩ | ⟨q, t', e', H', h1, h2, h3⟩
  · rw [h1]; simp only [h2]; rfl
  · rw [h1]
    simp only [h2]
    cases q with
    | normal =>
      show Option.rec (motive := fun _ => Option (D × Heap)) none (fun ds => some (leaveF fz H (resOf ds) H')) (rvsF rs t' H') = _
      rw [rvsF_eq h3]
      dsimp only
      cases evRVs e' H' rs <;> rfl
    | exit id => rfl
    | ret =>
      show Option.rec (motive := fun _ => Option (D × Heap)) none (fun ds => some (leaveF fz H (resOf ds) H')) (rvsF rs t' H') = _
      rw [rvsF_eq h3]
      dsimp only
      cases evRVs e' H' rs <;> rfl
theorem fold_is : ∀ (l : List (Nat × D)) (t : Tr) (e : Env), Is t e → Is (l.foldl (fun t p => t.set p.1 p.2) t) (l.foldl (fun e p => e.set p.1 p.2) e)
  | [], _t, _e, h => h
  | p :: l, _t, _e, h => fold_is l _ _ (h.set p.1 p.2)
theorem roundF_eq (call : CallF) (n : Nat) (r : Nat) (args : List D) (H : Heap) : roundF call n r args H = evRound call n r args H := by
  unfold roundF evRound
  cases H.get r with
  | none => rfl
  | some o =>
    cases o with
    | loop busy over jump e params assign body =>
      cases busy with
      | true => rfl
      | false =>
        cases over with
        | true => rfl
        | false =>
          simp only
          split
          · have hI : Is (Tr.ofArgs 0 e) e := by
              have := ofArgs_ok 0 e
              simpa using this
            rcases cF_ok (call := call) (n := n) (rd := some r) assign _ _ H (fold_is (params.zip args) _ _ hI) with ⟨h1, h2⟩ | ⟨q, t1, e1, H1, h1, h2, h3⟩
            · simp only [h1, h2]
            · simp only [h1, h2]
              cases q with
              | normal =>
                simp only
                cases H1.get r with
                | none => rfl
                | some o1 =>
                  cases o1 with
                  | loop b1 o1 j1 e1' p1 a1 c1 =>
                    cases b1 with
                    | true => rfl
                    | false =>
                      cases o1 with
                      | true => rfl
                      | false =>
                        simp only
                        rcases cF_ok (call := call) (n := n) (rd := some r) body _ _ (H1.set r (.loop true false j1 e1' p1 a1 c1)) h3 with ⟨g1, g2⟩ | ⟨q, t2, e2, H2, g1, g2, g3⟩
                        · simp only [g1, g2]
                        · simp only [g1, g2]
                          cases H2.get r with
                          | none => rfl
                          | some o2 =>
                            cases o2 with
                            | loop b2 o2 j2 e2' p2 a2 c2 => cases q <;> rfl
                            | _ => rfl
                  | _ => rfl
              | _ => rfl
          · rfl
    | _ => rfl
theorem evF_eq (T : Tab) : ∀ n, evF T n = ev T n
  | 0 => by funext c args H; rfl
  | n + 1 => by
    have ih := evF_eq T n
    funext c args H
    cases c with
    | fn f =>
      show fnF T (evF T n) n f args H = _
      rw [ih]
      unfold fnF
      simp only [ev]
      cases T.orc f with
      | some g => rfl
      | none =>
        cases T.fn f with
        | none => rfl
        | some fi => exact bodyF_eq (ev T n) n (T.fz f) fi args H
    | yl r =>
      show roundF (evF T n) n r args H = _
      rw [ih]
      simp only [ev]
      exact roundF_eq (ev T n) n r args H
end Go.Aug
