/-
The program's kinds of data, as the evaluator holds them. Conditions: none.
-/
import Derived.Test.YtlnkifnkamojnaaGreatGR
import Derived.ChangeArms
import Derived.DataReads
namespace Go.Aug.Api
open Go.Aug
structure Sl (α : Type) where
  rep : Option (Option Nat)
  l : List α
  ok : l.length ≤ big
def Sl.nil {α : Type} : Sl α := ⟨none, [], Nat.zero_le _⟩
def Sl.enc {α : Type} (c : α → List D) (x : Sl α) : D := slD x.rep x.l.length (x.l.flatMap c)
def strC (s : ByteArray) : List D := [strD s]
def intC (n : Int) : List D := [i64D n]
structure TVal where
  kind : Int
  n : Int
  s : ByteArray
  deriving DecidableEq
def valC (v : TVal) : List D := [i64D v.kind, i64D v.n, strD v.s]
def zVal : TVal := ⟨0, 0, ⟨#[]⟩⟩
abbrev i64ok (n : Int) : Prop := -9223372036854775808 ≤ n ∧ n ≤ 9223372036854775807
structure TField where
  name : ByteArray
  kind : Int
  okK : i64ok kind
def fieldC (f : TField) : List D := [strD f.name, i64D f.kind]
structure TSchema where
  name : ByteArray
  fields : Sl TField
def schemaC (s : TSchema) : List D := [strD s.name, s.fields.enc fieldC]
structure TEvent where
  ts : Int
  depth : Int
  seq : Int
  name : ByteArray
  vals : Sl TVal
def eventC (e : TEvent) : List D := [i64D e.ts, i64D e.depth, i64D e.seq, strD e.name, e.vals.enc valC]
structure TItem where
  not : Bool
  names : Sl ByteArray
  var : ByteArray
  mode : Int
  okN : ∀ s ∈ names.l, s.size ≤ big
  okV : var.size ≤ big
def itemC (x : TItem) : List D := [bD x.not, x.names.enc strC, strD x.var, i64D x.mode]
inductive TExpr where
  | mk (kind : Int) (val : TVal) (var field : ByteArray) (rep : Option (Option Nat)) (kids : List TExpr)
namespace TExpr
def kind : TExpr → Int | mk k _ _ _ _ _ => k
def val : TExpr → TVal | mk _ v _ _ _ _ => v
def var : TExpr → ByteArray | mk _ _ v _ _ _ => v
def field : TExpr → ByteArray | mk _ _ _ f _ _ => f
def rep : TExpr → Option (Option Nat) | mk _ _ _ _ r _ => r
def kids : TExpr → List TExpr | mk _ _ _ _ _ k => k
end TExpr
mutual
def exprC : TExpr → List D
  | .mk k v var f rep kids => [i64D k, i64D v.kind, i64D v.n, strD v.s, strD var, strD f, slD rep kids.length (exprsC kids)]
def exprsC : List TExpr → List D
  | [] => []
  | x :: l => exprC x ++ exprsC l
end
theorem exprsC_eq : ∀ l : List TExpr, exprsC l = l.flatMap exprC
  | [] => rfl
  | x :: l => by simp [exprsC, List.flatMap_cons, exprsC_eq l]
theorem exprC_eq (x : TExpr) : exprC x = [i64D x.kind, i64D x.val.kind, i64D x.val.n, strD x.val.s, strD x.var, strD x.field, slD x.rep x.kids.length (x.kids.flatMap exprC)] := by
  cases x with
  | mk k v var f rep kids => simp only [exprC, exprsC_eq, TExpr.kind, TExpr.val, TExpr.var, TExpr.field, TExpr.rep, TExpr.kids]
theorem exprC_mk (k : Int) (v : TVal) (var f : ByteArray) (rep : Option (Option Nat)) (kids : List TExpr) :
    exprC (.mk k v var f rep kids) = [i64D k, i64D v.kind, i64D v.n, strD v.s, strD var, strD f, slD rep kids.length (kids.flatMap exprC)] := by simp only [exprC, exprsC_eq]
mutual
def okE : TExpr → Prop
  | .mk _ v var f _ kids => kids.length ≤ big ∧ okEs kids ∧ var.size ≤ big ∧ f.size ≤ big ∧ v.s.size ≤ big
def okEs : List TExpr → Prop
  | [] => True
  | x :: l => okE x ∧ okEs l
end
theorem okEs_mem : ∀ {l : List TExpr} {x : TExpr}, okEs l → x ∈ l → okE x
  | [], _, _, h => by simp at h
  | y :: l, x, h, hx => by
    rcases List.mem_cons.1 hx with rfl | hx
    · exact h.1
    · exact okEs_mem h.2 hx
structure TPred where
  cmp : Int
  L : TExpr
  R : TExpr
  okL : okE L
  okR : okE R
def predC (p : TPred) : List D := i64D p.cmp :: (exprC p.L ++ exprC p.R)
structure TQuery where
  items : Sl TItem
  preds : Sl TPred
  within : Int
  by_ : ByteArray
  pick : Int
  okBy : by_.size ≤ big
def queryC (q : TQuery) : List D := [q.items.enc itemC, q.preds.enc predC, i64D q.within, strD q.by_, i64D q.pick]
def rowC (r : Sl TEvent) : List D := [r.enc eventC]
theorem strC_len (s : ByteArray) : (strC s).length = 1 := rfl
theorem intC_len (n : Int) : (intC n).length = 1 := rfl
theorem valC_len (v : TVal) : (valC v).length = 3 := rfl
theorem fieldC_len (v : TField) : (fieldC v).length = 2 := rfl
theorem schemaC_len (v : TSchema) : (schemaC v).length = 2 := rfl
theorem eventC_len (v : TEvent) : (eventC v).length = 5 := rfl
theorem itemC_len (v : TItem) : (itemC v).length = 4 := rfl
theorem exprC_len (v : TExpr) : (exprC v).length = 7 := by rw [exprC_eq]; rfl
theorem predC_len (v : TPred) : (predC v).length = 15 := by simp [predC, exprC_len]
theorem queryC_len (v : TQuery) : (queryC v).length = 5 := rfl
theorem rowC_len (v : Sl TEvent) : (rowC v).length = 1 := rfl
abbrev pureL (l : List D) : Prop := D.under.underAll 0 l = true
theorem Sl.pure {α : Type} {c : α → List D} (hc : ∀ x, pureL (c x)) (x : Sl α) : (x.enc c).under 0 = true := sl_under 0 _ _ _ (under_flatMap 0 c hc x.l)
theorem strC_pure (s : ByteArray) : pureL (strC s) := rfl
theorem intC_pure (n : Int) : pureL (intC n) := rfl
theorem valC_pure (v : TVal) : pureL (valC v) := rfl
theorem fieldC_pure (v : TField) : pureL (fieldC v) := rfl
theorem schemaC_pure (v : TSchema) : pureL (schemaC v) := by simp [pureL, schemaC, under_cons, under_nil, under_v, Sl.pure fieldC_pure]
theorem eventC_pure (v : TEvent) : pureL (eventC v) := by simp [pureL, eventC, under_cons, under_nil, under_v, Sl.pure valC_pure]
theorem itemC_pure (v : TItem) : pureL (itemC v) := by simp [pureL, itemC, under_cons, under_nil, under_v, Sl.pure strC_pure]
mutual
theorem exprC_pure : ∀ x : TExpr, pureL (exprC x)
  | .mk k v var f rep kids => by
    have := exprsC_pure kids
    simp [pureL, exprC, under_cons, under_nil, under_v, sl_under 0 rep kids.length (exprsC kids) this]
theorem exprsC_pure : ∀ l : List TExpr, pureL (exprsC l)
  | [] => rfl
  | x :: l => by
    have h1 := exprC_pure x
    have h2 := exprsC_pure l
    simp only [pureL] at *
    simp [exprsC, under_append, h1, h2]
end
theorem predC_pure (v : TPred) : pureL (predC v) := by simp [pureL, predC, under_cons, under_append, under_v, exprC_pure v.L, exprC_pure v.R]
theorem queryC_pure (v : TQuery) : pureL (queryC v) := by simp [pureL, queryC, under_cons, under_nil, under_v, Sl.pure itemC_pure, Sl.pure predC_pure]
theorem rowC_pure (v : Sl TEvent) : pureL (rowC v) := by simp [pureL, rowC, under_cons, under_nil, Sl.pure eventC_pure]
@[simp] theorem fl_str (l : List ByteArray) : D.under.underAll 0 (l.flatMap strC) = true := under_flatMap 0 _ strC_pure l
@[simp] theorem fl_val (l : List TVal) : D.under.underAll 0 (l.flatMap valC) = true := under_flatMap 0 _ valC_pure l
@[simp] theorem fl_field (l : List TField) : D.under.underAll 0 (l.flatMap fieldC) = true := under_flatMap 0 _ fieldC_pure l
@[simp] theorem fl_schema (l : List TSchema) : D.under.underAll 0 (l.flatMap schemaC) = true := under_flatMap 0 _ schemaC_pure l
@[simp] theorem fl_event (l : List TEvent) : D.under.underAll 0 (l.flatMap eventC) = true := under_flatMap 0 _ eventC_pure l
@[simp] theorem fl_item (l : List TItem) : D.under.underAll 0 (l.flatMap itemC) = true := under_flatMap 0 _ itemC_pure l
@[simp] theorem fl_expr (l : List TExpr) : D.under.underAll 0 (l.flatMap exprC) = true := under_flatMap 0 _ exprC_pure l
@[simp] theorem fl_pred (l : List TPred) : D.under.underAll 0 (l.flatMap predC) = true := under_flatMap 0 _ predC_pure l
@[simp] theorem fl_row (l : List (Sl TEvent)) : D.under.underAll 0 (l.flatMap rowC) = true := under_flatMap 0 _ rowC_pure l
@[simp] theorem fl_int (l : List Int) : D.under.underAll 0 (l.flatMap intC) = true := under_flatMap 0 _ intC_pure l
attribute [simp] schemaC_pure eventC_pure itemC_pure exprC_pure predC_pure queryC_pure rowC_pure valC_pure fieldC_pure strC_pure intC_pure
@[simp] theorem enc_under {α : Type} (c : α → List D) (x : Sl α) (h : D.under.underAll 0 (x.l.flatMap c) = true) : (x.enc c).under 0 = true := sl_under 0 _ _ _ h
@[simp] theorem expr_take (x : TExpr) : (exprC x).take 7 = exprC x := List.take_of_length_le (by rw [exprC_len]; exact Nat.le_refl _)
@[simp] theorem pred_take (x : TPred) : (predC x).take 15 = predC x := List.take_of_length_le (by rw [predC_len]; exact Nat.le_refl _)
attribute [simp] exprC_len predC_len valC_len fieldC_len schemaC_len eventC_len itemC_len queryC_len rowC_len strC_len intC_len
@[simp] theorem pred_get0 (x : TPred) : (predC x)[0]? = some (i64D x.cmp) := rfl
@[simp] theorem pred_at0 (x : TPred) (h : 0 < (predC x).length) : (predC x)[0] = i64D x.cmp := rfl
@[simp] theorem pred_getL (x : TPred) : ((predC x).drop 1).take 7 = exprC x.L := by
  show (exprC x.L ++ exprC x.R).take 7 = _
  exact List.take_left' (exprC_len x.L)
@[simp] theorem pred_getL' (x : TPred) : (predC x).tail.take 7 = exprC x.L := by
  show (exprC x.L ++ exprC x.R).take 7 = _
  exact List.take_left' (exprC_len x.L)
@[simp] theorem pred_getR (x : TPred) : ((predC x).drop 8).take 7 = exprC x.R := by
  show ((exprC x.L ++ exprC x.R).drop 7).take 7 = _
  rw [List.drop_left' (exprC_len x.L)]
  exact List.take_of_length_le (by rw [exprC_len]; exact Nat.le_refl _)
end Go.Aug.Api
namespace Go.Aug
open Go.RowKit
def contig (P : Program) : Nat → List Field → Option Nat
  | o, [] => some o
  | o, f :: fs => if f.offset = o then contig P (o + P.cellsOf f.type) fs else none
def closedAt (P : Program) (S : List TypeId) (t : TypeId) : Bool :=
  match P.underlying t with
  | some .bool => true
  | some (.int _) => true
  | some .string => true
  | some (.slice e) => decide (0 < P.cellsOf e) && S.contains e
  | some (.struct fs) => decide (contig P 0 fs.toList = some (P.cellsOf t)) && fs.toList.all fun f => S.contains f.type
  | _ => false
def closedB (P : Program) (S : List TypeId) : Bool := S.all (closedAt P S)
def fieldsG (G : TypeId → List D → Prop) (P : Program) : List Field → List D → Prop
  | [], ds => ds = []
  | f :: fs, ds => ∃ a b, ds = a ++ b ∧ a.length = P.cellsOf f.type ∧ G f.type a ∧ fieldsG G P fs b
def Good (P : Program) : Nat → TypeId → List D → Prop
  | 0, _, _ => False
  | n + 1, t, ds => match P.underlying t with
    | some .bool => ∃ b, ds = [bD b]
    | some (.int k) => ∃ m, ds = [.v (.int k m)] ∧ (Lit.int k m).wf = true
    | some .string => ∃ s, ds = [strD s] ∧ s.size ≤ maxLen
    | some (.slice e) => ∃ (rep : Option (Option Nat)) (l : List (List D)), ds = [slD rep l.length l.flatten] ∧ l.length ≤ maxLen ∧ ∀ x ∈ l, x.length = P.cellsOf e ∧ Good P n e x
    | some (.struct fs) => fieldsG (Good P n) P fs.toList ds
    | _ => False
theorem good_bool {P : Program} {n : Nat} {t : TypeId} {ds : List D} (hu : P.underlying t = some .bool) : Good P (n + 1) t ds = ∃ b, ds = [bD b] := by simp only [Good, hu]
theorem good_int {P : Program} {n : Nat} {t : TypeId} {ds : List D} {k : IntKind} (hu : P.underlying t = some (.int k)) : Good P (n + 1) t ds = ∃ m, ds = [.v (.int k m)] ∧ (Lit.int k m).wf = true := by simp only [Good, hu]
theorem good_string {P : Program} {n : Nat} {t : TypeId} {ds : List D} (hu : P.underlying t = some .string) : Good P (n + 1) t ds = ∃ s, ds = [strD s] ∧ s.size ≤ maxLen := by simp only [Good, hu]
theorem good_slice {P : Program} {n : Nat} {t e : TypeId} {ds : List D} (hu : P.underlying t = some (.slice e)) :
    Good P (n + 1) t ds = ∃ (rep : Option (Option Nat)) (l : List (List D)), ds = [slD rep l.length l.flatten] ∧ l.length ≤ maxLen ∧ ∀ x ∈ l, x.length = P.cellsOf e ∧ Good P n e x := by simp only [Good, hu]
theorem good_struct {P : Program} {n : Nat} {t : TypeId} {ds : List D} {fs : Array Field} (hu : P.underlying t = some (.struct fs)) : Good P (n + 1) t ds = fieldsG (Good P n) P fs.toList ds := by simp only [Good, hu]
section
variable {w : World}
abbrev relIn (w : World) : D → Value → Prop := Rel ρ0 (fun b => b < w.heap.size) w
structure Each (w : World) (ds : List D) (cs : List Value) : Prop where
  len : ds.length = cs.length
  rel : ∀ (i : Nat) (d : D) (v : Value), ds[i]? = some d → cs[i]? = some v → relIn w d v ∧ v.oneCell' = true
theorem Each.nil : Each w [] [] := ⟨rfl, fun i d v h => by simp at h⟩
theorem Each.one {d : D} {v : Value} (h : relIn w d v) (h1 : v.oneCell' = true) : Each w [d] [v] := by
  refine ⟨rfl, fun i d' v' hd hv => ?_⟩
  cases i with
  | zero => simp at hd hv; subst hd; subst hv; exact ⟨h, h1⟩
  | succ i => simp at hd
theorem Each.append {a b : List D} {x y : List Value} (h : Each w a x) (h' : Each w b y) : Each w (a ++ b) (x ++ y) := by
  refine ⟨by simp [h.len, h'.len], fun i d v hd hv => ?_⟩
  by_cases hi : i < a.length
  · rw [List.getElem?_append_left hi] at hd
    rw [List.getElem?_append_left (by rw [← h.len]; exact hi)] at hv
    exact h.rel i d v hd hv
  · rw [List.getElem?_append_right (by omega)] at hd
    rw [List.getElem?_append_right (by rw [← h.len]; omega)] at hv
    rw [h.len] at hd
    exact h'.rel _ d v hd hv
theorem exists_list {α : Type} {n : Nat} {p : Nat → α → Prop} (h : ∀ i, i < n → ∃ x, p i x) : ∃ l : List α, l.length = n ∧ ∀ i x, l[i]? = some x → p i x := by
  induction n with
  | zero => exact ⟨[], rfl, fun i x h => by simp at h⟩
  | succ n ih =>
    obtain ⟨l, h1, h2⟩ := ih fun i hi => h i (by omega)
    obtain ⟨x, hx⟩ := h n (by omega)
    refine ⟨l ++ [x], by simp [h1], fun i y hy => ?_⟩
    by_cases hi : i < n
    · rw [List.getElem?_append_left (by omega)] at hy
      exact h2 i y hy
    · have hlt := (List.getElem?_eq_some_iff.1 hy).1
      simp at hlt
      obtain rfl : i = n := by omega
      rw [List.getElem?_append_right (by omega), h1] at hy
      simp at hy
      exact hy ▸ hx
theorem flatten_length {α : Type} {s : Nat} : ∀ (l : List (List α)), (∀ x ∈ l, x.length = s) → l.flatten.length = l.length * s
  | [], _ => by simp
  | x :: l, h => by
    have h1 := h x (List.mem_cons_self ..)
    have h2 := flatten_length l fun y hy => h y (List.mem_cons_of_mem _ hy)
    simp only [List.flatten_cons, List.length_append, h1, h2, List.length_cons, Nat.add_mul]
    omega
theorem flatten_get {α : Type} {s : Nat} (hs : 0 < s) : ∀ (l : List (List α)) (i : Nat) (a : α), (∀ x ∈ l, x.length = s) → l.flatten[i]? = some a → ∃ x, l[i / s]? = some x ∧ x[i % s]? = some a
  | [], i, a, _, h => by simp at h
  | x :: l, i, a, hl, h => by
    have h1 := hl x (List.mem_cons_self ..)
    rw [List.flatten_cons] at h
    by_cases hi : i < s
    · rw [List.getElem?_append_left (by omega)] at h
      exact ⟨x, by simp [Nat.div_eq_of_lt hi], by rw [Nat.mod_eq_of_lt hi]; exact h⟩
    · rw [List.getElem?_append_right (by omega), h1] at h
      obtain ⟨y, h2, h3⟩ := flatten_get hs l (i - s) a (fun y hy => hl y (List.mem_cons_of_mem _ hy)) h
      have e1 : i / s = (i - s) / s + 1 := by
        rw [show i = (i - s) + s by omega, Nat.add_div_right _ hs]
        simp
      have e2 : i % s = (i - s) % s := by
        conv => lhs; rw [show i = (i - s) + s by omega, Nat.add_mod_right]
      exact ⟨y, by rw [e1]; simpa using h2, by rw [e2]; exact h3⟩
theorem cells_at {base n : Nat} {a : Addr} {cs : List Value} (h : w.cells? base a n = some cs) : cs.length = n ∧ ∀ i, i < n → w.cell? (a.add i) = cs[i]? := by
  unfold World.cells? at h
  split at h
  · refine ⟨by simpa using mapM_some_length h, fun i hi => ?_⟩
    have := mapM_some_get h i i (by simp [hi])
    exact this
  · cases h
theorem cell_lt {a : Addr} {v : Value} (h : w.cell? a = some v) : a.block < w.heap.size := by
  rcases Nat.lt_or_ge a.block w.heap.size with h1 | h1
  · exact h1
  · have : w.heap[a.block]? = none := Array.getElem?_eq_none h1
    simp [World.cell?, this] at h
theorem add_add (a : Addr) (i j : Nat) : (a.add i).add j = a.add (i + j) := by
  unfold Addr.add
  by_cases hi : i = 0 <;> by_cases hj : j = 0 <;> simp [hi, hj, Nat.add_assoc]
variable {H : Type} {enc : TypeId × Value → H} {P : Program} {sp : Nat → Bool} {held : Bool} {S : List TypeId}
theorem fields_good {n : Nat} {cs : List Value} : ∀ (fs : List Field) (o : Nat), contig P o fs = some cs.length → o ≤ cs.length →
    (∀ f ∈ fs, ∃ ds, Each w ds ((cs.drop f.offset).take (P.cellsOf f.type)) ∧ Good P n f.type ds) → ∃ ds, Each w ds (cs.drop o) ∧ fieldsG (Good P n) P fs ds
  | [], o, hc, ho, _ => by
    simp only [contig, Option.some.injEq] at hc
    subst hc
    exact ⟨[], by rw [List.drop_length]; exact Each.nil, rfl⟩
  | f :: fs, o, hc, ho, h => by
    simp only [contig] at hc
    split at hc
    · rename_i hoff
      have hle : o + P.cellsOf f.type ≤ cs.length := by
        clear h
        suffices ∀ (fs : List Field) (o e : Nat), contig P o fs = some e → o ≤ e from this _ _ _ hc
        intro fs
        induction fs with
        | nil => intro o e h; simp only [contig, Option.some.injEq] at h; omega
        | cons f fs ih =>
          intro o e h
          simp only [contig] at h
          split at h
          · have := ih _ _ h; omega
          · cases h
      obtain ⟨a, ha, hga⟩ := h f (List.mem_cons_self ..)
      obtain ⟨b, hb, hgb⟩ := fields_good fs (o + P.cellsOf f.type) hc hle fun g hg => h g (List.mem_cons_of_mem _ hg)
      refine ⟨a ++ b, ?_, a, b, rfl, ?_, hga, hgb⟩
      · have e : cs.drop o = (cs.drop o).take (P.cellsOf f.type) ++ cs.drop (o + P.cellsOf f.type) := by
          rw [← List.drop_drop, List.take_append_drop]
        rw [e]
        rw [hoff] at ha
        exact ha.append hb
      · rw [ha.len, hoff]
        simp
        omega
    · cases hc
theorem trod_good (hS : closedB P S = true) : ∀ (fuel : Nat) (t : TypeId) (cs : List Value) (x : DataW H × List MemPlace), t ∈ S → DataW.trod enc P w 0 sp held fuel t cs = some x → ∃ ds, Each w ds cs ∧ Good P fuel t ds
  | 0, t, cs, x, _, h => by simp [DataW.trod] at h
  | fuel + 1, t, cs, x, ht, h => by
    have hc : closedAt P S t = true := List.all_eq_true.1 hS t ht
    unfold closedAt at hc
    split at hc
    · rename_i hu
      obtain ⟨b, rfl, -⟩ := DataW.trod_bool hu h
      exact ⟨[bD b], Each.one (.v _) rfl, by rw [good_bool hu]; exact ⟨b, rfl⟩⟩
    · rename_i k hu
      obtain ⟨m, rfl, -, hw⟩ := DataW.trod_int hu h
      exact ⟨[.v (.int k m)], Each.one (.v _) rfl, by rw [good_int hu]; exact ⟨m, rfl, hw⟩⟩
    · rename_i hu
      obtain ⟨s, rfl, -, hs⟩ := DataW.trod_string hu h
      exact ⟨[strD s], Each.one (.v _) rfl, by rw [good_string hu]; exact ⟨s, rfl, hs⟩⟩
    · rename_i e hu
      simp only [Bool.and_eq_true, decide_eq_true_eq, List.contains_iff_mem] at hc
      obtain ⟨hpos, he⟩ := hc
      rcases DataW.trod_slice hu h with ⟨rfl, -⟩ | ⟨a, len, cap, elems, rest, n, hn, rfl, -, hb, hl, hm, hlen, hel, -, -⟩
      · refine ⟨[slD none 0 []], Each.one (.v _) rfl, ?_⟩
        rw [good_slice hu]
        exact ⟨none, [], rfl, Nat.zero_le _, fun x hx => by simp at hx⟩
      · cases hn
        have each : ∀ i, i < len → ∃ ds : List D, ∃ ccs : List Value, w.cells? 0 (a.add (i * P.cellsOf e)) (P.cellsOf e) = some ccs ∧ Each w ds ccs ∧ Good P fuel e ds := by
          intro i hi
          have h1 := hel i hi
          rw [List.getElem?_eq_getElem (by omega)] at h1
          rw [Option.bind_eq_some_iff] at h1
          obtain ⟨ccs, h2, h3⟩ := h1
          obtain ⟨ds, h4, h5⟩ := trod_good hS fuel e ccs _ he h3
          exact ⟨ds, ccs, h2, h4, h5⟩
        obtain ⟨l, hll, hl2⟩ := exists_list each
        have hsz : ∀ x ∈ l, x.length = P.cellsOf e := by
          intro x hx
          obtain ⟨i, hi⟩ := List.getElem?_of_mem hx
          obtain ⟨ccs, h1, h2, h3⟩ := hl2 i x hi
          rw [h2.len, (cells_at h1).1]
        have hfl := flatten_length l hsz
        refine ⟨[slD (some none) l.length l.flatten], ?_, ?_⟩
        · refine Each.one ?_ rfl
          rw [slD_some, hll]
          by_cases h0 : len = 0
          · subst h0
            have : l = [] := List.eq_nil_of_length_eq_zero hll
            subst this
            exact Rel.sz (fun k hk => by cases hk)
          · have get : ∀ i, i < l.flatten.length → ∃ d v, l.flatten[i]? = some d ∧ w.cell? (a.add i) = some v ∧ relIn w d v ∧ v.oneCell' = true := by
              intro i hi
              have hd := List.getElem?_eq_getElem hi
              obtain ⟨x, hx1, hx2⟩ := flatten_get hpos l i _ hsz hd
              obtain ⟨ccs, h1, h2, h3⟩ := hl2 _ x hx1
              obtain ⟨c1, c2⟩ := cells_at h1
              have hr : i % P.cellsOf e < P.cellsOf e := Nat.mod_lt _ hpos
              have h4 := c2 (i % P.cellsOf e) hr
              have hv : ccs[i % P.cellsOf e]? = some (ccs[i % P.cellsOf e]'(by omega)) := List.getElem?_eq_getElem (by omega)
              rw [hv] at h4
              have ea : (a.add (i / P.cellsOf e * P.cellsOf e)).add (i % P.cellsOf e) = a.add i := by
                rw [add_add, Nat.div_add_mod']
              rw [ea] at h4
              obtain ⟨r1, r2⟩ := h2.rel _ _ _ hx2 hv
              exact ⟨_, _, hd, h4, r1, r2⟩
            have hfpos : 0 < l.flatten.length := by
              rw [hfl, hll]
              exact Nat.mul_pos (by omega) hpos
            have hspot : a.spot = none := by
              obtain ⟨d, v, _, h2, _⟩ := get 0 hfpos
              have := World.cell?_spot h2
              simpa [Addr.add] using this
            obtain ⟨b, o, sp'⟩ := a
            simp only at hspot
            subst hspot
            refine Rel.sl (fun i => (w.cell? ⟨b, o + i, none⟩).getD undef) hl (fun k hk => by cases hk) (fun i hi => ?_) fun i d hd => ?_
            · obtain ⟨d, v, _, h2, h3, h4⟩ := get i hi
              rw [add_none] at h2
              have := cell_lt h2
              refine ⟨this, ?_, ?_⟩
              · simp only [h2, Option.getD_some]
              · simp only [h2, Option.getD_some, h4]
            · have hi := (List.getElem?_eq_some_iff.1 hd).1
              obtain ⟨d', v, h1, h2, h3, h4⟩ := get i hi
              rw [add_none] at h2
              rw [hd] at h1
              cases h1
              simp only [h2, Option.getD_some]
              exact h3
        · rw [good_slice hu]
          refine ⟨some none, l, rfl, by omega, fun x hx => ⟨hsz x hx, ?_⟩⟩
          obtain ⟨i, hi⟩ := List.getElem?_of_mem hx
          obtain ⟨_, _, _, h3⟩ := hl2 i x hi
          exact h3
    · rename_i fs hu
      simp only [Bool.and_eq_true, decide_eq_true_eq, List.all_eq_true, List.contains_iff_mem] at hc
      obtain ⟨hcon, hmem⟩ := hc
      obtain ⟨xs, n, hn, -, hlen, hxl, hxs⟩ := DataW.trod_struct hu h
      cases hn
      have := fields_good (w := w) (P := P) (n := fuel) (cs := cs) fs.toList 0 (by rw [hcon, hlen]) (Nat.zero_le _) fun f hf => by
        obtain ⟨i, hi⟩ := List.getElem?_of_mem hf
        have hi' : fs[i]? = some f := by simpa using hi
        have hlt : i < fs.size := (Array.getElem?_eq_some_iff.1 hi').1
        have := hxs i f hi'
        rw [List.getElem?_eq_getElem (by omega)] at this
        exact trod_good hS fuel f.type _ _ (hmem f hf) this
      obtain ⟨ds, h1, h2⟩ := this
      refine ⟨ds, by simpa using h1, ?_⟩
      rw [good_struct hu]
      exact h2
    · cases hc
end
end Go.Aug
namespace Go.Aug
open Go.RowKit
theorem arg_one {W : World} {ds : List D} {v : Value} (hv : v.cells = #[v]) (h : Each W ds v.cells.toList) : ∃ d, ds = [d] ∧ relIn W d v := by
  rw [hv] at h
  match ds, h.len with
  | [d], _ => exact ⟨d, rfl, (h.rel 0 d v rfl rfl).1⟩
theorem arg_agg {W : World} {ds : List D} {cs : Array Value} (h : Each W ds cs.toList) : relIn W (.agg ds) (.agg cs) := by
  have hl : ds.length = cs.size := by rw [h.len]; simp
  refine Rel.agg hl (fun i hi => ?_) fun i d hd => ?_
  · have hd := List.getElem?_eq_getElem (l := ds) (i := i) (by omega)
    have hc : cs.toList[i]? = some (gv cs i) := by simp [gv, hi]
    exact (h.rel i _ _ hd hc).2
  · have hi := (List.getElem?_eq_some_iff.1 hd).1
    have hc : cs.toList[i]? = some (gv cs i) := by simp [gv, show i < cs.size by omega]
    exact (h.rel i d _ hd hc).1
theorem good_map {α : Type} {c : α → List D} : ∀ {l : List (List D)}, (∀ x ∈ l, ∃ a, x = c a) → ∃ as : List α, l = as.map c
  | [], _ => ⟨[], rfl⟩
  | x :: l, h => by
    obtain ⟨a, ha⟩ := h x (List.mem_cons_self ..)
    obtain ⟨as, has⟩ := good_map fun y hy => h y (List.mem_cons_of_mem _ hy)
    exact ⟨a :: as, by rw [List.map_cons, ha, has]⟩
theorem good_sl {P : Program} {n : Nat} {t e : TypeId} {ds : List D} {α : Type} {c : α → List D} (hu : P.underlying t = some (.slice e)) (hc : ∀ x, Good P n e x → ∃ a, x = c a) (h : Good P (n + 1) t ds) :
    ∃ x : Api.Sl α, ds = [x.enc c] := by
  rw [good_slice hu] at h
  obtain ⟨rep, l, rfl, hl, hx⟩ := h
  obtain ⟨as, rfl⟩ := good_map fun x hm => hc x (hx x hm).2
  refine ⟨⟨rep, as, ?_⟩, ?_⟩
  · have : maxLen = 9223372036854775807 := by decide
    simp at hl
    show as.length ≤ 9223372036854775807
    omega
  · simp [Api.Sl.enc, List.flatMap]
end Go.Aug
