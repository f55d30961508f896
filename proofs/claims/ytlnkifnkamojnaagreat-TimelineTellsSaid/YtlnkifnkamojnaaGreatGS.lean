/-
What the functions of values, events and expressions say of data. Conditions: none; definitions and plain lemmas.
-/
import Derived.Test.YtlnkifnkamojnaaGreatGL
import Derived.Test.YtlnkifnkamojnaaGreatTO3
import Derived.Lib.IndexLaws
namespace Go.Aug.Api
open Go.Aug
def maxNum : Int := 1099511627776
def emptyS : ByteArray := ⟨#[]⟩
def rightV (v : TVal) : Bool :=
  if v.kind = 1 then decide (-maxNum ≤ v.n) && decide (v.n ≤ maxNum) && decide (v.s = emptyS)
  else if v.kind = 3 then decide (0 ≤ v.n) && decide (v.n ≤ 1) && decide (v.s = emptyS)
  else if v.kind = 2 then decide (v.n = 0) && decide (v.s.size ≤ 64)
  else false
abbrev VE := TVal × Int
def VE.enc (r : VE) : D := .tup [.agg (valC r.1), i64D r.2]
theorem idx_cases {α : Type} (p : α → Bool) (l : List α) : (idx p l = -1 ∧ (∀ x ∈ l, p x = false) ∧ l.find? p = none) ∨
    ∃ pre x suf, l = pre ++ x :: suf ∧ (∀ y ∈ pre, p y = false) ∧ p x = true ∧ idx p l = (pre.length : Nat) ∧ l.find? p = some x := by
  induction l with
  | nil => left; simp [idx]
  | cons y l ih =>
    cases hy : p y with
    | true => right; exact ⟨[], y, l, rfl, by simp, hy, idx_some [] y l (by simp) hy, by simp [hy]⟩
    | false =>
      rcases ih with ⟨h1, h2, h3⟩ | ⟨pre, x, suf, rfl, h1, h2, h3, h4⟩
      · left
        have : ∀ x ∈ y :: l, p x = false := by
          intro x hx
          rcases List.mem_cons.1 hx with rfl | hx
          · exact hy
          · exact h2 x hx
        exact ⟨idx_none this, this, by simp [hy, h3]⟩
      · right
        have hp : ∀ z ∈ y :: pre, p z = false := by
          intro z hz
          rcases List.mem_cons.1 hz with rfl | hz
          · exact hy
          · exact h1 z hz
        exact ⟨y :: pre, x, suf, rfl, hp, h2, idx_some (y :: pre) x suf hp h2, by simp only [List.find?_cons, hy]; exact h4⟩
end Go.Aug.Api
namespace Go.Aug.Api
open Go.Aug
structure TScope where
  l : Sl TSchema
  q : TQuery
  bound : Sl (Sl TEvent)
end Go.Aug.Api
namespace Go.Aug.Api
open Go.Aug
end Go.Aug.Api
namespace Go.Aug.Api
open Go.Aug
end Go.Aug.Api
namespace Go.Aug.Api
open Go.Aug
def okB (first : Bool) (c : Int) : Bool := (decide (97 ≤ c) && decide (c ≤ 122)) || (!first && (decide (c = 95) || (decide (48 ≤ c) && decide (c ≤ 57))))
def wordL : Bool → List UInt8 → Bool
  | _, [] => true
  | f, b :: l => okB f (b.toNat : Int) && wordL false l
def wordS (s : ByteArray) : Bool := wordL true s.data.toList && decide (1 ≤ s.size) && decide (s.size ≤ 16)
def keysL : List ByteArray := [⟨#[115, 101, 113]⟩, ⟨#[116, 104, 101, 110]⟩, ⟨#[110, 111, 116]⟩, ⟨#[111, 114]⟩, ⟨#[119, 104, 101, 114, 101]⟩, ⟨#[97, 110, 100]⟩, ⟨#[119, 105, 116, 104, 105, 110]⟩, ⟨#[98, 121]⟩, ⟨#[112, 105, 99, 107]⟩, ⟨#[97, 110, 121]⟩, ⟨#[110, 101, 120, 116]⟩, ⟨#[115, 116, 114, 105, 99, 116]⟩, ⟨#[116, 114, 117, 101]⟩, ⟨#[102, 97, 108, 115, 101]⟩, ⟨#[99, 111, 117, 110, 116]⟩, ⟨#[115, 117, 109]⟩, ⟨#[109, 105, 110]⟩, ⟨#[109, 97, 120]⟩]
def keyS (s : ByteArray) : Bool := keysL.any fun k => decide (k = s)
def nameS (s : ByteArray) : Bool := wordS s && !keyS s
theorem wordL_append (a b : List UInt8) (f : Bool) : wordL f (a ++ b) = (wordL f a && wordL (f && a.isEmpty) b) := by
  induction a generalizing f with
  | nil => simp [wordL]
  | cons x a ih => simp [wordL, ih, Bool.and_assoc]
theorem idxS_zip (s : ByteArray) (pre : List UInt8) (b : UInt8) (suf : List UInt8) (h : s.data.toList = pre ++ b :: suf) (k : IntKind) : evIdxS (strD s) (.v (.int k (pre.length : Nat))) = some (.v (.int .u8 (b.toNat : Nat))) := by
  have hs : s.data[pre.length]? = some b := by
    rw [← Array.getElem?_toList, h]
    simp
  have hlt : pre.length < s.data.size := (Array.getElem?_eq_some_iff.1 hs).1
  have : s[pre.length]? = some b := by
    rw [getElem?_pos s pre.length hlt]
    have := (Array.getElem?_eq_some_iff.1 hs).2
    exact congrArg some this
  simp only [evIdxS]
  rw [if_pos (by omega), Int.toNat_natCast, this]
theorem size_list (s : ByteArray) : s.size = s.data.toList.length := by rw [Array.length_toList]; rfl
def plainL : List UInt8 → Bool
  | [] => true
  | b :: l => !(decide ((b.toNat : Int) < 32) || decide (126 < (b.toNat : Int)) || decide ((b.toNat : Int) = 39)) && plainL l
mutual
def rightE : Int → TExpr → Bool
  | most, .mk k v var f _ kids =>
    if most < 1 ∨ (¬ (k = 7 ∨ k = 8) ∧ kids ≠ []) ∨ (k ≠ 1 ∧ v ≠ zVal) then false
    else if k = 2 ∨ k = 4 ∨ k = 5 ∨ k = 6 then nameS var && nameS f
    else if k = 3 then nameS var && decide (f = emptyS)
    else if var ≠ emptyS ∨ f ≠ emptyS then false
    else if k = 7 ∨ k = 8 then rightTwo (most - 1) kids
    else plainL v.s.data.toList && (decide (k = 1) && rightV v)
def rightTwo : Int → List TExpr → Bool
  | most, [a, b] => rightE most a && rightE most b
  | _, _ => false
end
def namesOk : List ByteArray → List ByteArray → Bool
  | _, [] => true
  | pre, s :: l => nameS s && !(pre.any fun p => decide (p = s)) && namesOk (pre ++ [s]) l
def rightItem (x : TItem) (first : Bool) : Bool :=
  if nameS x.var = false ∨ x.names.l.length < 1 ∨ 3 < x.names.l.length ∨ x.mode < 1 ∨ 3 < x.mode then false
  else if namesOk [] x.names.l = false then false
  else if first = true ∧ (x.not = true ∨ x.mode = 3) then false
  else !x.not || decide (x.mode = 1)
def itemsOk : List TItem → List TItem → Bool
  | _, [] => true
  | pre, x :: l => rightItem x pre.isEmpty && !(pre.any fun p => decide (p.var = x.var)) && itemsOk (pre ++ [x]) l
def predOk (p : TPred) : Bool := decide (1 ≤ p.cmp) && decide (p.cmp ≤ 6) && rightE 6 p.L && rightE 6 p.R
def rightQ (q : TQuery) : Bool :=
  if q.items.l.length < 1 ∨ 6 < q.items.l.length ∨ 8 < q.preds.l.length then false
  else itemsOk [] q.items.l && q.preds.l.all predOk &&
    (decide (0 ≤ q.within) && decide (q.within ≤ maxNum) && (decide (q.by_ = emptyS) || nameS q.by_) && decide (1 ≤ q.pick) && decide (q.pick ≤ 3))
end Go.Aug.Api
namespace Go.Aug.Api
open Go.Aug
theorem index_pos_iff : ∀ (s sub : List UInt8), 0 ≤ Lib.index s sub ↔ ∃ j, j ≤ s.length ∧ Lib.occAt s sub j = true := by
  intro s sub
  constructor
  · intro h
    refine Classical.byContradiction fun hn => ?_
    have : Lib.index s sub = -1 := Lib.index_none fun j hj => by
      cases ho : Lib.occAt s sub j with
      | false => rfl
      | true => exact absurd ⟨j, hj, ho⟩ hn
    omega
  · rintro ⟨j, hj, ho⟩
    -- the first one
    have : ∀ n, n ≤ s.length → Lib.occAt s sub n = true → ∃ i, i ≤ n ∧ Lib.occAt s sub i = true ∧ ∀ k, k < i → Lib.occAt s sub k = false := by
      intro n
      induction n using Nat.strongRecOn with
      | ind n ih =>
        intro hn h
        by_cases hx : ∃ k, k < n ∧ Lib.occAt s sub k = true
        · obtain ⟨k, hk, hk2⟩ := hx
          obtain ⟨i, h1, h2, h3⟩ := ih k hk (by omega) hk2
          exact ⟨i, by omega, h2, h3⟩
        · refine ⟨n, Nat.le_refl _, h, fun k hk => ?_⟩
          cases ho : Lib.occAt s sub k with
          | false => rfl
          | true => exact absurd ⟨k, hk, ho⟩ hx
    obtain ⟨i, h1, h2, h3⟩ := this j hj ho
    rw [Lib.index_first (by omega) h2 h3]
    omega
def keysK : List UInt8 := [32, 115, 101, 113, 32, 116, 104, 101, 110, 32, 110, 111, 116, 32, 111, 114, 32, 119, 104, 101, 114, 101, 32, 97, 110, 100, 32, 119, 105, 116, 104, 105, 110, 32, 98, 121, 32, 112, 105, 99, 107, 32, 97, 110, 121, 32, 110, 101, 120, 116, 32, 115, 116, 114, 105, 99, 116, 32, 116, 114, 117, 101, 32, 102, 97, 108, 115, 101, 32, 99, 111, 117, 110, 116, 32, 115, 117, 109, 32, 109, 105, 110, 32, 109, 97, 120, 32]
theorem occ_space (w : List UInt8) : (0 ≤ Lib.index w [32]) ↔ (32 : UInt8) ∈ w := by
  rw [index_pos_iff]
  constructor
  · rintro ⟨j, -, h⟩
    have := Lib.occAt_head (s := w) (sub := [32]) (i := j) (c := 32) (t := []) rfl h
    exact List.mem_of_getElem? this
  · intro h
    obtain ⟨j, hj, e⟩ := List.getElem_of_mem h
    refine ⟨j, by omega, ?_⟩
    rw [Lib.occAt_iff_take _ _ _ (by simp; omega)]
    rw [List.drop_eq_getElem_cons hj, e]
    simp
def keysB : List (List UInt8) := keysL.map fun k => k.data.toList
theorem keys_only : ∀ j, j < 87 → ∀ n, n < 17 → (keysK[j]? = some 32 ∧ keysK[j + n + 1]? = some 32 ∧ ((keysK.drop (j + 1)).take n).all (fun b => b != 32) = true ∧ n ≠ 0) → keysB.contains ((keysK.drop (j + 1)).take n) = true := by decide +kernel
theorem keys_all : ∀ k ∈ keysB, 0 ≤ Lib.index keysK (32 :: (k ++ [32])) := by decide +kernel
theorem keys_plain : ∀ k ∈ keysB, (32 : UInt8) ∉ k ∧ k ≠ [] := by decide +kernel
theorem keyB_iff (w : List UInt8) (hw : w.length ≤ 16) : (w ≠ [] ∧ (32 : UInt8) ∉ w ∧ 0 ≤ Lib.index keysK (32 :: (w ++ [32]))) ↔ w ∈ keysB := by
  constructor
  · rintro ⟨h1, h2, h3⟩
    obtain ⟨j, hj, ho⟩ := (index_pos_iff _ _).1 h3
    have hr := (Lib.occAt_room ho).resolve_right (by simp)
    have hK : keysK.length = 87 := by decide
    simp only [List.length_cons, List.length_append, List.length_nil] at hr
    rw [Lib.occAt_iff_take _ _ _ (by simp only [List.length_cons, List.length_append, List.length_nil]; omega)] at ho
    have ho' : (keysK.drop j).take (w.length + 2) = 32 :: (w ++ [32]) := by
      have := eq_of_beq ho
      simpa using this
    have g0 : keysK[j]? = some 32 := by
      have := congrArg (fun l => l[0]?) ho'
      simpa [List.getElem?_take, List.getElem?_drop] using this
    have gi : ∀ i, i < w.length → keysK[j + 1 + i]? = w[i]? := by
      intro i hi
      have := congrArg (fun l => l[i + 1]?) ho'
      simp [List.getElem?_take, List.getElem?_drop, List.getElem?_append_left hi] at this
      rw [if_pos (by omega)] at this
      rw [show j + 1 + i = j + (i + 1) by omega]
      exact this
    have gn : keysK[j + w.length + 1]? = some 32 := by
      have := congrArg (fun l => l[w.length + 1]?) ho'
      simp [List.getElem?_take, List.getElem?_drop] at this
      rw [show j + w.length + 1 = j + (w.length + 1) by omega]
      exact this
    have ew : (keysK.drop (j + 1)).take w.length = w := by
      apply List.ext_getElem?
      intro i
      rw [List.getElem?_take]
      split
      · rename_i hi
        rw [List.getElem?_drop]
        exact gi i hi
      · rename_i hi
        rw [List.getElem?_eq_none (by omega)]
    have := keys_only j (by omega) w.length (by omega) ⟨g0, gn, by
      rw [ew, List.all_eq_true]
      intro b hb
      simp only [bne_iff_ne, ne_eq]
      rintro rfl
      exact h2 hb, fun h => h1 (List.eq_nil_of_length_eq_zero h)⟩
    rw [ew] at this
    exact List.contains_iff_mem.1 this
  · intro h
    exact ⟨(keys_plain w h).2, (keys_plain w h).1, keys_all w h⟩
theorem keyS_iff (w : ByteArray) : keyS w = true ↔ w.data.toList ∈ keysB := by
  unfold keyS keysB
  rw [List.any_eq_true, List.mem_map]
  constructor
  · rintro ⟨k, hk, e⟩
    exact ⟨k, hk, by rw [of_decide_eq_true e]⟩
  · rintro ⟨k, hk, e⟩
    refine ⟨k, hk, decide_eq_true ?_⟩
    obtain ⟨⟨k⟩⟩ := k
    obtain ⟨⟨w⟩⟩ := w
    simp at e
    subst e
    rfl
end Go.Aug.Api
namespace Go.Aug.Api
open Go.Aug
end Go.Aug.Api
namespace Go.Aug.Api
open Go.Aug
mutual
def rightX : Int → TExpr → Bool
  | most, .mk k v var f _ kids =>
    if most = 0 then false
    else if k = 1 then decide (var = emptyS) && decide (f = emptyS) && kids.isEmpty && rightV v && plainL v.s.data.toList
    else if k = 3 then decide (v = zVal) && kids.isEmpty && nameS var && decide (f = emptyS)
    else if 2 ≤ k ∧ k ≤ 6 then decide (v = zVal) && kids.isEmpty && nameS var && nameS f
    else if k = 7 ∨ k = 8 then decide (var = emptyS) && decide (f = emptyS) && decide (v = zVal) && rightTwoX (most - 1) kids
    else false
def rightTwoX : Int → List TExpr → Bool
  | most, [a, b] => rightX most a && rightX most b
  | _, _ => false
end
def predX (p : TPred) : Bool := decide (1 ≤ p.cmp) && decide (p.cmp ≤ 6) && rightX 6 p.L && rightX 6 p.R
def rightP (q : TQuery) : Bool :=
  itemsOk [] q.items.l && q.preds.l.all predX && !(decide (q.items.l.length = 0) || decide (6 < q.items.l.length) || decide (8 < q.preds.l.length)) &&
    !(decide (q.within < 0) || decide (maxNum < q.within) || decide (q.pick < 1) || decide (3 < q.pick)) && (decide (q.by_ = emptyS) || nameS q.by_)
end Go.Aug.Api
namespace Go.Aug
def encT (m : List (ByteArray × Int)) : List (D × D) := m.map fun p => (strD p.1, i64D p.2)
theorem find_encT (k : ByteArray) : ∀ (m : List (ByteArray × Int)) (i : Nat), findD .text (strD k) (encT m) i = some ((m.findIdx? fun p => decide (p.1 = k)).map (· + i))
  | [], i => rfl
  | (a, b) :: m, i => by
    have ih := find_encT k m (i + 1)
    have e : eqM .text (strD k) (strD a) = some (k.toList == a.toList) := rfl
    simp only [encT, List.map_cons, findD, e]
    by_cases h : a = k
    · subst h
      simp [List.findIdx?_cons]
    · have h' : (k.toList == a.toList) = false := by
        rw [beq_eq_false_iff_ne]
        exact fun e => h ((toList_inj k a).1 e).symm
      rw [h']
      simp only [List.findIdx?_cons, h, decide_false]
      have : (List.map (fun p : ByteArray × Int => (strD p.1, i64D p.2)) m) = encT m := rfl
      rw [this, ih]
      cases m.findIdx? fun p => decide (p.1 = k) with
      | none => rfl
      | some j => simp; omega
def countT (m : List (ByteArray × Int)) (k : ByteArray) : Int := match m.find? (fun p => decide (p.1 = k)) with
  | some p => p.2
  | none => 0
theorem look_encT {H : Heap} {r : Nat} {m : List (ByteArray × Int)} (hg : H.get r = some (.map (encT m))) (k : ByteArray) : evMlook H .text (i64D 0) false (.mp r) (strD k) = some (i64D (countT m k)) := by
  have hk : keyOk .text (strD k) = true := rfl
  simp only [evMlook, mapAt, hg, hk, if_true, find_encT]
  unfold countT
  cases h : m.findIdx? fun p => decide (p.1 = k) with
  | none =>
    have : m.find? (fun p => decide (p.1 = k)) = none := by
      rw [List.find?_eq_none]
      intro x hx
      simpa using (List.findIdx?_eq_none_iff.1 h) x hx
    simp [this]
  | some i =>
    obtain ⟨hi, h1, h2⟩ := List.findIdx?_eq_some_iff_getElem.1 h
    have hf : m.find? (fun p => decide (p.1 = k)) = some m[i] := by
      rw [List.find?_eq_some_iff_getElem]
      exact ⟨by simpa using h1, i, hi, rfl, fun j hj => by have := h2 j hj; simpa using this⟩
    simp [hf, encT, hi]
def putT (m : List (ByteArray × Int)) (k : ByteArray) (x : Int) : List (ByteArray × Int) := match m.findIdx? fun p => decide (p.1 = k) with
  | none => m ++ [(k, x)]
  | some i => m.set i (k, x)
theorem put_encT {H : Heap} {r : Nat} {m : List (ByteArray × Int)} (hg : H.get r = some (.map (encT m))) (k : ByteArray) (x : Int) : evMput H .text (.mp r) (strD k) (i64D x) = some (H.set r (.map (encT (putT m k x)))) := by
  have hk : keyOk .text (strD k) = true := rfl
  simp only [evMput, hg, hk, if_true, find_encT, putT]
  cases h : m.findIdx? fun p => decide (p.1 = k) with
  | none => simp [encT]
  | some i => simp [encT, List.map_set]
theorem count_putT (m : List (ByteArray × Int)) (k : ByteArray) (x : Int) (v : ByteArray) : countT (putT m k x) v = if v = k then x else countT m v := by
  unfold putT
  cases h : m.findIdx? fun p => decide (p.1 = k) with
  | none =>
    have hn := List.findIdx?_eq_none_iff.1 h
    unfold countT
    rw [List.find?_append]
    by_cases hv : v = k
    · subst hv
      have : m.find? (fun p => decide (p.1 = v)) = none := by rw [List.find?_eq_none]; intro y hy; simpa using hn y hy
      simp [this]
    · have hv' : ¬ k = v := fun e => hv e.symm
      cases m.find? (fun p => decide (p.1 = v)) <;> simp [hv, hv']
  | some i =>
    obtain ⟨hi, h1, h2⟩ := List.findIdx?_eq_some_iff_getElem.1 h
    simp only [decide_eq_true_eq] at h1 h2
    have hs : m = m.take i ++ m[i] :: m.drop (i + 1) := by rw [List.getElem_cons_drop, List.take_append_drop]
    have hset : m.set i (k, x) = m.take i ++ (k, x) :: m.drop (i + 1) := by rw [List.set_eq_take_append_cons_drop]; simp [hi]
    have hpre : ∀ v, v = k → (m.take i).find? (fun p => decide (p.1 = v)) = none := fun v hv => by
      subst hv
      rw [List.find?_eq_none]
      intro y hy
      obtain ⟨j, hj, rfl⟩ := List.getElem_of_mem hy
      simp only [List.length_take] at hj
      have := h2 j (by omega)
      simpa using this
    unfold countT
    show (match List.find? _ (m.set i (k, x)) with | some p => p.2 | none => 0) = _
    rw [hset]
    conv => rhs; rw [hs]
    simp only [List.find?_append, List.find?_cons]
    by_cases hv : v = k
    · subst hv
      simp [hpre v rfl]
    · have hv' : ¬ k = v := fun e => hv e.symm
      have hv2 : ¬ m[i].1 = v := by rw [h1]; exact hv'
      simp [hv, hv', hv2]
end Go.Aug
