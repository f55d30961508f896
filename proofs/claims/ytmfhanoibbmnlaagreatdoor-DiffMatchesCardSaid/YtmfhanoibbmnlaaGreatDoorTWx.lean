/-
The walk of norm.key. Conditions: none.
-/
import Derived.Test.YtmfhanoibbmnlaaGreatDoorTWp
namespace Go.Proofs.YtmfhanoibbmnlaaGreatDoor.Tz
open Go.Aug Go.Aug.Api
set_option maxRecDepth 100000
theorem oN_key : tabN.orc n_q79 = none := by kernel_rfl
def predR (c : Int) (a b : TExpr) : List D := i64D c :: (exprC a ++ exprC b)
theorem predC_R (p : TPred) : predC p = predR p.cmp p.L p.R := rfl
@[simp] theorem predR_len (c : Int) (a b : TExpr) : (predR c a b).length = 15 := by simp [predR]
@[simp] theorem predR_take (c : Int) (a b : TExpr) : (predR c a b).take 15 = predR c a b := List.take_of_length_le (by simp)
@[simp] theorem predR_0 (c : Int) (a b : TExpr) : (predR c a b)[0]? = some (i64D c) := rfl
@[simp] theorem predR_0' (c : Int) (a b : TExpr) (h : 0 < (predR c a b).length) : (predR c a b)[0] = i64D c := rfl
@[simp] theorem predR_L (c : Int) (a b : TExpr) : ((predR c a b).drop 1).take 7 = exprC a := by
  show (exprC a ++ exprC b).take 7 = _
  exact List.take_left' (exprC_len a)
@[simp] theorem predR_L' (c : Int) (a b : TExpr) : (predR c a b).tail.take 7 = exprC a := predR_L c a b
@[simp] theorem predR_R (c : Int) (a b : TExpr) : ((predR c a b).drop 8).take 7 = exprC b := by
  show ((exprC a ++ exprC b).drop 7).take 7 = _
  rw [List.drop_left' (exprC_len a)]
  exact List.take_of_length_le (by rw [exprC_len]; exact Nat.le_refl _)
theorem setAll_mid' : ∀ (c z pre suf : List D), c.length = z.length → setAll (pre ++ (z ++ suf)) pre.length c = pre ++ (c ++ suf)
  | [], [], pre, suf, _ => by simp [setAll]
  | d :: c, y :: z, pre, suf, h => by
    have e : (pre ++ (y :: z ++ suf)).set pre.length d = (pre ++ [d]) ++ (z ++ suf) := by simp
    have e2 : pre.length + 1 = (pre ++ [d]).length := by simp
    rw [setAll, e, e2, setAll_mid' c z (pre ++ [d]) suf (by simpa using h)]
    simp
@[simp] theorem predR_setL (c : Int) (a b x : TExpr) : setAll (predR c a b) 1 (exprC x) = predR c x b := setAll_mid' (exprC x) (exprC a) [i64D c] (exprC b) (by simp)
@[simp] theorem predR_setR (c : Int) (a b x : TExpr) : setAll (predR c a b) 8 (exprC x) = predR c a x := by
  have := setAll_mid' (exprC x) (exprC b) (i64D c :: exprC a) [] (by simp)
  simpa [predR] using this
@[simp] theorem predR_pure (c : Int) (a b : TExpr) : D.under.underAll 0 (predR c a b) = true := by simp [predR, under_cons, under_append, under_v]
theorem predR_full (z : List D) (c : Int) (a b : TExpr) (h : z.length = 15) : setAll z 0 (predR c a b) = predR c a b := setAll_full z _ (by simp [h])
theorem predR_build (z : List D) (c : Int) (a b : TExpr) (h : z.length = 15) : setAll (setAll (setAll z 0 [i64D c]) 1 (exprC a)) 8 (exprC b) = predR c a b := by
  obtain ⟨z0, z, rfl⟩ : ∃ z0 t, z = z0 :: t := by
    cases z with
    | nil => simp at h
    | cons x t => exact ⟨x, t, rfl⟩
  have hz : z = z.take 7 ++ z.drop 7 := (List.take_append_drop 7 z).symm
  simp at h
  have e0 : setAll (z0 :: z) 0 [i64D c] = i64D c :: (z.take 7 ++ (z.drop 7 ++ [])) := by simp [setAll]
  rw [e0]
  have e1 := setAll_mid' (exprC a) (z.take 7) [i64D c] (z.drop 7 ++ []) (by simp; omega)
  simp only [List.length_cons, List.length_nil, Nat.zero_add, List.singleton_append] at e1
  rw [e1]
  have e2 := setAll_mid' (exprC b) (z.drop 7) (i64D c :: exprC a) [] (by simp; omega)
  simpa [predR] using e2
theorem predR_build2 (z : List D) (c : Int) (a b : TExpr) (h : z.length = 14) : setAll (setAll (i64D c :: z) 1 (exprC a)) 8 (exprC b) = predR c a b := by
  have := predR_build (i64D c :: z) c a b (by simp [h])
  simpa [setAll] using this
theorem setAll_len : ∀ (c z : List D) (off : Nat), (setAll z off c).length = z.length
  | [], z, off => rfl
  | d :: c, z, off => by rw [setAll, setAll_len c]; simp
theorem keyed_build (z : List D) (k : TKeyed) (h : z.length = 17) : setAll (setAll (setAll z 0 (predR k.pred.cmp k.pred.L k.pred.R)) 15 [i64D k.place]) 16 [strD k.text] = keyedC k := by
  have hz : z = [] ++ (z.take 15 ++ z.drop 15) := by simp
  have e0 := setAll_mid' (predR k.pred.cmp k.pred.L k.pred.R) (z.take 15) [] (z.drop 15) (by simp; omega)
  rw [← hz] at e0
  simp only [List.length_nil, List.nil_append] at e0
  rw [e0]
  obtain ⟨x, y, hxy⟩ : ∃ x y, z.drop 15 = [x, y] := by
    have hl : (z.drop 15).length = 2 := by simp; omega
    match z.drop 15, hl with
    | [x, y], _ => exact ⟨x, y, rfl⟩
  rw [hxy]
  have e1 := setAll_mid' [i64D k.place] [x] (predR k.pred.cmp k.pred.L k.pred.R) [y] rfl
  rw [predR_len] at e1
  have e2 := setAll_mid' [strD k.text] [y] (predR k.pred.cmp k.pred.L k.pred.R ++ [i64D k.place]) [] rfl
  rw [List.length_append, predR_len] at e2
  simp only [List.singleton_append] at e1
  rw [e1]
  simp [keyedC, predC_R]
theorem frz_one (q : TQuery) (p : TPred) {H : Heap} {r : Nat} (h : H.get r = some (.cells (predC p))) : frz2 H 0 64 (.agg [slD q.items.rep q.items.l.length (q.items.l.flatMap itemC), .rs r 0 1 (some 1) 15, i64D q.within, strD q.by_, i64D q.pick]) = some (.agg (queryC (oneQ q p))) := by
  have hq : queryC (oneQ q p) = [slD q.items.rep q.items.l.length (q.items.l.flatMap itemC), .sl 1 (predC p) (some 1), i64D q.within, strD q.by_, i64D q.pick] := by
    simp [queryC, oneQ, Sl.enc]
  rw [hq, frz2_agg _ _ _ (by simp [D.under])]
  have e0 := frz2_under H 0 62 (slD q.items.rep q.items.l.length (q.items.l.flatMap itemC)) (by simp)
  have e1 := frz2_row H 61 r 1 (some 1) 15 _ h (by simp) (by simp)
  simp only [frzL_cons, frzL_nil, e0, e1, frz2_under _ _ _ _ (rfl : (i64D _).under 0 = true), frz2_under _ _ _ _ (rfl : (strD _).under 0 = true)]
  rfl
theorem key_place {q : TQuery} {p : TPred} (hp : predX p = true) {H : Heap} {r : Nat} (h : H.get r = some (.cells (predC p))) (R : D → Heap → Prop) :
    cK tabN (.fn n_q78) [.agg [slD q.items.rep q.items.l.length (q.items.l.flatMap itemC), .rs r 0 1 (some 1) 15, i64D q.within, strD q.by_, i64D q.pick], .agg (predC p)] H R = R (i64D (placeN q.items.l p)) H := by
  refine (cK.run (cK_frozen (args' := [.agg (queryC (oneQ q p)), .agg (predC p)]) oN_Place (by simp [D.under]) ?_ (place_run (q := oneQ q p) hp H0) rfl ⟨rfl, rfl⟩)).cK R
  exact frzL_two _ _ _ _ _ (frz_one q p h) (frzL_two _ _ _ _ _ (frz2_under _ _ _ _ (by simp)) (frzL_none _))
theorem key_print {q : TQuery} {p : TPred} (hq : rightP q = true) (hp : predX p = true) {H : Heap} {r : Nat} (h : H.get r = some (.cells (predC p))) (R : D → Heap → Prop) :
    cK tabN (.fn n_q108) [.agg [slD q.items.rep q.items.l.length (q.items.l.flatMap itemC), .rs r 0 1 (some 1) 15, i64D q.within, strD q.by_, i64D q.pick]] H R = R (strD (textS q p)) H := by
  refine (cK.run (cK_print hq hp ?_ ⟨rfl, rfl⟩)).cK R
  exact frzL_two _ _ _ _ _ (frz_one q p h) (frzL_none _)
theorem keyed_build2 (z : List D) (k : TKeyed) (h : z.length = 17) : setAll (setAll (setAll z 0 (predR k.pred.cmp k.pred.L k.pred.R)) 15 [i64D k.place]) 16 [strD k.text] = keyedC k := keyed_build z k h
theorem keyed_set (z : List D) (k : TKeyed) (h : z.length = 17) : setAll z 0 (keyedC k) = keyedC k := setAll_full z _ (by rw [keyedC_len, h])
def qC (q : TQuery) (d : D) : List D := [q.items.enc itemC, d, i64D q.within, strD q.by_, i64D q.pick]
theorem norm_key_run (q : TQuery) (d : D) (p : TPred) (hq : rightP q = true) (hp : predX p = true) (H : Heap) : Run tabN (.fn n_q79) [.agg (qC q d), .agg (predC p)] H (.agg (keyedC (keyN q.items.l (textS q) p))) H := by
  refine cK.run (cK_fn oN_key (tN t_q79) (Nat.le_of_ble_eq_true rfl) (by decide) ?_)
  have hF := fun x hx H => (runN oN_Fold (by simp) (norm_Fold_run x hx H0) H).cK
  have hL := fun H => hF p.L p.okL H
  have hR := fun H => hF p.R p.okR H
  have hn := (predX_norm hp).1
  have hK := fun (H1 : Heap) (r : Nat) h R => key_place (q := q) hn (H := H1) (r := r) h R
  have hT := fun (H1 : Heap) (r : Nat) h R => key_print hq hn (H := H1) (r := r) h R
  have hB := fun z h => keyed_build2 z (keyN q.items.l (textS q) p) h
  generalize hk : keyN q.items.l (textS q) p = k at hB ⊢
  have k1 : k.place = placeN q.items.l (normP p) := by rw [← hk]; rfl
  have k2 : k.text = textS q (normP p) := by rw [← hk]; rfl
  have k3 : k.pred = normP p := by rw [← hk]; rfl
  rw [k1, k2, k3] at hB
  simp only [predC_R] at hK hT
  have hset := fun z h => keyed_set z k h
  have htk : (keyedC k).take 17 = keyedC k := List.take_of_length_le (by rw [keyedC_len]; exact Nat.le_refl _)
  have hpu : D.under.underAll 0 (keyedC k) = true := keyedC_pure k
  have hB : ∀ z : List D, z.length = 17 → ((setAll z 0 (predR (normP p).cmp (normP p).L (normP p).R)).set 15 (i64D (placeN q.items.l (normP p)))).set 16 (strD (textS q (normP p))) = keyedC k := fun z h => by simpa [setAll] using hB z h
  rw [predC_R]
  simp [qC, Sl.enc, hL, hR]
  by_cases h5 : 5 ≤ p.cmp
  · have hw : IntKind.i64.wrap (p.cmp - 2) = p.cmp - 2 := by
      unfold predX at hp
      simp only [Bool.and_eq_true, decide_eq_true_eq] at hp
      exact wrap64 (by omega) (by omega)
    have n1 : (normP p).cmp = p.cmp - 2 := by unfold normP; rw [if_pos h5]
    have n2 : (normP p).L = foldX p.R := by unfold normP; rw [if_pos h5]
    have n3 : (normP p).R = foldX p.L := by unfold normP; rw [if_pos h5]
    rw [n1, n2, n3] at hK hT hB
    simp [h5, hw, setAll_len, predR_build2, predR_full, hK, hT, keyedC_len, hB, hset, htk, hpu]
  · have n1 : (normP p).cmp = p.cmp := by unfold normP; rw [if_neg h5]
    have n2 : (normP p).L = foldX p.L := by unfold normP; rw [if_neg h5]
    have n3 : (normP p).R = foldX p.R := by unfold normP; rw [if_neg h5]
    rw [n1, n2, n3] at hK hT hB
    simp [h5, setAll_len, predR_full, hK, hT, keyedC_len, hB, hset, htk, hpu]
end Go.Proofs.YtmfhanoibbmnlaaGreatDoor.Tz

namespace Go.Proofs.YtmfhanoibbmnlaaGreatDoor.Tz
open Go.Aug Go.Aug.Api
set_option maxRecDepth 100000
def cmpN (a b : Int) : Int := if a < b then -1 else if b < a then 1 else 0
def cmpT (a b : ByteArray) : Int := if Op.bytesLess a.toList b.toList = true then -1 else if Op.bytesLess b.toList a.toList = true then 1 else 0
theorem bin_lssT (a b : ByteArray) : evBin .lss (strD a) (strD b) = some (bD (Op.bytesLess a.toList b.toList)) := rfl
theorem toList_beq (a b : ByteArray) : (a.toList == b.toList) = decide (a = b) := by
  by_cases h : a = b
  · simp [h]
  · have : ¬ a.toList = b.toList := fun e => h ((toList_inj a b).1 e)
    simp [h, this]
theorem less_self : ∀ a : List UInt8, Op.bytesLess a a = false
  | [] => rfl
  | x :: a => by simp [Op.bytesLess, less_self a]
theorem bin_gtrT (a b : ByteArray) : evBin .gtr (strD a) (strD b) = some (bD (Op.bytesLess b.toList a.toList)) := by
  have : (!(Op.bytesLess a.toList b.toList || a.toList == b.toList)) = Op.bytesLess b.toList a.toList := by
    cases h : Op.bytesLess a.toList b.toList with
    | true => simp [less_asym _ _ h]
    | false =>
      rw [toList_beq]
      by_cases e : a = b
      · subst e; simp [less_self]
      · simp [e]
        cases h2 : Op.bytesLess b.toList a.toList with
        | true => rfl
        | false => exact absurd ((toList_inj a b).1 (less_eq _ _ h h2)) e
  simp only [evBin, binStr, Option.map_some, this]
def cmpK (a b : TKeyed) : Int := if cmpN a.place b.place = 0 then cmpT a.text b.text else cmpN a.place b.place
theorem cmpK_lt (a b : TKeyed) : decide (cmpK a b < 0) = ltK a b := by
  unfold cmpK cmpN cmpT ltK
  rcases Int.lt_trichotomy a.place b.place with h | h | h
  · simp [h]
  · simp [h]
    cases c1 : Op.bytesLess a.text.toList b.text.toList <;> simp
    cases c2 : Op.bytesLess b.text.toList a.text.toList <;> simp
  · have h1 : ¬ a.place < b.place := by omega
    have h2 : ¬ a.place = b.place := by omega
    simp [h, h1, h2]
theorem keyed_15 (k : TKeyed) : (keyedC k)[15]? = some (i64D k.place) := by
  unfold keyedC
  rw [List.getElem?_append_right (by simp)]
  simp
theorem keyed_16 (k : TKeyed) : (keyedC k)[16]? = some (strD k.text) := by
  unfold keyedC
  rw [List.getElem?_append_right (by simp)]
  simp
def SortPost (H : Heap) (r : Nat) (L : List D) (_d : D) (H' : Heap) : Prop :=
  H'.next = H.next ∧ H'.get r = some (.cells L) ∧ (∀ k, k ≠ r → H'.get k = H.get k) ∧ ((H'.low = H.low ∧ H'.get r = H.get r) ∨ H'.low = if H.low < r then H.low else r)
theorem SortPost.fin {H H' : Heap} {r : Nat} {L : List D} {d : D} {fz : Bool} (hr : r < H.next) (p : SortPost (low0 H) r L d H') : finX fz H (.tup []) H' (SortPost H r L) := by
  obtain ⟨p1, p2, p3, p4⟩ := p
  simp at p1 p3 p4
  rcases p4 with ⟨p4, p5⟩ | p4
  · rw [finX_data (by omega) rfl]
    exact ⟨rfl, by rw [← p5]; exact p2, fun _ _ => rfl, .inl ⟨rfl, rfl⟩⟩
  · have hn : ¬ H.next < r := by omega
    simp [hn] at p4
    rw [finX_loud (by omega)]
    exact ⟨by simpa using p1, by simpa using p2, fun k hk => by simpa using p3 k hk, .inr (by simp [p4])⟩
theorem setAll_mid : ∀ (c z pre suf : List D), c.length = z.length → setAll (pre ++ (z ++ suf)) pre.length c = pre ++ (c ++ suf)
  | [], [], pre, suf, _ => by simp [setAll]
  | d :: c, y :: z, pre, suf, h => by
    have e : (pre ++ (y :: z ++ suf)).set pre.length d = (pre ++ [d]) ++ (z ++ suf) := by simp
    have e2 : pre.length + 1 = (pre ++ [d]).length := by simp
    rw [setAll, e, e2, setAll_mid c z (pre ++ [d]) suf (by simpa using h)]
    simp
theorem rows_load {rows pre suf : List TKeyed} {x : TKeyed} (h : rows = pre ++ x :: suf) {H : Heap} {r : Nat} (hg : H.get r = some (.cells (rows.flatMap keyedC))) : evLoad H (some 17) (.rf r (pre.length * 17)) = some (.agg (keyedC x)) := by
  subst h
  have hd := drop_zip keyedC_len pre (x :: suf)
  simp only [evLoad, cellsAt, hg, hd, pickL]
  simp [keyedC_len]
theorem rows_store {rows pre suf : List TKeyed} {x : TKeyed} (h : rows = pre ++ x :: suf) (y : TKeyed) {H : Heap} {r : Nat} (hg : H.get r = some (.cells (rows.flatMap keyedC))) : evStore H 17 (.rf r (pre.length * 17)) (.agg (keyedC y)) = some (H.set r (.cells ((pre ++ y :: suf).flatMap keyedC))) := by
  subst h
  have hl := flatMap_length keyedC_len pre
  have := setAll_mid (keyedC y) (keyedC x) (pre.flatMap keyedC) (suf.flatMap keyedC) (by rw [keyedC_len, keyedC_len])
  rw [hl] at this
  have hle : pre.length * 17 + 17 ≤ (pre ++ x :: suf).length * 17 := by simp; omega
  have hlen := flatMap_length keyedC_len (pre ++ x :: suf)
  simp only [evStore, hg, cellsOf, keyedC_len, hlen]
  rw [if_pos (by simp; omega)]
  simp only [List.flatMap_append, List.flatMap_cons, this]
theorem wrap_u64 {n : Nat} (h : n ≤ 12) : IntKind.u64.wrap (n : Int) = (n : Int) := by
  have : n = 0 ∨ n = 1 ∨ n = 2 ∨ n = 3 ∨ n = 4 ∨ n = 5 ∨ n = 6 ∨ n = 7 ∨ n = 8 ∨ n = 9 ∨ n = 10 ∨ n = 11 ∨ n = 12 := by omega
  rcases this with rfl | rfl | rfl | rfl | rfl | rfl | rfl | rfl | rfl | rfl | rfl | rfl | rfl <;> decide
end Go.Proofs.YtmfhanoibbmnlaaGreatDoor.Tz
