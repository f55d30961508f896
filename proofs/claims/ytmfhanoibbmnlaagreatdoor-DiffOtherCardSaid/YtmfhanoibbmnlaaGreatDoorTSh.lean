/-
Right queries, as the program and as the reference say it, are the same. Conditions: none; plain lemmas.
-/
import Derived.Test.YtmfhanoibbmnlaaGreatDoorTWp
import Derived.Test.YtmfhanoibbmnlaaGreatDoorGU
namespace Go.Aug.Api
open Go.Aug
theorem rightE_eq : ∀ (x : TExpr) (n : Nat), rightE n x = rightX n x
  | .mk k v var f rep kids, n => by
    have ih : ∀ x ∈ kids, ∀ n : Nat, rightE n x = rightX n x := fun x _ n => rightE_eq x n
    unfold rightE rightX
    by_cases m0 : (n : Int) = 0
    · rw [if_pos (.inl (by omega)), if_pos m0]
    rw [if_neg m0]
    have n1 : ¬ (n : Int) < 1 := by omega
    obtain ⟨m, rfl⟩ : ∃ m, n = m + 1 := ⟨n - 1, by omega⟩
    have hm : ((m + 1 : Nat) : Int) - 1 = (m : Nat) := by omega
    rw [hm]
    have h2 : rightTwo m kids = rightTwoX m kids := by
      match kids, ih with
      | [a, b], ih => simp only [rightTwo, rightTwoX, ih a (by simp) m, ih b (by simp) m]
      | [], _ => rfl
      | [_], _ => rfl
      | _ :: _ :: _ :: _, _ => rfl
    rw [h2]
    have n2 : (1 : Int) ≤ (m : Int) + 1 := by omega
    have n3 : decide ((m : Int) + 1 < 1) = false := by simp; omega
    by_cases k1 : k = 1
    · subst k1
      cases kids with
      | nil =>
        by_cases v1 : var = emptyS <;> by_cases v2 : f = emptyS <;> simp [n1, n2, n3, v1, v2, Bool.and_comm]
      | cons a l => simp [n1, n2]
    · by_cases k3 : k = 3
      · subst k3
        cases kids with
        | nil => by_cases v1 : v = zVal <;> simp [n1, n2, n3, v1]
        | cons a l => simp [n1, n2]
      · by_cases k26 : 2 ≤ k ∧ k ≤ 6
        · have k26' : k = 2 ∨ k = 4 ∨ k = 5 ∨ k = 6 := by omega
          have k7 : ¬ (k = 7 ∨ k = 8) := by omega
          rw [if_neg k1, if_neg k3, if_pos k26, if_pos k26']
          cases kids with
          | nil => by_cases v1 : v = zVal <;> simp [n1, n2, n3, v1, k1, k3]
          | cons a l => rw [if_pos (.inr (.inl ⟨k7, by simp⟩))]; simp
        · have k26' : ¬ (k = 2 ∨ k = 4 ∨ k = 5 ∨ k = 6) := by omega
          rw [if_neg k1, if_neg k3, if_neg k26, if_neg k26']
          by_cases k7 : k = 7 ∨ k = 8
          · simp only [if_pos k7]
            by_cases v1 : v = zVal <;> by_cases v2 : var = emptyS <;> by_cases v3 : f = emptyS <;> simp [n1, n2, n3, v1, v2, v3, k1, k7, k3]
          · simp only [if_neg k7]
            split
            · rfl
            · split
              · rfl
              · simp [k1]
theorem rightQ_eq (q : TQuery) : rightQ q = rightP q := by
  unfold rightQ rightP
  have hp : q.preds.l.all predOk = q.preds.l.all predX := by
    congr 1
    funext p
    unfold predOk predX
    have h1 := rightE_eq p.L 6
    have h2 := rightE_eq p.R 6
    have e : ((6 : Nat) : Int) = 6 := rfl
    rw [e] at h1 h2
    rw [h1, h2]
  rw [hp]
  by_cases c : q.items.l.length < 1 ∨ 6 < q.items.l.length ∨ 8 < q.preds.l.length
  · rw [if_pos c]
    rcases c with c | c | c
    · have : decide (q.items.l.length = 0) = true := decide_eq_true (by omega)
      rw [this]; simp
    · have : decide (6 < q.items.l.length) = true := by simpa using c
      rw [this]; simp
    · have : decide (8 < q.preds.l.length) = true := by simpa using c
      rw [this]; simp
  · rw [if_neg c]
    have e1 : decide (q.items.l.length = 0) = false := by rw [decide_eq_false_iff_not]; omega
    have e2 : decide (6 < q.items.l.length) = false := by rw [decide_eq_false_iff_not]; omega
    have e3 : decide (8 < q.preds.l.length) = false := by rw [decide_eq_false_iff_not]; omega
    rw [e1, e2, e3]
    have f1 : decide (0 ≤ q.within) = !decide (q.within < 0) := by rw [← decide_not]; congr 1; simp
    have f2 : decide (q.within ≤ maxNum) = !decide (maxNum < q.within) := by rw [← decide_not]; congr 1; simp
    have f3 : decide (1 ≤ q.pick) = !decide (q.pick < 1) := by rw [← decide_not]; congr 1; simp
    have f4 : decide (q.pick ≤ 3) = !decide (3 < q.pick) := by rw [← decide_not]; congr 1; simp
    rw [f1, f2, f3, f4]
    cases itemsOk [] q.items.l <;> cases q.preds.l.all predX <;> cases decide (q.within < 0) <;> cases decide (maxNum < q.within) <;> cases decide (q.pick < 1) <;> cases decide (3 < q.pick) <;> simp
end Go.Aug.Api

namespace Go.Proofs.YtmfhanoibbmnlaaGreatDoor.Tz
open Go.Aug Go.Aug.Api
set_option maxRecDepth 100000
def jT (sep : ByteArray) (l : List ByteArray) : ByteArray := ⟨(joinB l sep).toArray⟩
def seqB : ByteArray := ⟨#[115, 101, 113, 32]⟩
def whereB : ByteArray := ⟨#[32, 119, 104, 101, 114, 101, 32]⟩
def withinB : ByteArray := ⟨#[32, 119, 105, 116, 104, 105, 110, 32]⟩
def byB : ByteArray := ⟨#[32, 98, 121, 32]⟩
def pickkB : ByteArray := ⟨#[32, 112, 105, 99, 107, 32]⟩
def itemsT (l : List TItem) : ByteArray := seqB ++ jT thenB (l.map itemW)
def predsT (l : List TPred) : ByteArray := match l with
  | [] => ⟨#[]⟩
  | p :: l => whereB ++ jT andB ((p :: l).map predS)
def tailT (q : TQuery) : ByteArray := withinB ++ ⟨(Lib.itoa q.within).toArray⟩ ++ (if q.by_ = ⟨#[]⟩ then ⟨#[]⟩ else byB ++ q.by_) ++ pickkB ++ pickW q.pick
def textR (q : TQuery) : ByteArray := itemsT q.items.l ++ predsT q.preds.l ++ tailT q
structure PrintAt (q : TQuery) (b : Nat) (B : ByteArray) (E : Fr) (H : Heap) : Prop where
  e1 : E 1 = .rf b 0
  e3 : E 3 = strD B
  g : H.get b = some (.cells (queryC q))
  lb : b < H.next
  lo : b ≤ H.low
  lh : H.low ≤ H.next
end Go.Proofs.YtmfhanoibbmnlaaGreatDoor.Tz

namespace Go.Proofs.YtmfhanoibbmnlaaGreatDoor.Tz
open Go.Aug Go.Aug.Api
set_option maxRecDepth 100000
theorem joined_Preds_run (l : Sl TPred) (hl : l.l.length ≤ 8) (hr : ∀ x ∈ l.l, predX x = true) (H : Heap) : Run tab (.fn n_q108) [l.enc predC, strD ⟨#[32, 97, 110, 100, 32]⟩, .fn (.func n_q102) [] []] H (strD ⟨(joinB (l.l.map predS) ⟨#[32, 97, 110, 100, 32]⟩).toArray⟩) H := by
  refine cK.run (cK_fn o_q108 t_q108 (Nat.le_of_ble_eq_true rfl) (by decide) ?_)
  have hsz : ∀ x ∈ l.l.map predS, x.size ≤ 100000 := fun x hx => by
    obtain ⟨y, hy, rfl⟩ := List.mem_map.1 hx
    have := pred_size (hr y hy)
    omega
  have hj := join_size (l.l.map predS) ⟨#[32, 97, 110, 100, 32]⟩ 100000 hsz
  have h6 : (⟨#[32, 97, 110, 100, 32]⟩ : ByteArray).size = 5 := rfl
  rw [h6, List.length_map] at hj
  have hj' : (joinB (l.l.map predS) ⟨#[32, 97, 110, 100, 32]⟩).length ≤ 1000000 := by omega
  have hfull2 : ∀ (z : List D) (p : TPred), z.length = 15 → setAll z 0 (predC p) = predC p := fun z p h => setAll_full z _ (by rw [predC_len, h])
  simp [Sl.enc]
  refine LR_rule (WR_mono _) (fun j E H' => ∃ pre suf, l.l = pre ++ suf ∧ j = suf.length ∧ E 1 = strD ⟨#[32, 97, 110, 100, 32]⟩ ∧ E 2 = .fn (.func n_q102) [] [] ∧ Own ((pre.map predS).map strD) pre.length 1 H.next H' (E 7) ∧ E 10 = l.enc predC ∧ E 11 = i64D l.l.length ∧ E 12 = i64D pre.length ∧ H.next ≤ H'.low ∧ H'.low ≤ H'.next ∧ H.next ≤ H'.next) ?_ (j := l.l.length) ⟨[], l.l, rfl, rfl, by simp, by simp, .inl ⟨rfl, rfl, by simp⟩, by simp [Sl.enc], by simp, by simp, by simp, by simp, by simp⟩
  rintro j E H' ⟨pre, suf, h0, rfl, e1, e2, ho, e10, e11, e12, w1, w2, w3⟩
  cases suf with
  | nil =>
    simp at h0
    have hlt' : ((pre.length : Int) < (l.l.length : Int)) = False := by simp [h0]
    have hf : firstD H' false 1 (E 7) = some (pre.length, (pre.map predS).map strD) := by
      rcases ho with ⟨h1, h2, h3⟩ | ⟨h1, r, h2, -, -, h3⟩
      · rw [h3, h1, h2]; rfl
      · rw [h2]
        have : ((pre.map predS).map strD).take pre.length = (pre.map predS).map strD := List.take_of_length_le (by simp)
        simp only [firstD, h3, List.length_map, Nat.mul_one, Nat.zero_add, Nat.le_refl, if_true, List.drop_zero, this]
    rw [← h0] at hf
    have hJ := (Join_run (l.l.map predS) ⟨#[32, 97, 110, 100, 32]⟩ (E 7) H' _ hf (by simp; omega) hj').cK
    simp [e1, e11, e12, hlt', hJ, w1]
  | cons x suf =>
    have hlt : pre.length < l.l.length := by simp [h0]
    have hlt' : ((pre.length : Int) < (l.l.length : Int)) = True := by simp; omega
    have ea := elem_at predC_len l.rep l.l .i64 pre.length x (by rw [h0]; simp)
    have hb := hr x (by rw [h0]; simp)
    have hP := fun H => (Print_2_run x hb H).cK
    have hw : IntKind.i64.wrap ((pre.length : Int) + 1) = (pre.length : Int) + 1 := wrap64 (by omega) (by omega)
    have hx4 : (predC x).take 15 = predC x := List.take_of_length_le (by rw [predC_len]; exact Nat.le_refl _)
    simp [Sl.enc, e1, e2, e10, e11, e12, hlt', ea, load_elem _ _ _ _ (predC_len x), hfull2, w2, hx4, hP]
    refine own_app (b := H.next) (lo := H.next) (L := (pre.map predS).map strD) (X := [strD (predS x)]) (ho.mono (by simp) fun q h1 h2 => ?_) rfl (by simp) (by omega) (by decide) (by simp) (by simpa using w1) (by simp; omega) (by simp; omega) (Nat.le_refl _) _ fun d' H2 o2 n2 l2 l3 g2 => ?_
    · have q1 : (q = H'.next) = False := by simp; omega
      have q2 : (q = H'.next + 1) = False := by simp; omega
      simp [q1, q2]
    · simp [e1, e2, e10, e11, e12, hw]
      refine ⟨suf.length, by omega, pre ++ [x], suf, by simp [h0], rfl, by simpa using o2, by simp [Sl.enc], l2, l3, by simp at n2; omega⟩
end Go.Proofs.YtmfhanoibbmnlaaGreatDoor.Tz

namespace Go.Aug.Api
open Go.Aug
mutual
def sameX : TExpr → TExpr → Bool
  | .mk k v var f _ kids, .mk k' v' var' f' _ kids' => decide (k = k') && decide (v = v') && decide (var = var') && decide (f = f') && decide (kids.length = kids'.length) && sameXs kids kids'
def sameXs : List TExpr → List TExpr → Bool
  | a :: l, b :: m => sameX a b && sameXs l m
  | _, _ => true
end
def sameP (a b : TPred) : Bool := decide (a.cmp = b.cmp) && sameX a.L b.L && sameX a.R b.R
def samePs : List TPred → List TPred → Bool
  | a :: l, b :: m => sameP a b && samePs l m
  | _, _ => true
theorem sameX_written : ∀ x y : TExpr, sameX x y = true → writtenS x = writtenS y ∧ x.kind = y.kind
  | .mk k v var f rep kids, .mk k' v' var' f' rep' kids', h => by
    have ih : ∀ x ∈ kids, ∀ y, sameX x y = true → writtenS x = writtenS y ∧ x.kind = y.kind := fun x _ y h => sameX_written x y h
    simp only [sameX, Bool.and_eq_true, decide_eq_true_eq] at h
    obtain ⟨⟨⟨⟨⟨rfl, rfl⟩, rfl⟩, rfl⟩, hl⟩, hk⟩ := h
    refine ⟨?_, rfl⟩
    have two : writtenTwo k kids = writtenTwo k kids' := by
      match kids, kids', hl, hk, ih with
      | [], [], _, _, _ => rfl
      | [_], [_], _, _, _ => rfl
      | [a, b], [a', b'], _, hk, ih =>
        simp only [sameXs, Bool.and_eq_true] at hk
        obtain ⟨h1, -⟩ := ih a (by simp) a' hk.1
        obtain ⟨h2, h3⟩ := ih b (by simp) b' hk.2.1
        simp only [writtenTwo, h1, h2, h3]
      | _ :: _ :: _ :: _, _ :: _ :: _ :: _, _, _, _ => rfl
      | [], _ :: _, hl, _, _ => simp at hl
      | _ :: _, [], hl, _, _ => simp at hl
      | [_], _ :: _ :: _, hl, _, _ => simp at hl
      | _ :: _ :: _, [_], hl, _, _ => simp at hl
      | [_, _], _ :: _ :: _ :: _, hl, _, _ => simp at hl
      | _ :: _ :: _ :: _, [_, _], hl, _, _ => simp at hl
    simp only [writtenS, two]
theorem sameP_text {a b : TPred} (h : sameP a b = true) : predS a = predS b := by
  simp only [sameP, Bool.and_eq_true, decide_eq_true_eq] at h
  unfold predS
  rw [(sameX_written _ _ h.1.2).1, (sameX_written _ _ h.2).1, h.1.1]
end Go.Aug.Api
