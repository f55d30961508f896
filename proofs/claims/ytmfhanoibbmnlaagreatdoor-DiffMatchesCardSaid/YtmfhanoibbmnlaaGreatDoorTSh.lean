/-
Right queries, as the program and as the reference say it, are the same. Conditions: none; plain lemmas.
-/
import Derived.Test.YtmfhanoibbmnlaaGreatDoorTWp
import Derived.Test.YtmfhanoibbmnlaaGreatDoorGU
namespace Go.Aug.Api
open Go.Aug
theorem rightE_eq : ∀ (x : TExpr) (n : Nat), rightE n x = rightX n x
  | .mk k v var f rep kids, n => by
    have ih : ∀ x ∈ kids, ∀ n : Nat, rightE n x = rightX n x := fun x _ n => rightE_eq x n
    unfold rightE rightX
    by_cases m0 : (n : Int) = 0
    · rw [if_pos (.inl (by omega)), if_pos m0]
    rw [if_neg m0]
    have n1 : ¬ (n : Int) < 1 := by omega
    obtain ⟨m, rfl⟩ : ∃ m, n = m + 1 := ⟨n - 1, by omega⟩
    have hm : ((m + 1 : Nat) : Int) - 1 = (m : Nat) := by omega
    rw [hm]
    have h2 : rightTwo m kids = rightTwoX m kids := by
      match kids, ih with
      | [a, b], ih => simp only [rightTwo, rightTwoX, ih a (by simp) m, ih b (by simp) m]
      | [], _ => rfl
      | [_], _ => rfl
      | _ :: _ :: _ :: _, _ => rfl
    rw [h2]
    have n2 : (1 : Int) ≤ (m : Int) + 1 := by omega
    have n3 : decide ((m : Int) + 1 < 1) = false := by simp; omega
    by_cases k1 : k = 1
    · subst k1
      cases kids with
      | nil =>
        by_cases v1 : var = emptyS <;> by_cases v2 : f = emptyS <;> simp [n1, n2, n3, v1, v2, Bool.and_comm]
      | cons a l => simp [n1, n2]
    · by_cases k3 : k = 3
      · subst k3
        cases kids with
        | nil => by_cases v1 : v = zVal <;> simp [n1, n2, n3, v1]
        | cons a l => simp [n1, n2]
      · by_cases k26 : 2 ≤ k ∧ k ≤ 6
        · have k26' : k = 2 ∨ k = 4 ∨ k = 5 ∨ k = 6 := by omega
          have k7 : ¬ (k = 7 ∨ k = 8) := by omega
          rw [if_neg k1, if_neg k3, if_pos k26, if_pos k26']
          cases kids with
          | nil => by_cases v1 : v = zVal <;> simp [n1, n2, n3, v1, k1, k3]
          | cons a l => rw [if_pos (.inr (.inl ⟨k7, by simp⟩))]; simp
        · have k26' : ¬ (k = 2 ∨ k = 4 ∨ k = 5 ∨ k = 6) := by omega
          rw [if_neg k1, if_neg k3, if_neg k26, if_neg k26']
          by_cases k7 : k = 7 ∨ k = 8
          · simp only [if_pos k7]
            by_cases v1 : v = zVal <;> by_cases v2 : var = emptyS <;> by_cases v3 : f = emptyS <;> simp [n1, n2, n3, v1, v2, v3, k1, k7, k3]
          · simp only [if_neg k7]
            split
            · rfl
            · split
              · rfl
              · simp [k1]
theorem rightQ_eq (q : TQuery) : rightQ q = rightP q := by
  unfold rightQ rightP
  have hp : q.preds.l.all predOk = q.preds.l.all predX := by
    congr 1
    funext p
    unfold predOk predX
    have h1 := rightE_eq p.L 6
    have h2 := rightE_eq p.R 6
    have e : ((6 : Nat) : Int) = 6 := rfl
    rw [e] at h1 h2
    rw [h1, h2]
  rw [hp]
  by_cases c : q.items.l.length < 1 ∨ 6 < q.items.l.length ∨ 8 < q.preds.l.length
  · rw [if_pos c]
    rcases c with c | c | c
    · have : decide (q.items.l.length = 0) = true := decide_eq_true (by omega)
      rw [this]; simp
    · have : decide (6 < q.items.l.length) = true := by simpa using c
      rw [this]; simp
    · have : decide (8 < q.preds.l.length) = true := by simpa using c
      rw [this]; simp
  · rw [if_neg c]
    have e1 : decide (q.items.l.length = 0) = false := by rw [decide_eq_false_iff_not]; omega
    have e2 : decide (6 < q.items.l.length) = false := by rw [decide_eq_false_iff_not]; omega
    have e3 : decide (8 < q.preds.l.length) = false := by rw [decide_eq_false_iff_not]; omega
    rw [e1, e2, e3]
    have f1 : decide (0 ≤ q.within) = !decide (q.within < 0) := by rw [← decide_not]; congr 1; simp
    have f2 : decide (q.within ≤ maxNum) = !decide (maxNum < q.within) := by rw [← decide_not]; congr 1; simp
    have f3 : decide (1 ≤ q.pick) = !decide (q.pick < 1) := by rw [← decide_not]; congr 1; simp
    have f4 : decide (q.pick ≤ 3) = !decide (3 < q.pick) := by rw [← decide_not]; congr 1; simp
    rw [f1, f2, f3, f4]
    cases itemsOk [] q.items.l <;> cases q.preds.l.all predX <;> cases decide (q.within < 0) <;> cases decide (maxNum < q.within) <;> cases decide (q.pick < 1) <;> cases decide (3 < q.pick) <;> simp
end Go.Aug.Api

namespace Go.Proofs.YtmfhanoibbmnlaaGreatDoor.Tz
open Go.Aug Go.Aug.Api
set_option maxRecDepth 100000
def jT (sep : ByteArray) (l : List ByteArray) : ByteArray := ⟨(joinB l sep).toArray⟩
def seqB : ByteArray := ⟨#[115, 101, 113, 32]⟩
def whereB : ByteArray := ⟨#[32, 119, 104, 101, 114, 101, 32]⟩
def withinB : ByteArray := ⟨#[32, 119, 105, 116, 104, 105, 110, 32]⟩
def byB : ByteArray := ⟨#[32, 98, 121, 32]⟩
def pickkB : ByteArray := ⟨#[32, 112, 105, 99, 107, 32]⟩
def itemsT (l : List TItem) : ByteArray := seqB ++ jT thenB (l.map itemW)
def predsT (l : List TPred) : ByteArray := match l with
  | [] => ⟨#[]⟩
  | p :: l => whereB ++ jT andB ((p :: l).map predS)
def tailT (q : TQuery) : ByteArray := withinB ++ ⟨(Lib.itoa q.within).toArray⟩ ++ (if q.by_ = ⟨#[]⟩ then ⟨#[]⟩ else byB ++ q.by_) ++ pickkB ++ pickW q.pick
def textR (q : TQuery) : ByteArray := itemsT q.items.l ++ predsT q.preds.l ++ tailT q
structure PrintAt (q : TQuery) (b : Nat) (B : ByteArray) (E : Fr) (H : Heap) : Prop where
  e1 : E 1 = .rf b 0
  e3 : E 3 = strD B
  g : H.get b = some (.cells (queryC q))
  lb : b < H.next
  lo : b ≤ H.low
  lh : H.low ≤ H.next
end Go.Proofs.YtmfhanoibbmnlaaGreatDoor.Tz

namespace Go.Proofs.YtmfhanoibbmnlaaGreatDoor.Tz
open Go.Aug Go.Aug.Api
set_option maxRecDepth 100000
theorem joined_Preds_run (l : Sl TPred) (hl : l.l.length ≤ 8) (hr : ∀ x ∈ l.l, predX x = true) (H : Heap) : Run tab (.fn n_q116) [l.enc predC, strD ⟨#[32, 97, 110, 100, 32]⟩, .fn (.func n_q110) [] []] H (strD ⟨(joinB (l.l.map predS) ⟨#[32, 97, 110, 100, 32]⟩).toArray⟩) H := by
  refine cK.run (cK_fn o_q116 t_q116 (Nat.le_of_ble_eq_true rfl) (by decide) ?_)
  have hsz : ∀ x ∈ l.l.map predS, x.size ≤ 100000 := fun x hx => by
    obtain ⟨y, hy, rfl⟩ := List.mem_map.1 hx
    have := pred_size (hr y hy)
    omega
  have hj := join_size (l.l.map predS) ⟨#[32, 97, 110, 100, 32]⟩ 100000 hsz
  have h6 : (⟨#[32, 97, 110, 100, 32]⟩ : ByteArray).size = 5 := rfl
  rw [h6, List.length_map] at hj
  have hj' : (joinB (l.l.map predS) ⟨#[32, 97, 110, 100, 32]⟩).length ≤ 1000000 := by omega
  have hfull2 : ∀ (z : List D) (p : TPred), z.length = 15 → setAll z 0 (predC p) = predC p := fun z p h => setAll_full z _ (by rw [predC_len, h])
  simp [Sl.enc]
  refine LR_rule (WR_mono _) (fun j E H' => ∃ pre suf, l.l = pre ++ suf ∧ j = suf.length ∧ E 1 = strD ⟨#[32, 97, 110, 100, 32]⟩ ∧ E 2 = .fn (.func n_q110) [] [] ∧ Own ((pre.map predS).map strD) pre.length 1 H.next H' (E 7) ∧ E 10 = l.enc predC ∧ E 11 = i64D l.l.length ∧ E 12 = i64D pre.length ∧ H.next ≤ H'.low ∧ H'.low ≤ H'.next ∧ H.next ≤ H'.next) ?_ (j := l.l.length) ⟨[], l.l, rfl, rfl, by simp, by simp, .inl ⟨rfl, rfl, by simp⟩, by simp [Sl.enc], by simp, by simp, by simp, by simp, by simp⟩
  rintro j E H' ⟨pre, suf, h0, rfl, e1, e2, ho, e10, e11, e12, w1, w2, w3⟩
  cases suf with
  | nil =>
    simp at h0
    have hlt' : ((pre.length : Int) < (l.l.length : Int)) = False := by simp [h0]
    have hf : firstD H' false 1 (E 7) = some (pre.length, (pre.map predS).map strD) := by
      rcases ho with ⟨h1, h2, h3⟩ | ⟨h1, r, h2, -, -, h3⟩
      · rw [h3, h1, h2]; rfl
      · rw [h2]
        have : ((pre.map predS).map strD).take pre.length = (pre.map predS).map strD := List.take_of_length_le (by simp)
        simp only [firstD, h3, List.length_map, Nat.mul_one, Nat.zero_add, Nat.le_refl, if_true, List.drop_zero, this]
    rw [← h0] at hf
    have hJ := (Join_run (l.l.map predS) ⟨#[32, 97, 110, 100, 32]⟩ (E 7) H' _ hf (by simp; omega) hj').cK
    simp [e1, e11, e12, hlt', hJ, w1]
  | cons x suf =>
    have hlt : pre.length < l.l.length := by simp [h0]
    have hlt' : ((pre.length : Int) < (l.l.length : Int)) = True := by simp; omega
    have ea := elem_at predC_len l.rep l.l .i64 pre.length x (by rw [h0]; simp)
    have hb := hr x (by rw [h0]; simp)
    have hP := fun H => (Print_2_run x hb H).cK
    have hw : IntKind.i64.wrap ((pre.length : Int) + 1) = (pre.length : Int) + 1 := wrap64 (by omega) (by omega)
    have hx4 : (predC x).take 15 = predC x := List.take_of_length_le (by rw [predC_len]; exact Nat.le_refl _)
    simp [Sl.enc, e1, e2, e10, e11, e12, hlt', ea, load_elem _ _ _ _ (predC_len x), hfull2, w2, hx4, hP]
    refine own_app (b := H.next) (lo := H.next) (L := (pre.map predS).map strD) (X := [strD (predS x)]) (ho.mono (by simp) fun q h1 h2 => ?_) rfl (by simp) (by omega) (by decide) (by simp) (by simpa using w1) (by simp; omega) (by simp; omega) (Nat.le_refl _) _ fun d' H2 o2 n2 l2 l3 g2 => ?_
    · have q1 : (q = H'.next) = False := by simp; omega
      have q2 : (q = H'.next + 1) = False := by simp; omega
      simp [q1, q2]
    · simp [e1, e2, e10, e11, e12, hw]
      refine ⟨suf.length, by omega, pre ++ [x], suf, by simp [h0], rfl, by simpa using o2, by simp [Sl.enc], l2, l3, by simp at n2; omega⟩
end Go.Proofs.YtmfhanoibbmnlaaGreatDoor.Tz

namespace Go.Aug.Api
open Go.Aug
end Go.Aug.Api

namespace Go.Aug.Api
open Go.Aug
theorem bytes_eq {a b : ByteArray} (h : a.data.toList = b.data.toList) : a = b := by
  obtain ⟨⟨a⟩⟩ := a
  obtain ⟨⟨b⟩⟩ := b
  simp at h
  rw [h]
inductive Shape where
  | num (n : Int)
  | txt (s : List UInt8)
  | word (w rest : List UInt8)
def Shape.text : Shape → List UInt8
  | .num n => Lib.itoa n
  | .txt s => 39 :: (s ++ [39])
  | .word w rest => w ++ rest
def Weak (s : List UInt8) : Prop := s = [] ∨ ∃ c r, s = c :: r ∧ (c = 41 ∨ c = 32)
inductive Cls : TExpr → Prop where
  | num (n : Int) (rep : Option (Option Nat)) : Cls (.mk 1 ⟨1, n, emptyS⟩ emptyS emptyS rep [])
  | txt (s : ByteArray) (rep : Option (Option Nat)) (hp : plainL s.data.toList = true) : Cls (.mk 1 ⟨2, 0, s⟩ emptyS emptyS rep [])
  | boo (b : Int) (rep : Option (Option Nat)) (hb : b = 0 ∨ b = 1) : Cls (.mk 1 ⟨3, b, emptyS⟩ emptyS emptyS rep [])
  | fld (var f : ByteArray) (rep : Option (Option Nat)) (h1 : nameS var = true) (h2 : nameS f = true) : Cls (.mk 2 zVal var f rep [])
  | cnt (var : ByteArray) (rep : Option (Option Nat)) (h1 : nameS var = true) : Cls (.mk 3 zVal var emptyS rep [])
  | fol (k : Int) (var f : ByteArray) (rep : Option (Option Nat)) (hk : k = 4 ∨ k = 5 ∨ k = 6) (h1 : nameS var = true) (h2 : nameS f = true) : Cls (.mk k zVal var f rep [])
theorem cls_of {x : TExpr} {n : Nat} (h : rightX n x = true) (h7 : ¬ (x.kind = 7 ∨ x.kind = 8)) : Cls x := by
  obtain ⟨k, v, var, f, rep, kids⟩ := x
  simp only [TExpr.kind] at h7
  unfold rightX at h
  by_cases m0 : (n : Int) = 0
  · rw [if_pos m0] at h; cases h
  rw [if_neg m0] at h
  by_cases k1 : k = 1
  · rw [if_pos k1] at h
    simp only [Bool.and_eq_true, decide_eq_true_eq, List.isEmpty_iff] at h
    obtain ⟨⟨⟨⟨rfl, rfl⟩, rfl⟩, hv⟩, hp⟩ := h
    subst k1
    obtain ⟨vk, vn, vs⟩ := v
    unfold rightV at hv
    simp only at hv hp
    by_cases v1 : vk = 1
    · rw [if_pos v1] at hv
      simp only [Bool.and_eq_true, decide_eq_true_eq] at hv
      obtain ⟨-, rfl⟩ := hv
      subst v1
      exact .num vn rep
    · rw [if_neg v1] at hv
      by_cases v3 : vk = 3
      · rw [if_pos v3] at hv
        simp only [Bool.and_eq_true, decide_eq_true_eq] at hv
        obtain ⟨⟨h1, h2⟩, rfl⟩ := hv
        subst v3
        exact .boo vn rep (by omega)
      · rw [if_neg v3] at hv
        by_cases v2 : vk = 2
        · rw [if_pos v2] at hv
          simp only [Bool.and_eq_true, decide_eq_true_eq] at hv
          obtain ⟨rfl, -⟩ := hv
          subst v2
          exact .txt vs rep hp
        · rw [if_neg v2] at hv; cases hv
  · rw [if_neg k1] at h
    by_cases k3 : k = 3
    · rw [if_pos k3] at h
      simp only [Bool.and_eq_true, decide_eq_true_eq, List.isEmpty_iff] at h
      obtain ⟨⟨⟨rfl, rfl⟩, h1⟩, rfl⟩ := h
      subst k3
      exact .cnt var rep h1
    · rw [if_neg k3] at h
      by_cases k26 : 2 ≤ k ∧ k ≤ 6
      · rw [if_pos k26] at h
        simp only [Bool.and_eq_true, decide_eq_true_eq, List.isEmpty_iff] at h
        obtain ⟨⟨⟨rfl, rfl⟩, h1⟩, h2⟩ := h
        by_cases k2 : k = 2
        · subst k2
          exact .fld var f rep h1 h2
        · exact .fol k var f rep (by omega) h1 h2
      · rw [if_neg k26, if_neg h7] at h
        cases h
end Go.Aug.Api

namespace Go.Proofs.YtmfhanoibbmnlaaGreatDoor.Tz
open Go.Aug Go.Aug.Api
set_option maxRecDepth 100000
theorem slLen_enc {α : Type} (c : α → List D) (x : Sl α) : slLen (x.enc c) = some x.l.length := by
  obtain ⟨rep, l, ok⟩ := x
  unfold Sl.enc
  cases rep with
  | some cap => rfl
  | none =>
    cases l with
    | nil => rfl
    | cons a l => rfl
theorem pick_B {p : Int} : pickB p = pickW p := rfl
theorem textG_eq (q : TQuery) : textG (joinI q) (if q.preds.l.length = 0 then none else some (jT andB (q.preds.l.map predS))) q.within q.by_ q.pick = textR q := by
  refine Go.Aug.Api.bytes_eq ?_
  have hj : itemsT q.items.l = seqB ++ joinI q := rfl
  cases hp : q.preds.l with
  | nil =>
    by_cases hb : q.by_ = ⟨#[]⟩
    · simp [textG, textR, tailT, hj, hp, predsT, hb, partsN, pickT, seqB, withinB, pickkB, pick_B]
    · simp [textG, textR, tailT, hj, hp, predsT, hb, partsN, pickT, byT, byB, seqB, withinB, pickkB, pick_B]
  | cons p l =>
    by_cases hb : q.by_ = ⟨#[]⟩
    · simp [textG, textR, tailT, hj, hp, predsT, whereB, hb, partsT, pickT, seqB, withinB, pickkB, pick_B]
    · simp [textG, textR, tailT, hj, hp, predsT, whereB, hb, partsT, pickT, byT, byB, seqB, withinB, pickkB, pick_B]
theorem evR_ok : EvOk (runSpec tab) := fun f args x hf hd hev W vs hG hr W' hb => calls_spec (by rcases hf with rfl | rfl | rfl <;> kernel_rfl) hev hd hG hr W' hb
theorem printG : OrcOk Tryz.prog n_q108 (orcPrintBy (runSpec tab)) := printS_by evR_ok
theorem printG_eq {q : TQuery} (h : rightP q = true) : printBy (runSpec tab) (.agg (queryC q)) = some (textR q) := by
  obtain ⟨a1, a2, a3, a4, a5, a6, a7, a8, a9, a10⟩ := right_parts h
  have r1 : Run tab (.fn n_q111) [.agg (queryC q)] H0 (bD true) H0 := by
    have := tree_Right_run q H0
    rw [h] at this
    exact this
  have r2 := joined_Item_run q.items a4 (items_right a1) H0
  have r3 := joined_Preds_run q.preds a5 (List.all_eq_true.1 a2) H0
  have e1 := runSpec_eq r1
  have e2 := runSpec_eq r2
  have e3 := runSpec_eq r3
  have hq : queryC q = [q.items.enc itemC, q.preds.enc predC, .v (.int .i64 q.within), .v (.string q.by_), .v (.int .i64 q.pick)] := rfl
  rw [hq] at e1 ⊢
  have e2' : runSpec tab n_q115 [q.items.enc itemC, sB thenB, .fn (.func n_q109) [] []] = some (.v (.string (joinI q))) := e2
  have e3' : runSpec tab n_q116 [q.preds.enc predC, sB andB, .fn (.func n_q110) [] []] = some (.v (.string (jT andB (q.preds.l.map predS)))) := e3
  have e1' : runSpec tab n_q111 [.agg [q.items.enc itemC, q.preds.enc predC, .v (.int .i64 q.within), .v (.string q.by_), .v (.int .i64 q.pick)]] = some (.v (.bool true)) := e1
  unfold printBy
  have hm : maxNum = 1099511627776 := rfl
  have hs1 : (joinI q).size ≤ 1000000 := by
    have hsz : ∀ x ∈ q.items.l.map itemW, x.size ≤ 82 := fun x hx => by
      obtain ⟨y, hy, rfl⟩ := List.mem_map.1 hx
      obtain ⟨b, hb⟩ := items_right a1 y hy
      exact (item_sizes hb).2.2
    have hj := join_size (q.items.l.map itemW) thenB 82 hsz
    have h6 : thenB.size = 6 := rfl
    rw [h6, List.length_map] at hj
    show (joinB (q.items.l.map itemW) thenB).toArray.size ≤ _
    simp
    omega
  have hs2 : (jT andB (q.preds.l.map predS)).size ≤ 1000000 := by
    have hsz : ∀ x ∈ q.preds.l.map predS, x.size ≤ 100000 := fun x hx => by
      obtain ⟨y, hy, rfl⟩ := List.mem_map.1 hx
      have := pred_size (List.all_eq_true.1 a2 y hy)
      omega
    have hj := join_size (q.preds.l.map predS) andB 100000 hsz
    have h6 : andB.size = 5 := rfl
    rw [h6, List.length_map] at hj
    show (joinB (q.preds.l.map predS) andB).toArray.size ≤ _
    simp
    omega
  have hs3 : q.by_.size ≤ 1000000 := by
    rcases a10 with h | h
    · rw [h]; exact Nat.zero_le _
    · have := name_size h; omega
  simp only [e1', e2', e3', slLen_enc]
  rw [if_pos ⟨hs1, hs3, by omega, by omega, a8, a9⟩, if_pos hs2]
  rw [← textG_eq q]
  split
  · rfl
  · rfl
theorem cK_printG {T' : Tab} (ho : T'.orc n_q108 = some (orcPrintBy (runSpec tab))) {q : TQuery} (h : rightP q = true) (H : Heap) (R : D → Heap → Prop) : cK T' (.fn n_q108) [.agg (queryC q)] H R = R (strD (textR q)) H := by
  refine (cK.run (cK_orc ho ⟨(strD (textR q), H), ?_, rfl, rfl⟩)).cK R
  unfold orcPrintBy
  rw [frzL2_pure H 63 _ (by simp)]
  simp only [printG_eq h, Option.map_some]
end Go.Proofs.YtmfhanoibbmnlaaGreatDoor.Tz
