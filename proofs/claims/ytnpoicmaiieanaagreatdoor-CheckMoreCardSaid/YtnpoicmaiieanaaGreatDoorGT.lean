/-
The walks of names, of texts in quotes, of expressions that are right. Conditions: none.
-/
import Derived.Test.YtnpoicmaiieanaaGreatDoorTW7
import Derived.Test.YtnpoicmaiieanaaGreatDoorGP
import Derived.Test.YtnpoicmaiieanaaGreatDoorGS
import Derived.Test.YtnpoicmaiieanaaGreatDoorGQ
import Derived.Test.YtnpoicmaiieanaaGreatDoorGR
namespace Go.Proofs.YtnpoicmaiieanaaGreatDoor.Tz
open Go.Aug Go.Aug.Api
set_option maxRecDepth 100000

theorem size_pos (s : ByteArray) : (s = ⟨#[]⟩) ↔ s.size = 0 := by
  constructor
  · rintro rfl; rfl
  · intro h
    obtain ⟨⟨l⟩⟩ := s
    have : l.length = 0 := h
    rw [List.length_eq_zero_iff.1 this]

theorem event_Word_run (s : ByteArray) (hs : s.size ≤ big) (H : Heap) : Run tab (.fn n_event_Word) [strD s] H (bD (wordS s)) H := by
  refine cK.run (cK_fn o_event_Word t_event_Word (Nat.le_of_ble_eq_true rfl) (by decide) ?_)
  simp
  refine LR_rule (WR_mono _) (fun j E H' => H' = low0 H ∧ ∃ pre suf, s.data.toList = pre ++ suf ∧ j = suf.length ∧ E 0 = strD s ∧ E 6 = i64D s.size ∧ E 7 = i64D pre.length ∧ wordL true pre = true) ?_ (j := s.data.toList.length) ⟨rfl, [], s.data.toList, by simp, rfl, by simp, by simp, by simp, rfl⟩
  rintro j E H' ⟨rfl, pre, suf, hl, rfl, e0, e6, e7, hp⟩
  have hsz := size_list s
  cases suf with
  | nil =>
    simp at hl
    have hlt' : ((pre.length : Int) < (s.size : Int)) = False := by rw [hsz, hl]; simp
    simp [e0, e6, e7, hlt']
    have hl2 : s.data.toList = pre := hl
    by_cases h : s = ⟨#[]⟩
    · have h0 := (size_pos s).1 h
      simp [h, wordS]
      simp [← h, h0]
    · have h1 : 1 ≤ s.size := by have := mt (size_pos s).2 h; omega
      by_cases h16 : s.size ≤ 16
      · have : (s.size : Int) ≤ 16 := by omega
        simp [h, e0, wordS, hl2, hp, h1, h16, this]
      · have : ¬ (s.size : Int) ≤ 16 := by omega
        simp [-Int.not_le, -Nat.not_le, h, e0, wordS, hl2, hp, h1, h16, this]
  | cons b suf =>
    have hlt : pre.length < s.size := by rw [hsz, hl]; simp
    have hlt' : ((pre.length : Int) < (s.size : Int)) = True := by simp; omega
    have hw := wrap_more hlt hs
    have hword : wordS s = (okB pre.isEmpty (b.toNat : Int) && (wordL false suf && decide (1 ≤ s.size) && decide (s.size ≤ 16))) := by
      simp only [wordS, hl, wordL_append, hp, wordL]
      cases pre <;> simp [Bool.and_assoc]
    have stop : okB pre.isEmpty (b.toNat : Int) = false → wordS s = false := fun h => by rw [hword, h]; rfl
    have go : okB pre.isEmpty (b.toNat : Int) = true → ∃ j', j' < suf.length + 1 ∧ ∃ pre_1 suf, s.data.toList = pre_1 ++ suf ∧ j' = suf.length ∧ (pre.length : Int) + 1 = (pre_1.length : Int) ∧ wordL true pre_1 = true := fun h =>
      ⟨suf.length, by omega, pre ++ [b], suf, by simp [hl], rfl, by simp, by simp [wordL_append, hp, wordL]; exact h⟩
    have hok : okB pre.isEmpty (b.toNat : Int) = ((decide (97 ≤ (b.toNat : Int)) && decide ((b.toNat : Int) ≤ 122)) || (decide (0 < (pre.length : Int)) && (decide ((b.toNat : Int) = 95) || (decide (48 ≤ (b.toNat : Int)) && decide ((b.toNat : Int) ≤ 57))))) := by
      unfold okB
      cases pre <;> simp
    rw [hok] at stop go
    simp [e0, e6, e7, hlt', idxS_zip s pre b suf hl]
    generalize (b.toNat : Int) = c at *
    by_cases c1 : 97 ≤ c
    · by_cases c2 : c ≤ 122
      · simp [c1, c2, e0, e6, e7, hw]
        exact go (by simp [c1, c2])
      · have c3 : ¬ c = 95 := by omega
        have c4 : ¬ c ≤ 57 := by omega
        have c5 : 48 ≤ c := by omega
        by_cases c6 : 0 < pre.length <;> simp [c1, c2, c3, c4, c5, c6, e0, e6, e7, hw]
        · exact stop (by simp [c1, c2, c3, c4, c5])
        · exact stop (by simp [c1, c2, c3, c4, c5])
    · by_cases c6 : 0 < pre.length
      · by_cases c3 : c = 95
        · simp [c3, c6, e0, e6, e7, hw]
          exact go (by simp [c3, c6])
        · by_cases c5 : 48 ≤ c
          · by_cases c4 : c ≤ 57
            · simp [c1, c3, c4, c5, c6, e0, e6, e7, hw]
              exact go (by simp [c1, c3, c4, c5, c6])
            · simp [c1, c3, c4, c5, c6, e0, e6, e7, hw]
              exact stop (by simp [c1, c3, c4, c5, c6])
          · simp [c1, c3, c5, c6, e0, e6, e7, hw]
            exact stop (by simp [c1, c3, c5, c6])
      · simp [c1, c6, e0, e6, e7, hw]
        exact stop (by simp [c1, c6])

theorem Contains_run (a b : ByteArray) (h : a.size < 4294967281) (H : Heap) : Run tab (.fn n_strings_Contains) [strD a, strD b] H (bD (Lib.contains a.data.toList b.data.toList)) H :=
  cK.run (cK_orc o_strings_Contains ⟨_, by simp only [orcContains, if_pos h]; rfl, rfl, rfl⟩)

theorem bin_addS (a b : ByteArray) (h : a.size + b.size ≤ 1000000) : evBin .add (strD a) (strD b) = some (strD (a ++ b)) := by
  simp [evBin, binStr]
  omega

theorem lex_Key_run (w : ByteArray) (hw : w.size ≤ 16) (H : Heap) : Run tab (.fn n_lex_Key) [strD w] H (bD (keyS w)) H := by
  refine cK.run (cK_fn o_lex_Key t_lex_Key (Nat.le_of_ble_eq_true rfl) (by decide) ?_)
  have hC := fun H => (Contains_run w ⟨#[32]⟩ (by omega) H).cK
  have hK := fun H => (Contains_run ⟨#[32, 115, 101, 113, 32, 116, 104, 101, 110, 32, 110, 111, 116, 32, 111, 114, 32, 119, 104, 101, 114, 101, 32, 97, 110, 100, 32, 119, 105, 116, 104, 105, 110, 32, 98, 121, 32, 112, 105, 99, 107, 32, 97, 110, 121, 32, 110, 101, 120, 116, 32, 115, 116, 114, 105, 99, 116, 32, 116, 114, 117, 101, 32, 102, 97, 108, 115, 101, 32, 99, 111, 117, 110, 116, 32, 115, 117, 109, 32, 109, 105, 110, 32, 109, 97, 120, 32]⟩ ((⟨#[32]⟩ ++ w) ++ ⟨#[32]⟩) (by decide) H).cK
  have hd : ((⟨#[32]⟩ ++ w) ++ ⟨#[32]⟩ : ByteArray).data.toList = 32 :: (w.data.toList ++ [32]) := by simp
  have hk : keyS w = (decide (w ≠ ⟨#[]⟩) && !(Lib.contains w.data.toList [32]) && Lib.contains keysK (32 :: (w.data.toList ++ [32]))) := by
    rw [Bool.eq_iff_iff, keyS_iff, ← keyB_iff w.data.toList (by rw [← size_list]; exact hw), ← occ_space]
    simp only [Lib.contains, Bool.and_eq_true, decide_eq_true_eq, Bool.not_eq_true', decide_eq_false_iff_not, and_assoc, ne_eq]
    have : w.data.toList = [] ↔ w = ⟨#[]⟩ := by rw [size_pos, size_list, List.length_eq_zero_iff]
    rw [this]
  simp only [hd] at hK
  rw [hk]
  by_cases h0 : w = ⟨#[]⟩
  · subst h0
    simp
  · cases h1 : Lib.contains w.data.toList [32] with
    | true => simp [h0, hC, h1]
    | false =>
      have s1 : (⟨#[32]⟩ : ByteArray).size = 1 := rfl
      have a1 := bin_addS ⟨#[32]⟩ w (by rw [s1]; omega)
      have a2 := bin_addS (⟨#[32]⟩ ++ w) ⟨#[32]⟩ (by rw [ByteArray.size_append, s1]; omega)
      simp [h0, hC, h1, a1, a2, hK]
      rfl

theorem tree_name_run (s : ByteArray) (hs : s.size ≤ big) (H : Heap) : Run tab (.fn n_tree_name) [strD s] H (bD (nameS s)) H := by
  refine cK.run (cK_fn o_tree_name t_tree_name (Nat.le_of_ble_eq_true rfl) (by decide) ?_)
  have hW := fun H => (event_Word_run s hs H).cK
  cases h : wordS s with
  | false => simp [hW, h, nameS]
  | true =>
    have h16 : s.size ≤ 16 := by
      unfold wordS at h
      simp only [Bool.and_eq_true, decide_eq_true_eq] at h
      exact h.2
    have hK := fun H => (lex_Key_run s h16 H).cK
    simp [hW, h, hK, nameS]

theorem tree_plain_run (s : ByteArray) (hs : s.size ≤ big) (H : Heap) : Run tab (.fn n_tree_plain) [strD s] H (bD (plainL s.data.toList)) H := by
  refine cK.run (cK_fn o_tree_plain t_tree_plain (Nat.le_of_ble_eq_true rfl) (by decide) ?_)
  simp
  refine LR_rule (WR_mono _) (fun j E H' => H' = low0 H ∧ ∃ pre suf, s.data.toList = pre ++ suf ∧ j = suf.length ∧ E 0 = strD s ∧ E 5 = i64D s.size ∧ E 6 = i64D pre.length ∧ plainL s.data.toList = plainL suf) ?_ (j := s.data.toList.length) ⟨rfl, [], s.data.toList, by simp, rfl, by simp, by simp, by simp, rfl⟩
  rintro j E H' ⟨rfl, pre, suf, hl, rfl, e0, e5, e6, hp⟩
  have hsz := size_list s
  rw [hp]
  cases suf with
  | nil =>
    simp at hl
    have hlt' : ((pre.length : Int) < (s.size : Int)) = False := by rw [hsz, hl]; simp
    simp [e0, e5, e6, hlt', plainL]
  | cons b suf =>
    have hlt : pre.length < s.size := by rw [hsz, hl]; simp
    have hlt' : ((pre.length : Int) < (s.size : Int)) = True := by simp; omega
    have hw := wrap_more hlt hs
    have hx := fun k => idxS_zip s pre b suf hl k
    simp [e0, e5, e6, hlt', hx, plainL]
    have go : (!(decide ((b.toNat : Int) < 32) || decide (126 < (b.toNat : Int)) || decide ((b.toNat : Int) = 39))) = true → plainL s.data.toList = plainL suf := fun h => by rw [hp, plainL, h]; rfl
    by_cases c1 : (b.toNat : Int) < 32
    · simp [c1, e0, e5, e6, hx]
    · by_cases c2 : 126 < (b.toNat : Int)
      · simp [c1, c2, e0, e5, e6, hx]
      · by_cases c3 : (b.toNat : Int) = 39
        · simp [c1, c2, c3, e0, e5, e6, hx]
        · simp [c1, c2, c3, e0, e5, e6, hx, hw]
          exact ⟨suf.length, by omega, pre ++ [b], suf, by simp [hl], rfl, by simp, by first | exact go (by simp [c1, c2, c3]) | rfl⟩

theorem expr_head (k : Int) (v : TVal) (var f : ByteArray) (rep : Option (Option Nat)) (kids : List TExpr) (most : Int) (H : Heap) (c : AC) (Q : PostX)
    (h : ∀ E, E 1 = i64D most → E 2 = .rf H.next 0 → E 5 = bD (decide (var = emptyS) && decide (f = emptyS)) → E 6 = bD (decide (v = zVal) && kids.isEmpty) → WR 123 tab none c E ((low0 H).add (.cells (exprC (.mk k v var f rep kids)))) Q) :
    WR 123 tab none (.seq (.reg F_tree_expression.r0) (.seq (.reg F_tree_expression.r1) (.seq (.reg F_tree_expression.r2) c))) (argX [.agg (exprC (.mk k v var f rep kids)), i64D most]) (low0 H) Q := by
  have hz : (decide (v.kind = 0) && decide (v.n = 0) && decide (v.s = ⟨#[]⟩)) = decide (v = zVal) := by
    cases v
    simp [zVal]
    grind
  have hk0 : kids.isEmpty = decide ((kids.length : Int) = 0) := by
    cases kids
    · rfl
    · simp; omega
  rw [exprC_mk] at *
  by_cases b1 : var = ⟨#[]⟩
  · subst b1
    have b1 : (⟨#[]⟩ : ByteArray) = ⟨#[]⟩ := rfl
    by_cases b3 : v = zVal
    · have hz' := hz
      rw [decide_eq_true b3] at hz'
      simp [b1, eq_val, hz']
      refine h _ ?_ ?_ ?_ ?_ <;> simp [b1, b3, hk0, emptyS] <;> exact decide_eq_decide.2 Iff.rfl
    · have hz' := hz
      rw [decide_eq_false b3] at hz'
      simp [b1, eq_val, hz']
      refine h _ ?_ ?_ ?_ ?_ <;> simp [b1, b3, hk0, emptyS] <;> exact decide_eq_decide.2 Iff.rfl
  · by_cases b3 : v = zVal
    · have hz' := hz
      rw [decide_eq_true b3] at hz'
      simp [b1, eq_val, hz']
      refine h _ ?_ ?_ ?_ ?_ <;> simp [b1, b3, hk0, emptyS] <;> exact decide_eq_decide.2 Iff.rfl
    · have hz' := hz
      rw [decide_eq_false b3] at hz'
      simp [b1, eq_val, hz']
      refine h _ ?_ ?_ ?_ ?_ <;> simp [b1, b3, hk0, emptyS] <;> exact decide_eq_decide.2 Iff.rfl

theorem tree_expression_run : ∀ (x : TExpr) (_hx : okE x) (most : Int) (_hm : 0 ≤ most ∧ most ≤ 1000) (H : Heap), Run tab (.fn n_tree_expression) [.agg (exprC x), i64D most] H (bD (rightX most x)) H
  | .mk k v var f rep kids, hx, most, hm, H => by
    have ih : 1 ≤ most → ∀ x ∈ kids, ∀ (H : Heap), Run tab (.fn n_tree_expression) [.agg (exprC x), i64D (most - 1)] H (bD (rightX (most - 1) x)) H := fun h1 x hmem H => tree_expression_run x (okEs_mem hx.2.1 hmem) (most - 1) (by omega) H
    have nV := fun H => (tree_name_run var hx.2.2.1 H).cK
    have nF := fun H => (tree_name_run f hx.2.2.2.1 H).cK
    have nP := fun H => (tree_plain_run v.s hx.2.2.2.2 H).cK
    have nR := fun H => (value_Right_run v.kind v.n v.s H).cK
    refine cK.run (cK_fn o_tree_expression t_tree_expression (Nat.le_of_ble_eq_true rfl) (by decide) ?_)
    have sub1 : IntKind.i64.wrap (most - 1) = most - 1 := wrap64 (by omega) (by omega)
    have hz : (decide (v.kind = 0) && decide (v.n = 0) && decide (v.s = ⟨#[]⟩)) = decide (v = zVal) := by
      cases v
      simp [zVal]
      grind
    have hk0 : kids.isEmpty = decide ((kids.length : Int) = 0) := by
      cases kids
      · rfl
      · simp; omega
    have hval : (⟨v.kind, v.n, v.s⟩ : TVal) = v := rfl
    refine expr_head k v var f rep kids most H _ _ fun E e1 e2 e5 e6 => ?_
    rw [exprC_mk]
    unfold rightX
    generalize hB : (decide (var = emptyS) && decide (f = emptyS)) = B at e5 ⊢
    generalize hS : (decide (v = zVal) && kids.isEmpty) = S at e6 ⊢
    clear hS hB
    by_cases m0 : most = 0
    · simp [e1, e2, e5, e6, m0]
    rw [if_neg m0]
    by_cases k1 : k = 1
    · rw [if_pos k1]
      cases B with
      | false => simp [e1, e2, e5, e6, m0, k1]
      | true =>
        by_cases b2 : kids = []
        · subst b2
          cases b3 : rightV v <;> simp [e1, e2, e5, e6, m0, k1, b3, nR, nP, hval]
        · simp [e1, e2, e5, e6, m0, k1, b2]
    rw [if_neg k1]
    by_cases k3 : k = 3
    · rw [if_pos k3]
      cases S with
      | false => simp [e1, e2, e5, e6, m0, k3]
      | true => cases b2 : nameS var <;> simp [e1, e2, e5, e6, m0, k3, b2, nV] <;> exact Iff.rfl
    rw [if_neg k3]
    by_cases k2 : 2 ≤ k ∧ k ≤ 6
    · rw [if_pos k2]
      cases S with
      | false => simp [e1, e2, e5, e6, m0, k1, k3, k2]
      | true => cases b2 : nameS var <;> simp [e1, e2, e5, e6, m0, k1, k3, k2, b2, nV, nF]
    rw [if_neg k2]
    have k2' : (decide (2 ≤ k) && decide (k ≤ 6)) = false := by rw [Bool.and_eq_false_iff]; simp; omega
    by_cases k7 : k = 7 ∨ k = 8
    · rw [if_pos k7]
      cases B with
      | false => rcases k7 with rfl | rfl <;> simp [e1, e2, e5, e6, m0]
      | true =>
        generalize hZ : decide (v = zVal) = Z at hz ⊢
        clear hZ
        cases Z with
        | true =>
          have two : ¬ kids.length = 2 → rightTwoX (most - 1) kids = false := fun h => by
            match kids, h with
            | [], _ => rfl
            | [_], _ => rfl
            | [_, _], h => exact absurd rfl h
            | _ :: _ :: _ :: _, _ => rfl
          by_cases b4 : kids.length = 2
          · obtain ⟨a, b, rfl⟩ : ∃ a b, kids = [a, b] := by
              match kids, b4 with
              | [a, b], _ => exact ⟨a, b, rfl⟩
            have hA := fun H => (ih (by omega) a (by simp) H).cK
            have hB := fun H => (ih (by omega) b (by simp) H).cK
            have e0 := elem_at exprC_len rep [a, b] .i64 0 a rfl
            have e1' := elem_at exprC_len rep [a, b] .i64 1 b rfl
            simp at e0 e1'
            cases b5 : rightX (most - 1) a <;> rcases k7 with rfl | rfl <;> simp [e1, e2, e5, e6, m0, eq_val, hz, sub1, e0, e1', load_elem _ _ _ _ (exprC_len a), load_elem _ _ _ _ (exprC_len b), hA, hB, b5, rightTwoX]
          · have b4' : ¬ (kids.length : Int) = 2 := by omega
            rcases k7 with rfl | rfl <;> simp [e1, e2, e5, e6, m0, eq_val, hz, b4', two b4]
        | false =>
          rcases k7 with rfl | rfl <;> simp [e1, e2, e5, e6, m0, eq_val, hz]
    rw [if_neg k7]
    have h7 : k ≠ 7 := fun h => k7 (.inl h)
    have h8 : k ≠ 8 := fun h => k7 (.inr h)
    by_cases k4 : 2 ≤ k
    · have k5 : ¬ k ≤ 6 := by omega
      simp [e1, e2, e5, e6, m0, k1, k3, k4, k5, h7, h8]
    · simp [e1, e2, e5, e6, m0, k1, k3, k4, h7, h8]

end Go.Proofs.YtnpoicmaiieanaaGreatDoor.Tz

/- The walks of right items and right queries. Conditions: none. -/

namespace Go.Proofs.YtnpoicmaiieanaaGreatDoor.Tz
open Go.Aug Go.Aug.Api
set_option maxRecDepth 100000

theorem wrap_one : IntKind.i64.wrap 1 = 1 := by decide
theorem wrap_two : IntKind.i64.wrap 2 = 2 := by decide
theorem wrap_oneone : IntKind.i64.wrap (1 + 1) = 2 := by decide

theorem tree_item_run (x : TItem) (at_ : Int) (H : Heap) : Run tab (.fn n_tree_item) [.agg (itemC x), i64D at_] H (bD (rightItem x (decide (at_ = 0)))) H := by
  refine cK.run (cK_fn o_tree_item t_tree_item (Nat.le_of_ble_eq_true rfl) (by decide) ?_)
  have nV := fun H => (tree_name_run x.var x.okV H).cK
  simp [itemC, Sl.enc]
  refine LR_rule (WR_mono _) (fun j E H' => ∃ pre suf m, x.names.l = pre ++ suf ∧ j = suf.length ∧ E 1 = i64D at_ ∧ E 2 = .rf H.next 0 ∧ E 5 = .mp (H.next + 1) ∧ E 10 = slD x.names.rep x.names.l.length (x.names.l.flatMap strC) ∧ E 11 = i64D x.names.l.length ∧ E 12 = i64D pre.length ∧
    H'.get H.next = some (.cells [bD x.not, slD x.names.rep x.names.l.length (x.names.l.flatMap strC), strD x.var, i64D x.mode]) ∧ H'.get (H.next + 1) = some (.map (encT m)) ∧ (∀ v, countT m v = if (pre.any fun p => decide (p = v)) = true then 1 else 0) ∧ H'.low = H.next ∧ namesOk [] x.names.l = namesOk pre suf) ?_ (j := x.names.l.length)
    ⟨[], x.names.l, [], by simp, rfl, by simp, by simp, by simp, by simp, by simp, by simp, by simp, by simp [encT], by simp [countT], by simp, rfl⟩
  rintro j E H' ⟨pre, suf, m, hl, rfl, e1, e2, e5, e10, e11, e12, hg, hm, hc, hlow, hn⟩
  have hok := x.names.ok
  cases suf with
  | nil =>
    simp at hl
    have hlt' : ((pre.length : Int) < (x.names.l.length : Int)) = False := by simp [hl]
    have hN : namesOk [] x.names.l = true := by rw [hn]; rfl
    simp [e11, e12, hlt', e1, e2, hg]
    have bad : (nameS x.var = false ∨ x.names.l.length < 1 ∨ 3 < x.names.l.length ∨ x.mode < 1 ∨ 3 < x.mode) → rightItem x (decide (at_ = 0)) = false := fun h => by unfold rightItem; rw [if_pos h]
    cases c1 : nameS x.var with
    | false => rw [bad (.inl c1)]; simp [nV, c1, hlow]
    | true =>
    by_cases c2 : x.names.l.length = 0
    · have c2' : x.names.l = [] := List.length_eq_zero_iff.1 c2
      rw [bad (.inr (.inl (by omega)))]; simp [nV, c1, c2', e2, hg, hlow]
    have c2' : ¬ x.names.l = [] := fun h => c2 (by rw [h]; rfl)
    by_cases c3 : 3 < (x.names.l.length : Int)
    · rw [bad (.inr (.inr (.inl (by omega))))]; simp [nV, c1, c2', c3, e2, hg, hlow]
    by_cases c4 : x.mode < 1
    · rw [bad (.inr (.inr (.inr (.inl c4))))]; simp [nV, c1, c2', c3, c4, e2, hg, hlow]
    by_cases c5 : 3 < x.mode
    · rw [bad (.inr (.inr (.inr (.inr c5))))]; simp [nV, c1, c2', c3, c4, c5, e2, hg, hlow]
    have hbad : ¬ (nameS x.var = false ∨ x.names.l.length < 1 ∨ 3 < x.names.l.length ∨ x.mode < 1 ∨ 3 < x.mode) := fun h => by
      rcases h with h | h | h | h | h
      · rw [c1] at h; cases h
      all_goals omega
    have hr : rightItem x (decide (at_ = 0)) = (if decide (at_ = 0) = true ∧ (x.not = true ∨ x.mode = 3) then false else !x.not || decide (x.mode = 1)) := by
      unfold rightItem
      rw [if_neg hbad, if_neg (by rw [hN]; decide)]
    rw [hr]
    by_cases h0 : at_ = 0 <;> cases hx : x.not <;> by_cases h3 : x.mode = 3 <;> by_cases h1 : x.mode = 1 <;> simp [nV, c1, c2', c3, c4, c5, e1, e2, hg, hlow, h0, hx, h3, h1]
  | cons s suf =>
    have hlt : pre.length < x.names.l.length := by simp [hl]
    have hlt' : ((pre.length : Int) < (x.names.l.length : Int)) = True := by simp; omega
    have hw := wrap_more hlt hok
    have ea := elem_at strC_len x.names.rep x.names.l .i64 pre.length s (by rw [hl]; simp)
    have nS := fun H => (tree_name_run s (x.okN s (by rw [hl]; simp)) H).cK
    have stop : namesOk pre (s :: suf) = false → rightItem x (decide (at_ = 0)) = false := fun h => by
      unfold rightItem
      split
      · rfl
      · rw [if_pos (by rw [hn]; exact h)]
    have hlook1 : ∀ H1 k, H1.get (H.next + 1) = some (.map (encT m)) → evMlook H1 .text (.v (.int .i64 0)) false (.mp (H.next + 1)) (.v (.string k)) = some (i64D (countT m k)) := fun H1 k h => look_encT h k
    have hput : ∀ H1 k x, H1.get (H.next + 1) = some (.map (encT m)) → evMput H1 .text (.mp (H.next + 1)) (.v (.string k)) (.v (.int .i64 x)) = some (H1.set (H.next + 1) (.map (encT (putT m k x)))) := fun H1 k x h => put_encT h k x
    have hlook2 : ∀ H1 k n, H1.get (H.next + 1) = some (.map (encT (putT m s n))) → evMlook H1 .text (.v (.int .i64 0)) false (.mp (H.next + 1)) (.v (.string k)) = some (i64D (countT (putT m s n) k)) := fun H1 k n h => look_encT h k
    have hle : ¬ H.next + 1 < H.next := by omega
    cases ha : pre.any fun p => decide (p = s) with
    | true =>
      have hcs : countT m s = 1 := by rw [hc s, ha]; rfl
      have l2 := fun H1 => hlook2 H1 s 2
      simp only [count_putT, if_true] at l2
      simp [e5, e10, e11, e12, hlt', ea]
      simp [strC, hlook1, hput, hm, hcs, wrap_oneone, wrap_two, l2, get_set, e5]
      rw [stop (by simp only [namesOk, ha]; simp)]
      simp [hlow]
    | false =>
      have hcs : countT m s = 0 := by rw [hc s, ha]; rfl
      have l2 := fun H1 => hlook2 H1 s 1
      simp only [count_putT, if_true] at l2
      cases hb : nameS s with
      | false =>
        simp [e5, e10, e11, e12, hlt', ea]
        simp [strC, hlook1, hput, hm, hcs, wrap_one, l2, get_set, e5, nS, hb]
        rw [stop (by simp only [namesOk, hb]; simp)]
        simp [hlow]
      | true =>
        simp [e5, e10, e11, e12, hlt', ea]
        simp [strC, hlook1, hput, hm, hcs, wrap_one, l2, get_set, e1, e2, e5, e10, e11, e12, nS, hb, hw, hg, hlow]
        refine ⟨suf.length, by omega, pre ++ [s], suf, by simp [hl], rfl, by simp, putT m s 1, rfl, fun v => ?_, ?_⟩
        · rw [count_putT, hc v]
          by_cases hv : v = s
          · subst hv
            simp
          · have hv' : ¬ s = v := fun e => hv e.symm
            have e : ((pre ++ [s]).any fun p => decide (p = v)) = pre.any fun p => decide (p = v) := by rw [List.any_append]; simp only [List.any_cons, List.any_nil, decide_eq_false hv', Bool.or_false]
            rw [if_neg hv, e]
        · rw [hn]
          simp only [namesOk, hb, ha]
          simp

theorem setAll_item (z : List D) (x : TItem) (h : z.length = 4) : setAll z 0 (itemC x) = itemC x := setAll_full z _ (by rw [h]; rfl)

theorem tRight_items (q : TQuery) (H : Heap) (Q : PostX)
    (h1 : itemsOk [] q.items.l = true → ∀ E H', E 1 = .rf H.next 0 → H'.get H.next = some (.cells (queryC q)) → H'.low = H.next → H.next < H'.next → Q (.exit 0) E H')
    (h2 : itemsOk [] q.items.l = false → ∀ E H', E 2 = bD false → H'.low = H.next → Q .ret E H') (E : Fr) (H1 : Heap) (e1 : E 1 = .rf H.next 0) (e3 : E 3 = .mp (H.next + 1)) (e10 : E 10 = q.items.enc itemC) (e11 : E 11 = i64D q.items.l.length) (e12 : E 12 = i64D 0)
    (g0 : H1.get H.next = some (.cells (queryC q))) (g1 : H1.get (H.next + 1) = some (.map [])) (g2 : H1.low = H.next) (g3 : H1.next = H.next + 2) :
    LR (WR 96 tab none F_tree_Right.l9) E H1 Q := by
  refine LR_rule (WR_mono _) (fun j E H' => ∃ pre suf m, q.items.l = pre ++ suf ∧ j = suf.length ∧ E 1 = .rf H.next 0 ∧ E 3 = .mp (H.next + 1) ∧ E 10 = q.items.enc itemC ∧ E 11 = i64D q.items.l.length ∧ E 12 = i64D pre.length ∧
    H'.get H.next = some (.cells (queryC q)) ∧ H'.get (H.next + 1) = some (.map (encT m)) ∧ (∀ v, countT m v = if (pre.any fun p => decide (p.var = v)) = true then 1 else 0) ∧ H'.low = H.next ∧ H.next + 2 ≤ H'.next ∧ itemsOk [] q.items.l = itemsOk pre suf) ?_ (j := q.items.l.length)
    ⟨[], q.items.l, [], by simp, rfl, e1, e3, e10, e11, e12, g0, by simpa [encT] using g1, by simp [countT], g2, by omega, rfl⟩
  rintro j E H' ⟨pre, suf, m, hl, rfl, e1, e3, e10, e11, e12, hg, hm, hc, hlow, hnx, hn⟩
  have hok := q.items.ok
  cases suf with
  | nil =>
    simp at hl
    have hlt' : ((pre.length : Int) < (q.items.l.length : Int)) = False := by simp [hl]
    simp [e11, e12, hlt']
    exact h1 (by rw [hn]; rfl) _ _ (by simp [e1]) hg hlow (by omega)
  | cons x suf =>
    have hlt : pre.length < q.items.l.length := by simp [hl]
    have hlt' : ((pre.length : Int) < (q.items.l.length : Int)) = True := by simp; omega
    have hw := wrap_more hlt hok
    have ea := elem_at itemC_len q.items.rep q.items.l .i64 pre.length x (by rw [hl]; simp)
    have nS := fun H => (tree_item_run x (pre.length : Nat) H).cK
    have hf : decide (((pre.length : Nat) : Int) = 0) = pre.isEmpty := by cases pre <;> simp; omega
    rw [hf] at nS
    have stop : itemsOk pre (x :: suf) = false → itemsOk [] q.items.l = false := fun h => by rw [hn]; exact h
    have hlook1 : ∀ H1 k, H1.get (H.next + 1) = some (.map (encT m)) → evMlook H1 .text (.v (.int .i64 0)) false (.mp (H.next + 1)) (.v (.string k)) = some (i64D (countT m k)) := fun H1 k h => look_encT h k
    have hput : ∀ H1 k x, H1.get (H.next + 1) = some (.map (encT m)) → evMput H1 .text (.mp (H.next + 1)) (.v (.string k)) (.v (.int .i64 x)) = some (H1.set (H.next + 1) (.map (encT (putT m k x)))) := fun H1 k x h => put_encT h k x
    have hlook2 : ∀ H1 k n, H1.get (H.next + 1) = some (.map (encT (putT m x.var n))) → evMlook H1 .text (.v (.int .i64 0)) false (.mp (H.next + 1)) (.v (.string k)) = some (i64D (countT (putT m x.var n) k)) := fun H1 k n h => look_encT h k
    have n0 : (H.next = H'.next) = False := by simp; omega
    have n1 : (H.next + 1 = H'.next) = False := by simp; omega
    have n2 : (H'.next = H.next + 1) = False := by simp; omega
    have hle : H'.low ≤ H'.next := by omega
    have hq1 : (H'.next < H.next) = False := by simp; omega
    have hx4 : (itemC x).take 4 = itemC x := List.take_of_length_le (by rw [itemC_len]; exact Nat.le_refl _)
    have hx2 : (itemC x)[2]? = some (strD x.var) := rfl
    cases ha : pre.any fun p => decide (p.var = x.var) with
    | true =>
      have hcs : countT m x.var = 1 := by rw [hc x.var, ha]; rfl
      have l2 := fun H1 => hlook2 H1 x.var 2
      simp only [count_putT, if_true] at l2
      simp [Sl.enc, e3, e10, e11, e12, hlt', ea, setAll_item, load_elem _ _ _ _ (itemC_len x), hle, n0, n1, n2, hx2, hm, hlook1, hput, hcs, wrap_oneone, wrap_two, l2, get_set]
      exact h2 (stop (by simp only [itemsOk, ha]; simp)) _ _ (by simp) (by simp [hlow])
    | false =>
      have hcs : countT m x.var = 0 := by rw [hc x.var, ha]; rfl
      have l2 := fun H1 => hlook2 H1 x.var 1
      simp only [count_putT, if_true] at l2
      cases hb : rightItem x pre.isEmpty with
      | false =>
        simp [Sl.enc, e3, e10, e11, e12, hlt', ea, setAll_item, load_elem _ _ _ _ (itemC_len x), hle, n0, n1, n2, hx2, hm, hlook1, hput, hcs, wrap_one, l2, get_set, hx4, nS, hb]
        exact h2 (stop (by simp only [itemsOk, hb]; simp)) _ _ (by simp) (by simp [hlow])
      | true =>
        simp [Sl.enc, e1, e3, e10, e11, e12, hlt', ea, setAll_item, load_elem _ _ _ _ (itemC_len x), hle, n0, n1, n2, hx2, hm, hlook1, hput, hcs, wrap_one, l2, get_set, hx4, nS, hb, hw, hg, hlow, hq1, -List.any_eq_true]
        refine ⟨suf.length, by omega, pre ++ [x], suf, by simp [hl], rfl, by simp, putT m x.var 1, rfl, fun v => ?_, by omega, ?_⟩
        · rw [count_putT, hc v]
          by_cases hv : v = x.var
          · subst hv
            simp
          · have hv' : ¬ x.var = v := fun e => hv e.symm
            have e : ((pre ++ [x]).any fun p => decide (p.var = v)) = pre.any fun p => decide (p.var = v) := by rw [List.any_append]; simp only [List.any_cons, List.any_nil, decide_eq_false hv', Bool.or_false]
            rw [if_neg hv, e]
        · rw [hn]
          simp only [itemsOk, hb, ha]
          simp

theorem tRight_preds (q : TQuery) (H : Heap) (Q : PostX)
    (h1 : q.preds.l.all predX = true → ∀ E H', E 1 = .rf H.next 0 → H'.get H.next = some (.cells (queryC q)) → H'.low = H.next → Q (.exit 2) E H')
    (h2 : q.preds.l.all predX = false → ∀ E H', E 2 = bD false → H'.low = H.next → Q .ret E H') (E : Fr) (H1 : Heap) (e1 : E 1 = .rf H.next 0) (e35 : E 35 = q.preds.enc predC) (e36 : E 36 = i64D q.preds.l.length) (e37 : E 37 = i64D 0)
    (g0 : H1.get H.next = some (.cells (queryC q))) (g2 : H1.low = H.next) (g3 : H.next < H1.next) :
    LR (WR 96 tab none F_tree_Right.l16) E H1 Q := by
  refine LR_rule (WR_mono _) (fun j E H' => ∃ pre suf, q.preds.l = pre ++ suf ∧ j = suf.length ∧ E 1 = .rf H.next 0 ∧ E 35 = q.preds.enc predC ∧ E 36 = i64D q.preds.l.length ∧ E 37 = i64D pre.length ∧
    H'.get H.next = some (.cells (queryC q)) ∧ pre.all predX = true ∧ H'.low = H.next ∧ H.next < H'.next) ?_ (j := q.preds.l.length)
    ⟨[], q.preds.l, by simp, rfl, e1, e35, e36, e37, g0, rfl, g2, g3⟩
  rintro j E H' ⟨pre, suf, hl, rfl, e1, e35, e36, e37, hg, hn, hlow, hnx⟩
  have hok := q.preds.ok
  cases suf with
  | nil =>
    simp at hl
    have hlt' : ((pre.length : Int) < (q.preds.l.length : Int)) = False := by simp [hl]
    simp [e36, e37, hlt']
    exact h1 (by rw [hl]; exact hn) _ _ (by simp [e1]) hg hlow
  | cons x suf =>
    have hlt : pre.length < q.preds.l.length := by simp [hl]
    have hlt' : ((pre.length : Int) < (q.preds.l.length : Int)) = True := by simp; omega
    have hw := wrap_more hlt hok
    have ea := elem_at predC_len q.preds.rep q.preds.l .i64 pre.length x (by rw [hl]; simp)
    have nL := fun H => (tree_expression_run x.L x.okL 6 (by decide) H).cK
    have nR := fun H => (tree_expression_run x.R x.okR 6 (by decide) H).cK
    have n0 : (H.next = H'.next) = False := by simp; omega
    have hle : H'.low ≤ H'.next := by omega
    have bad : predX x = false → q.preds.l.all predX = false := fun h => by rw [hl]; simp [h]
    have stop : predX x = false → ∀ (E' : Fr) (o : O), E' 2 = bD false → Q .ret E' (H'.add o) := fun h E' o e2 => h2 (bad h) _ _ e2 (by simpa using hlow)
    simp [Sl.enc, e1, e35, e36, e37, hlt', ea, load_elem _ _ _ _ (predC_len x), setAll_full, hle]
    by_cases c1 : x.cmp < 1
    · simp [c1]
      exact stop (by simp [predX]; omega) _ _ (by simp)
    by_cases c2 : 6 < x.cmp
    · simp [c1, c2]
      exact stop (by simp [predX]; omega) _ _ (by simp)
    cases c3 : rightX 6 x.L
    · simp [c1, c2, nL, c3]
      exact stop (by simp [predX, c3]) _ _ (by simp)
    cases c4 : rightX 6 x.R
    · simp [c1, c2, nL, c3, nR, c4]
      exact stop (by simp [predX, c4]) _ _ (by simp)
    simp [c1, c2, nL, c3, nR, c4, e1, e35, e36, e37, hw]
    refine ⟨suf.length, by omega, pre ++ [x], suf, by simp [hl], rfl, rfl, by simp, by simp [n0, hg], ?_, hlow, by omega⟩
    have : predX x = true := by simp [predX, c3, c4]; omega
    intro y hy
    rcases List.mem_append.1 hy with hy | hy
    · exact List.all_eq_true.1 hn y hy
    · simp at hy; subst hy; exact this

theorem tree_Right_run (q : TQuery) (H : Heap) : Run tab (.fn n_tree_Right) [.agg (queryC q)] H (bD (rightP q)) H := by
  refine cK.run (cK_fn o_tree_Right t_tree_Right (Nat.le_of_ble_eq_true rfl) (by decide) ?_)
  have nB := fun H => (tree_name_run q.by_ q.okBy H).cK
  have hI := tRight_items q
  have hP := tRight_preds q
  simp only [queryC, Sl.enc] at hI hP
  simp [queryC, Sl.enc]
  refine hI H _ (fun hi E H' e1 hg hlow hnx => ?_) (fun hi E H' e2 hlow => ?_) _ _ (by simp) (by simp) (by simp) (by simp) (by simp) (by simp) (by simp) (by simp) (by simp)
  · simp [e1, hg]
    refine hP H _ (fun hp E H' e1 hg hlow => ?_) (fun hp E H' e2 hlow => ?_) _ _ (by simp [e1]) (by simp) (by simp) (by simp) hg hlow hnx
    · have hr : rightP q = (!(decide (q.items.l.length = 0) || decide (6 < q.items.l.length) || decide (8 < q.preds.l.length)) && !(decide (q.within < 0) || decide (maxNum < q.within) || decide (q.pick < 1) || decide (3 < q.pick)) && (decide (q.by_ = emptyS) || nameS q.by_)) := by
        unfold rightP
        rw [hi, hp]
        rfl
      rw [hr]
      by_cases c1 : q.items.l.length = 0
      · have c1' : q.items.l = [] := List.length_eq_zero_iff.1 c1
        simp [e1, hg, hlow, c1']
      have c1' : ¬ q.items.l = [] := fun h => c1 (by rw [h]; rfl)
      by_cases c2 : 6 < q.items.l.length
      · have c2' : (6 : Int) < q.items.l.length := by omega
        simp [e1, hg, hlow, c1', c2, c2']
      have c2' : ¬ (6 : Int) < q.items.l.length := by omega
      by_cases c3 : 8 < q.preds.l.length
      · have c3' : (8 : Int) < q.preds.l.length := by omega
        simp [e1, hg, hlow, c1', c2, c2', c3, c3']
      have c3' : ¬ (8 : Int) < q.preds.l.length := by omega
      by_cases d1 : q.within < 0
      · simp [e1, hg, hlow, c1', c2, c2', c3, c3', d1]
      by_cases d2 : 1099511627776 < q.within
      · simp [e1, hg, hlow, c1', c2, c2', c3, c3', d1, d2, maxNum]
      by_cases d3 : q.pick < 1
      · simp [e1, hg, hlow, c1', c2, c2', c3, c3', d1, d2, d3, maxNum]
      by_cases d4 : 3 < q.pick
      · simp [e1, hg, hlow, c1', c2, c2', c3, c3', d1, d2, d3, d4, maxNum]
      by_cases d5 : q.by_ = ⟨#[]⟩
      · simp [e1, hg, hlow, c1', c2, c2', c3, c3', d1, d2, d3, d4, d5, maxNum, emptyS]
      · simp [e1, hg, hlow, c1', c2, c2', c3, c3', d1, d2, d3, d4, d5, maxNum, emptyS, nB]
    · have hr : rightP q = false := by unfold rightP; rw [hp]; simp
      simp [hr, e2, hlow]
  · have hr : rightP q = false := by unfold rightP; rw [hi]; simp
    simp [hr, e2, hlow]

end Go.Proofs.YtnpoicmaiieanaaGreatDoor.Tz

/- The walks of what asks of a query, one by one: names, by, kinds, nots. Conditions: none. -/

namespace Go.Proofs.YtnpoicmaiieanaaGreatDoor.Tz
open Go.Aug Go.Aug.Api
set_option maxRecDepth 100000

/-- An error, as it is handed on. -/
def errD : Option (Int × Int) → D
  | none => .v .nilIface
  | some p => .ifc 60 (.cp [i64D p.1, .ifc 30 (i64D p.2)])

theorem frz_ifc (H : Heap) (lo n : Nat) (t : TypeId) (d : D) (h : d.under lo = false) : frz H lo (n + 1) (.ifc t d) = (frz H lo n d).map (.ifc t) := by
  conv => lhs; unfold frz
  rw [if_neg (by rw [under_ifc, h]; decide)]

theorem err_fin {H H' : Heap} {r : Nat} {i e : Int} {R : D → Heap → Prop} (hlow : H'.low = H.next) (hr : H.next ≤ r) (hg : H'.get r = some (.cells [i64D i, .ifc 30 (i64D e)])) : finX true H (.ifc 60 (.rf r 0)) H' R = R (errD (some (i, e))) H := by
  refine finX_frozen (by omega) ?_
  have hlt : ¬ r < H.next := by omega
  rw [frz_ifc _ _ _ _ _ (by show decide (r < H.next) = false; simp; omega), frz_rf, if_neg hlt, hg]
  have h1 : frzL (frz H' H.next 62) ([i64D i, .ifc 30 (i64D e)].drop 0) = some [i64D i, .ifc 30 (i64D e)] := by
    refine frzL_two _ _ _ _ _ (frz_v ..) (frzL_two _ _ _ _ _ (frz_under0 _ _ _ _ rfl) (frzL_none _))
  simp only [h1]
  rfl

theorem names_in (l : Sl TSchema) (x : TItem) (i : Nat) (H : Heap) (Q : PostX) (E0 : Fr)
    (h1 : (x.names.l.all fun n => (findS l.l n).2) = true → ∀ E H', E 0 = l.enc schemaC → E 12 = E0 12 → E 13 = E0 13 → E 14 = E0 14 → H'.low = H.next → H.next ≤ H'.next → Q (.exit 2) E H')
    (h2 : (x.names.l.all fun n => (findS l.l n).2) = false → ∀ E H' r, E 4 = .ifc 60 (.rf r 0) → H.next ≤ r → H'.get r = some (.cells [i64D i, .ifc 30 (i64D 12)]) → H'.low = H.next → Q .ret E H') (H1 : Heap)
    (e0 : E0 0 = l.enc schemaC) (e5 : E0 5 = i64D i) (e20 : E0 20 = x.names.enc strC) (e21 : E0 21 = i64D x.names.l.length) (e22 : E0 22 = i64D 0) (g2 : H1.low = H.next) (g3 : H.next ≤ H1.next) :
    LR (WR 41 tab none F_check_names.l11) E0 H1 Q := by
  have c1 := fun name H => (event_Find_run l name H).cK
  simp only [Sl.enc] at c1
  refine LR_rule (WR_mono _) (fun j E H' => ∃ pre suf, x.names.l = pre ++ suf ∧ j = suf.length ∧ E 0 = l.enc schemaC ∧ E 5 = i64D i ∧ E 20 = x.names.enc strC ∧ E 21 = i64D x.names.l.length ∧ E 22 = i64D pre.length ∧ E 12 = E0 12 ∧ E 13 = E0 13 ∧ E 14 = E0 14 ∧
    H'.low = H.next ∧ H.next ≤ H'.next ∧ (pre.all fun n => (findS l.l n).2) = true) ?_ (j := x.names.l.length) ⟨[], x.names.l, by simp, rfl, e0, e5, e20, e21, e22, rfl, rfl, rfl, g2, g3, rfl⟩
  rintro j E H' ⟨pre, suf, hl, rfl, e0, e5, e20, e21, e22, f12, f13, f14, hlow, hnx, hn⟩
  have hok := x.names.ok
  cases suf with
  | nil =>
    simp at hl
    have hlt' : ((pre.length : Int) < (x.names.l.length : Int)) = False := by simp [hl]
    simp [e21, e22, hlt']
    exact h1 (by rw [hl]; exact hn) _ _ (by simp [e0]) (by simp [f12]) (by simp [f13]) (by simp [f14]) hlow hnx
  | cons s suf =>
    have hlt : pre.length < x.names.l.length := by simp [hl]
    have hlt' : ((pre.length : Int) < (x.names.l.length : Int)) = True := by simp; omega
    have hw := wrap_more hlt hok
    have ea := elem_at strC_len x.names.rep x.names.l .i64 pre.length s (by rw [hl]; simp)
    have hle : H'.low ≤ H'.next := by omega
    simp [Sl.enc, e0, e20, e21, e22, hlt', ea]
    cases hf : (findS l.l s).2 with
    | false =>
      simp [strC, e0, e5, c1, findD, schemaC, setAll_full, hle, hf]
      refine h2 (by rw [hl]; simp [hf]) _ _ (H'.next + 1) (by simp) (by omega) (by simp) (by simp [hlow])
    | true =>
      simp [strC, e0, e5, e20, e21, e22, f12, f13, f14, c1, findD, schemaC, setAll_full, hle, hf, Sl.enc, hw, hlow]
      refine ⟨suf.length, by omega, pre ++ [s], suf, by simp [hl], rfl, by simp, by omega, by omega, fun n hn2 => ?_⟩
      rcases List.mem_append.1 hn2 with h | h
      · exact List.all_eq_true.1 hn n h
      · simp at h; subst h; exact hf

theorem check_names_run (l : Sl TSchema) (q : TQuery) (H : Heap) : Run tab (.fn n_check_names) [l.enc schemaC, .agg (queryC q)] H (errD (namesR l.l 0 q.items.l)) H := by
  refine cK.run (cK_fn o_check_names t_check_names (Nat.le_of_ble_eq_true rfl) (by decide) ?_)
  have hin := names_in l
  simp only [Sl.enc] at hin
  simp [queryC, Sl.enc]
  refine LR_rule (WR_mono _) (fun j E H' => ∃ pre suf, q.items.l = pre ++ suf ∧ j = suf.length ∧ E 0 = l.enc schemaC ∧ E 12 = q.items.enc itemC ∧ E 13 = i64D q.items.l.length ∧ E 14 = i64D pre.length ∧
    H'.low = H.next ∧ H.next ≤ H'.next ∧ namesR l.l 0 q.items.l = namesR l.l pre.length suf) ?_ (j := q.items.l.length) ⟨[], q.items.l, by simp, rfl, by simp [Sl.enc], by simp [Sl.enc], by simp, by simp, by simp, by simp, rfl⟩
  rintro j E H' ⟨pre, suf, hl, rfl, e0, e12, e13, e14, hlow, hnx, hn⟩
  have hok := q.items.ok
  cases suf with
  | nil =>
    simp at hl
    have hlt' : ((pre.length : Int) < (q.items.l.length : Int)) = False := by simp [hl]
    rw [hn]
    simp [e13, e14, hlt', hlow, namesR, errD]
  | cons x suf =>
    have hlt : pre.length < q.items.l.length := by simp [hl]
    have hlt' : ((pre.length : Int) < (q.items.l.length : Int)) = True := by simp; omega
    have hw := wrap_more hlt hok
    have ea := elem_at itemC_len q.items.rep q.items.l .i64 pre.length x (by rw [hl]; simp)
    have hle : H'.low ≤ H'.next := by omega
    have hx1 : (itemC x)[1]? = some (x.names.enc strC) := rfl
    simp only [Sl.enc] at e0 e12
    simp [Sl.enc, e0, e12, e13, e14, hlt', ea, load_elem _ _ _ _ (itemC_len x), setAll_item, hle, hx1]
    refine hin x pre.length H _ _ (fun hf E H'' f0 f12 f13 f14 hlow' hnx' => ?_) (fun hf E H'' r f4 hr hg hlow' => ?_) _ (by simp [e0]) (by simp) (by simp) (by simp) (by simp) (by simp [hlow]) (by simp; omega)
    · simp [e12, e13, e14] at f12 f13 f14
      simp [f0, f12, f13, f14, hw]
      refine ⟨suf.length, by omega, pre ++ [x], suf, by simp [hl], rfl, by simp, hlow', hnx', ?_⟩
      rw [hn, namesR, if_pos hf]
      simp
    · rw [hn, namesR, if_neg (by rw [hf]; decide)]
      simp [f4]
      rw [z_check_names, err_fin hlow' hr hg]
      exact ⟨rfl, rfl⟩

/-- A slice's beginning. -/
theorem slice_to (s : Nat) (rep : Option (Option Nat)) (n h : Nat) (cells : List D) (h1 : 1 ≤ h) (h2 : h ≤ n) : ∃ c, sliceX s (slD rep n cells) none (some (.v (.int .i64 (h : Nat)))) none false = some (slD (some c) h (cells.take (h * s))) := by
  obtain ⟨c, hc⟩ : ∃ c, slD rep n cells = .sl n cells c := by
    cases rep with
    | none => cases n with
      | zero => omega
      | succ n => exact ⟨_, rfl⟩
    | some c => exact ⟨c, rfl⟩
  refine ⟨c.map (· - 0), ?_⟩
  rw [hc, slD_some]
  have hb : boundX (some (.v (.int .i64 (h : Nat)))) n n = some h := by
    rw [bound_some, if_pos ⟨by omega, by omega⟩, Int.toNat_natCast]
  simp only [sliceX, bound_none, hb]
  simp

theorem check_by_run (l : Sl TSchema) (q : TQuery) (hq : ∀ x ∈ q.items.l, x.names.l ≠ []) (h0 : q.items.l ≠ []) (H : Heap) : Run tab (.fn n_check_by) [l.enc schemaC, .agg (queryC q)] H (errD (byR l.l q.by_ q.items.l)) H := by
  refine cK.run (cK_fn o_check_by t_check_by (Nat.le_of_ble_eq_true rfl) (by decide) ?_)
  have cF := fun names H => (check_field_run l names q.by_ H).cK
  simp only [Sl.enc] at cF
  by_cases hb : q.by_ = ⟨#[]⟩
  · have : byR l.l q.by_ q.items.l = none := by unfold byR; rw [if_pos (show q.by_ = emptyS from hb)]
    rw [this]
    simp [queryC, Sl.enc, hb, errD]
  have hR : byR l.l q.by_ q.items.l = byL l.l q.by_ (firstK l.l q.by_ q.items.l) 0 q.items.l := by unfold byR; rw [if_neg (show ¬ q.by_ = emptyS from hb)]
  obtain ⟨x0, r0, hx0⟩ : ∃ x r, q.items.l = x :: r := by
    cases h : q.items.l with
    | nil => exact absurd h h0
    | cons x r => exact ⟨x, r, rfl⟩
  obtain ⟨n0, m0, hn0⟩ : ∃ n m, x0.names.l = n :: m := by
    cases h : x0.names.l with
    | nil => exact absurd h (hq x0 (by rw [hx0]; simp))
    | cons x r => exact ⟨x, r, rfl⟩
  have hfK : firstK l.l q.by_ q.items.l = fieldK l.l [n0] q.by_ := by
    rw [hx0]
    show fieldK l.l (x0.names.l.take 1) q.by_ = _
    rw [hn0]
    rfl
  have ea0 := elem_at itemC_len q.items.rep q.items.l .i64 0 x0 (by rw [hx0]; rfl)
  have hx1 : ∀ x : TItem, (itemC x)[1]? = some (slD x.names.rep x.names.l.length (x.names.l.flatMap strC)) := fun _ => rfl
  obtain ⟨c, hs⟩ := slice_to 1 x0.names.rep x0.names.l.length 1 (x0.names.l.flatMap strC) (Nat.le_refl 1) (by rw [hn0]; simp)
  have ht : (x0.names.l.flatMap strC).take (1 * 1) = [strD n0] := by rw [hn0]; rfl
  rw [ht] at hs
  have cF0 := fun H => cF ⟨some c, [n0], by simp [big]⟩ H
  simp [strC] at cF0
  simp at ea0 hs
  rw [hR, hfK]
  have hx2 : ∀ (x : TItem) (r : List D), (itemC x ++ r)[1]? = some (slD x.names.rep x.names.l.length (x.names.l.flatMap strC)) := fun _ _ => rfl
  simp [queryC, Sl.enc, hb, ea0, hx2, hs, cF0]
  refine LR_rule (WR_mono _) (fun j E H' => ∃ pre suf, q.items.l = pre ++ suf ∧ j = suf.length ∧ E 0 = l.enc schemaC ∧ E 3 = .rf H.next 0 ∧ E 5 = i64D (fieldK l.l [n0] q.by_) ∧ E 23 = q.items.enc itemC ∧ E 24 = i64D q.items.l.length ∧ E 25 = i64D pre.length ∧ H'.get H.next = some (.cells (queryC q)) ∧
    H'.low = H.next ∧ H.next < H'.next ∧ byL l.l q.by_ (fieldK l.l [n0] q.by_) 0 q.items.l = byL l.l q.by_ (fieldK l.l [n0] q.by_) pre.length suf) ?_ (j := q.items.l.length) ⟨[], q.items.l, by simp, rfl, by simp [Sl.enc], by simp, by simp, by simp [Sl.enc], by simp, by simp, by simp [queryC, Sl.enc], by simp, by simp, rfl⟩
  rintro j E H' ⟨pre, suf, hl, rfl, e0, e3, e5, e23, e24, e25, hg, hlow, hnx, hn⟩
  have hok := q.items.ok
  cases suf with
  | nil =>
    simp at hl
    have hlt' : ((pre.length : Int) < (q.items.l.length : Int)) = False := by simp [hl]
    rw [hn]
    simp [e24, e25, hlt', hlow, byL, errD]
  | cons x suf =>
    have hlt : pre.length < q.items.l.length := by simp [hl]
    have hlt' : ((pre.length : Int) < (q.items.l.length : Int)) = True := by simp; omega
    have hw := wrap_more hlt hok
    have ea := elem_at itemC_len q.items.rep q.items.l .i64 pre.length x (by rw [hl]; simp)
    have hle : H'.low ≤ H'.next := by omega
    have hne : (H.next = H'.next) = False := by simp; omega
    have cX := fun H => cF x.names H
    simp only [queryC, Sl.enc] at hg
    simp only [Sl.enc] at e0 e23
    simp [Sl.enc, e0, e3, e5, e23, e24, e25, hlt', ea, load_elem _ _ _ _ (itemC_len x), setAll_item, hle, hx1, hg, hne, cX]
    by_cases k1 : fieldK l.l x.names.l q.by_ = 0
    · rw [hn, byL, if_pos (.inl k1)]
      simp [k1, e25]
      rw [z_check_by, err_fin (i := (pre.length : Nat)) (e := 91) (by simp [hlow]) (r := H'.next + 1) (by omega) (by simp)]
      exact ⟨rfl, rfl⟩
    · by_cases k2 : fieldK l.l x.names.l q.by_ = fieldK l.l [n0] q.by_
      · have k1' : ¬ fieldK l.l [n0] q.by_ = 0 := by rw [← k2]; exact k1
        simp [k2, k1', e0, e3, e5, e23, e24, e25, hw, hg, hne, hlow, queryC, Sl.enc]
        refine ⟨suf.length, by omega, pre ++ [x], suf, by simp [hl], rfl, by simp, by omega, ?_⟩
        rw [hn, byL, if_neg (by rintro (h | h); exact k1 h; exact h k2)]
        simp
      · rw [hn, byL, if_pos (.inr k2)]
        simp [k1, k2, e5, e25]
        rw [z_check_by, err_fin (i := (pre.length : Nat)) (e := 91) (by simp [hlow]) (r := H'.next + 1) (by omega) (by simp)]
        exact ⟨rfl, rfl⟩

theorem check_kinds_run (l : Sl TSchema) (q : TQuery) (H : Heap) : Run tab (.fn n_check_kinds) [l.enc schemaC, .agg (queryC q)] H (errD (kindsR l.l q.items.l 0 q.preds.l)) H := by
  refine cK.run (cK_fn o_check_kinds t_check_kinds (Nat.le_of_ble_eq_true rfl) (by decide) ?_)
  have cK1 := fun x H => (check_Kind_run l q x H).cK
  simp only [queryC, Sl.enc] at cK1
  simp [queryC, Sl.enc]
  refine LR_rule (WR_mono _) (fun j E H' => ∃ pre suf, q.preds.l = pre ++ suf ∧ j = suf.length ∧ E 0 = l.enc schemaC ∧ E 3 = .rf H.next 0 ∧ E 10 = q.preds.enc predC ∧ E 11 = i64D q.preds.l.length ∧ E 12 = i64D pre.length ∧ H'.get H.next = some (.cells (queryC q)) ∧
    H'.low = H.next ∧ H.next < H'.next ∧ kindsR l.l q.items.l 0 q.preds.l = kindsR l.l q.items.l pre.length suf) ?_ (j := q.preds.l.length) ⟨[], q.preds.l, by simp, rfl, by simp [Sl.enc], by simp, by simp [Sl.enc], by simp, by simp, by simp [queryC, Sl.enc], by simp, by simp, rfl⟩
  rintro j E H' ⟨pre, suf, hl, rfl, e0, e3, e10, e11, e12, hg, hlow, hnx, hn⟩
  have hok := q.preds.ok
  cases suf with
  | nil =>
    simp at hl
    have hlt' : ((pre.length : Int) < (q.preds.l.length : Int)) = False := by simp [hl]
    rw [hn]
    simp [e11, e12, hlt', hlow, kindsR, errD]
  | cons x suf =>
    have hlt : pre.length < q.preds.l.length := by simp [hl]
    have hlt' : ((pre.length : Int) < (q.preds.l.length : Int)) = True := by simp; omega
    have hw := wrap_more hlt hok
    have ea := elem_at predC_len q.preds.rep q.preds.l .i64 pre.length x (by rw [hl]; simp)
    have hle : H'.low ≤ H'.next := by omega
    have hne : (H.next = H'.next) = False := by simp; omega
    simp only [Sl.enc] at e0 e10
    simp only [queryC, Sl.enc] at hg
    simp [Sl.enc, e0, e3, e10, e11, e12, hlt', ea, load_elem _ _ _ _ (predC_len x), setAll_full, hle, hg, hne, cK1]
    have stop : (kindS l.l q.items.l x.L = 0 ∨ kindS l.l q.items.l x.L ≠ kindS l.l q.items.l x.R ∨ (kindS l.l q.items.l x.L = 3 ∧ 2 < x.cmp)) → kindsR l.l q.items.l 0 q.preds.l = some (((pre.length : Nat) : Int), 42) := fun h => by rw [hn, kindsR, if_pos h]
    by_cases k1 : kindS l.l q.items.l x.L = 0
    · rw [stop (.inl k1)]
      simp [k1, e12]
      rw [z_check_kinds, err_fin (i := (pre.length : Nat)) (e := 42) (by simp [hlow]) (r := H'.next + 1) (by omega) (by simp)]
      exact ⟨rfl, rfl⟩
    · by_cases k2 : kindS l.l q.items.l x.L = kindS l.l q.items.l x.R
      · by_cases k3 : kindS l.l q.items.l x.L = 3
        · by_cases k4 : 2 < x.cmp
          · rw [stop (.inr (.inr ⟨k3, k4⟩))]
            rw [k3] at k2
            simp [k3, ← k2, k4, e12]
            rw [z_check_kinds, err_fin (i := (pre.length : Nat)) (e := 42) (by simp [hlow]) (r := H'.next + 1) (by omega) (by simp)]
            exact ⟨rfl, rfl⟩
          · have k2' := k2
            rw [k3] at k2'
            simp [k3, ← k2', k4, e0, e3, e10, e11, e12, hw, hg, hne, hlow, queryC, Sl.enc]
            refine ⟨suf.length, by omega, pre ++ [x], suf, by simp [hl], rfl, by simp, by omega, ?_⟩
            rw [hn, kindsR, if_neg (by rintro (h | h | h); exact k1 h; exact h k2; exact k4 h.2)]
            simp
        · have k1' : ¬ kindS l.l q.items.l x.R = 0 := by rw [← k2]; exact k1
          have k3' : ¬ kindS l.l q.items.l x.R = 3 := by rw [← k2]; exact k3
          simp [k2, k1', k3', e0, e3, e10, e11, e12, hw, hg, hne, hlow, queryC, Sl.enc]
          refine ⟨suf.length, by omega, pre ++ [x], suf, by simp [hl], rfl, by simp, by omega, ?_⟩
          rw [hn, kindsR, if_neg (by rintro (h | h | h); exact k1 h; exact h k2; exact k3 h.1)]
          simp
      · rw [stop (.inr (.inl k2))]
        simp [k1, k2, e12]
        rw [z_check_kinds, err_fin (i := (pre.length : Nat)) (e := 42) (by simp [hlow]) (r := H'.next + 1) (by omega) (by simp)]
        exact ⟨rfl, rfl⟩

end Go.Proofs.YtnpoicmaiieanaaGreatDoor.Tz

/- The walks of nots, and of Check. Conditions: none. -/

namespace Go.Proofs.YtnpoicmaiieanaaGreatDoor.Tz
open Go.Aug Go.Aug.Api
set_option maxRecDepth 100000

theorem IndexFunc_int_run (p : Int → Bool) (rep : Option (Option Nat)) (l : List Int) (hl : l.length ≤ big) (g : FuncId) (first caps : List D) (H : Heap)
    (hp : ∀ x ∈ l, Run tab (.fn g) (first ++ i64D x :: caps) (low0 H) (bD (p x)) (low0 H)) :
    Run tab (.fn n_slices_IndexFunc_int) [slD rep l.length (l.flatMap intC), .fn (.func g) first caps] H (i64D (idx p l)) H := by
  refine cK.run (cK_fn o_slices_IndexFunc_int t_slices_IndexFunc_int (Nat.le_of_ble_eq_true rfl) (by decide) ?_)
  simp
  refine LR_rule (WR_mono _) (fun j E H' => H' = low0 H ∧ ∃ pre suf, l = pre ++ suf ∧ j = suf.length ∧ E 0 = slD rep l.length (l.flatMap intC) ∧ E 1 = .fn (.func g) first caps ∧ E 7 = i64D l.length ∧ E 8 = i64D pre.length ∧ (∀ x ∈ pre, p x = false)) ?_
    (j := l.length) ⟨rfl, [], l, by simp⟩
  rintro j E H' ⟨rfl, pre, suf, h0, rfl, e0, e1, e7, e8, hpre⟩
  cases suf with
  | nil =>
    simp at h0
    subst h0
    simp [e0, e1, e7, e8, idx_none hpre]
  | cons x suf =>
    have hlt : pre.length < l.length := by simp [h0]
    have hlt' : ((pre.length : Int) < (l.length : Int)) = True := by simp; omega
    have hP := (hp x (by rw [h0]; simp)).cK
    have ea := elem_at intC_len rep l .i64 pre.length x (by rw [h0]; simp)
    simp [e0, e1, e7, e8, hlt', ea]
    simp [intC, hP, wrap_len hlt hl]
    refine gK_of (fun hx => ?_) (fun hx => ?_)
    · simp [e8, h0, idx_some pre x suf hpre hx]
    · simp [e0, e1, e7, e8, wrap_len hlt hl]
      exact ⟨suf.length, by omega, pre ++ [x], suf, by simp [h0], rfl, by simp, fun y hy => by simp at hy; rcases hy with hy | rfl; exact hpre y hy; exact hx⟩

theorem ContainsFunc_int_run (p : Int → Bool) (rep : Option (Option Nat)) (l : List Int) (hl : l.length ≤ big) (g : FuncId) (first caps : List D) (H : Heap)
    (hp : ∀ x ∈ l, Run tab (.fn g) (first ++ i64D x :: caps) (low0 (low0 H)) (bD (p x)) (low0 (low0 H))) :
    Run tab (.fn n_slices_ContainsFunc_int) [slD rep l.length (l.flatMap intC), .fn (.func g) first caps] H (bD (l.any p)) H := by
  refine cK.run (cK_fn o_slices_ContainsFunc_int t_slices_ContainsFunc_int (Nat.le_of_ble_eq_true rfl) (by decide) ?_)
  have hI := (IndexFunc_int_run p rep l hl g first caps (low0 H) hp).cK
  simp [-List.any_eq_true, hI]
  rcases idx_cases p l with ⟨h1, h2, -⟩ | ⟨pre, x, suf, h1, -, h3, h4, -⟩
  · have : l.any p = false := by rw [List.any_eq_false]; intro x hx; simp [h2 x hx]
    rw [h1, this]
    rfl
  · have : l.any p = true := by rw [List.any_eq_true]; exact ⟨x, by rw [h1]; simp, h3⟩
    rw [h4, this]
    simp

theorem nodup_bound : ∀ (n : Nat) (l : List Int), l.Nodup → (∀ k ∈ l, 0 ≤ k ∧ k < (n : Int)) → l.length ≤ n
  | 0, l, _, h => by
    cases l with
    | nil => simp
    | cons a l => have := h a (List.mem_cons_self ..); omega
  | n + 1, l, hn, h => by
    have ih := nodup_bound n (l.erase (n : Int)) (hn.erase _) fun k hk => by
      have h1 := (hn.mem_erase_iff).1 hk
      have h2 := h k h1.2
      have h3 := h1.1
      omega
    rw [List.length_erase] at ih
    split at ih <;> omega

theorem placesS_le (q : List TItem) (vs : List ByteArray) : (placesS q vs).length ≤ q.length := by
  obtain ⟨h1, h2⟩ := addPs_ok q vs [] (by simp) (by simp)
  exact nodup_bound q.length _ h1 h2

theorem varsS_in (q : List TItem) (xs : List TExpr) : ∀ k ∈ varsS q xs, 0 ≤ k ∧ k < q.length := by
  obtain ⟨h1, h2⟩ := addPs_ok q (eachVs xs) [] (by simp) (by simp)
  intro k hk
  exact h2 k ((sortI_perm _).mem_iff.1 hk)

theorem varsS_le (q : List TItem) (xs : List TExpr) : (varsS q xs).length ≤ q.length := by
  unfold varsS
  rw [(sortI_perm _).length_eq]
  exact placesS_le q _

theorem check_nots_1_run (q : TQuery) (n : Int) (hn : 0 ≤ n ∧ n < q.items.l.length) (H : Heap) {r : Nat} (h : H.get r = some (.cells (queryC q))) (hr : r < H.next) : Run tab (.fn n_check_nots_1) [i64D n, .rf r 0] H (bD (notAt q.items.l n)) H := by
  refine cK.run (cK_fn o_check_nots_1 t_check_nots_1 (Nat.le_of_ble_eq_true rfl) (by decide) ?_)
  obtain ⟨k, rfl⟩ : ∃ k : Nat, n = k := ⟨n.toNat, by omega⟩
  have hk : k < q.items.l.length := by omega
  obtain ⟨x, hx⟩ : ∃ x, q.items.l[k]? = some x := ⟨q.items.l[k], by simp [hk]⟩
  have ea := elem_at itemC_len q.items.rep q.items.l .i64 k x hx
  have hne : notAt q.items.l (k : Int) = x.not := by unfold notAt; simp [hx]
  have hi : ∀ r : List D, (itemC x ++ r)[0]? = some (bD x.not) := fun _ => rfl
  simp only [queryC, Sl.enc] at h
  rw [hne]
  simp [h, ea]
  simp [itemC]

theorem two14 (x y : TExpr) : setAll (setAll [(.v (.int .i64 0)), (.v (.int .i64 0)), (.v (.int .i64 0)), (.v (.string ⟨#[]⟩)), (.v (.string ⟨#[]⟩)), (.v (.string ⟨#[]⟩)), (.v (.slice none 0 0)), (.v (.int .i64 0)), (.v (.int .i64 0)), (.v (.int .i64 0)), (.v (.string ⟨#[]⟩)), (.v (.string ⟨#[]⟩)), (.v (.string ⟨#[]⟩)), (.v (.slice none 0 0))] 0 (exprC x)) 7 (exprC y) = exprC x ++ exprC y := by
  rw [exprC_eq x, exprC_eq y]
  rfl
theorem two14_len (x : TExpr) : (setAll [(.v (.int .i64 0)), (.v (.int .i64 0)), (.v (.int .i64 0)), (.v (.string ⟨#[]⟩)), (.v (.string ⟨#[]⟩)), (.v (.string ⟨#[]⟩)), (.v (.slice none 0 0)), (.v (.int .i64 0)), (.v (.int .i64 0)), (.v (.int .i64 0)), (.v (.string ⟨#[]⟩)), (.v (.string ⟨#[]⟩)), (.v (.string ⟨#[]⟩)), (.v (.slice none 0 0))] 0 (exprC x)).length = 14 := by
  rw [exprC_eq x]
  rfl

theorem check_nots_run (l : Sl TSchema) (q : TQuery) (hq : q.items.l.length ≤ 1000000) (H : Heap) : Run tab (.fn n_check_nots) [l.enc schemaC, .agg (queryC q)] H (errD (notsR q.items.l 0 q.preds.l)) H := by
  refine cK.run (cK_fn o_check_nots t_check_nots (Nat.le_of_ble_eq_true rfl) (by decide) ?_)
  simp [queryC, Sl.enc]
  refine LR_rule (WR_mono _) (fun j E H' => ∃ pre suf, q.preds.l = pre ++ suf ∧ j = suf.length ∧ E 3 = .rf H.next 0 ∧ E 9 = q.preds.enc predC ∧ E 10 = i64D q.preds.l.length ∧ E 11 = i64D pre.length ∧ H'.get H.next = some (.cells (queryC q)) ∧
    H'.low = H.next ∧ H.next < H'.next ∧ notsR q.items.l 0 q.preds.l = notsR q.items.l pre.length suf) ?_ (j := q.preds.l.length) ⟨[], q.preds.l, by simp, rfl, by simp, by simp [Sl.enc], by simp, by simp, by simp [queryC, Sl.enc], by simp, by simp, rfl⟩
  rintro j E H' ⟨pre, suf, hl, rfl, e3, e9, e10, e11, hg, hlow, hnx, hn⟩
  have hok := q.preds.ok
  cases suf with
  | nil =>
    simp at hl
    have hlt' : ((pre.length : Int) < (q.preds.l.length : Int)) = False := by simp [hl]
    rw [hn]
    simp [e10, e11, hlt', hlow, notsR, errD]
  | cons x suf =>
    have hlt : pre.length < q.preds.l.length := by simp [hl]
    have hlt' : ((pre.length : Int) < (q.preds.l.length : Int)) = True := by simp; omega
    have hw := wrap_more hlt hok
    have ea := elem_at predC_len q.preds.rep q.preds.l .i64 pre.length x (by rw [hl]; simp)
    have hle : H'.low ≤ H'.next := by omega
    have hne : (H.next = H'.next) = False := by simp; omega
    have hne1 : (H.next = H'.next + 1) = False := by simp; omega
    let H2 := (H'.add (.cells (predC x))).add (.cells (exprC x.L ++ exprC x.R))
    have hv := (check_vars_run q [x.L, x.R] ⟨x.okL, x.okR, trivial⟩ (by simp [big]) H2 (rl := H'.next + 1) (some 2) (by simp [H2]) (by simp [H2]) (Nat.le_trans (placesS_le _ _) hq)).cK
    simp [H2] at hv
    have hg' := hg
    simp only [Sl.enc] at e9
    simp only [queryC, Sl.enc] at hg' hv
    simp [Sl.enc, e3, e9, e10, e11, hlt', ea, load_elem _ _ _ _ (predC_len x), setAll_full, hle, hg', hne, two14, two14_len, hv]
    generalize hV : varsS q.items.l [x.L, x.R] = V
    have hVl : V.length ≤ 1000000 := by rw [← hV]; exact Nat.le_trans (varsS_le _ _) hq
    have hVi : ∀ k ∈ V, 0 ≤ k ∧ k < q.items.l.length := by rw [← hV]; exact varsS_in q.items.l [x.L, x.R]
    simp [intsD]
    by_cases h1 : 1 < V.length
    · have h1' : (1 : Int) < V.length := by omega
      obtain ⟨c, hs⟩ := slice_to 1 none V.length (V.length - 1) (V.flatMap intC) (by omega) (by omega)
      have hfm : ∀ l : List Int, l.flatMap intC = l.map fun n => .v (.int .i64 n) := fun l => by
        induction l with
        | nil => rfl
        | cons a l ih => simp [List.flatMap_cons, ih, intC]
      have ht : (V.flatMap intC).take ((V.length - 1) * 1) = V.dropLast.flatMap intC := by
        rw [hfm, hfm, Nat.mul_one, List.dropLast_eq_take, List.map_take]
      have hdl : V.dropLast.length = V.length - 1 := List.length_dropLast
      rw [ht, ← hdl] at hs
      have hw1 : IntKind.i64.wrap ((V.length : Int) - 1) = ((V.dropLast.length : Nat) : Int) := by
        rw [hdl, wrap64 (by omega) (by omega)]
        omega
      have hc := (ContainsFunc_int_run (notAt q.items.l) (some c) V.dropLast (by rw [hdl]; exact Nat.le_trans (Nat.sub_le _ _) (Nat.le_trans hVl (by decide))) n_check_nots_1 [] [.rf H.next 0] H2 (fun k hk => check_nots_1_run q k (hVi k (List.mem_of_mem_take (List.dropLast_eq_take ▸ hk))) _ (by simp [H2, hne, hne1, hg]) (by simp [H2]; omega))).cK
      simp only [H2] at hc
      rw [slD_some] at hs
      rw [slD_some] at hc
      cases ha : V.dropLast.any (notAt q.items.l) with
      | true =>
        rw [ha] at hc
        simp [-List.length_dropLast, h1', e3, e11]
        simp [-List.length_dropLast, intsD, hw1, hs, hc, e11]
        rw [hn, notsR, hV, if_pos ⟨h1, ha⟩]
        rw [z_check_nots, err_fin (i := (pre.length : Nat)) (e := 91) (by simp [hlow]) (r := H'.next + 2) (by omega) (by simp)]
        exact ⟨rfl, rfl⟩
      | false =>
        rw [ha] at hc
        simp [-List.length_dropLast, h1', e3, e11]
        simp [-List.length_dropLast, intsD, hw1, hs, hc, e3, e9, e10, e11, hw, hg', hne, hne1, hlow, queryC, Sl.enc]
        refine ⟨suf.length, by omega, pre ++ [x], suf, by simp [hl], rfl, by simp, by omega, ?_⟩
        rw [hn, notsR, hV, if_neg (by rw [ha]; simp)]
        simp
    · have h1' : ¬ (1 : Int) < V.length := by omega
      simp [h1', e3, e9, e10, e11, hw, hg', hne, hne1, hlow, queryC, Sl.enc]
      refine ⟨suf.length, by omega, pre ++ [x], suf, by simp [hl], rfl, by simp, by omega, ?_⟩
      rw [hn, notsR, hV, if_neg (by simp [h1])]
      simp

end Go.Proofs.YtnpoicmaiieanaaGreatDoor.Tz

/- The walk of Check. Conditions: none. -/

namespace Go.Proofs.YtnpoicmaiieanaaGreatDoor.Tz
open Go.Aug Go.Aug.Api
set_option maxRecDepth 100000

theorem As_nil (x : D) (H : Heap) (k : D → Heap → Prop) : cK tab (.fn n_errors_As) [.v .nilIface, x] H k = k (bD false) H :=
  (cK.run (cK_orc o_errors_As ⟨(bD false, H), rfl, rfl, rfl⟩)).cK k
theorem As_hit (c : List D) (d : D) (r : Nat) (H : Heap) (hg : H.get r = some (.cells [d])) (k : D → Heap → Prop) : cK tab (.fn n_errors_As) [.ifc 60 (.cp c), .ifc 64 (.rf r 0)] H k = k (bD true) (H.set r (.cells [.cp c])) :=
  (cK.run (cK_orc o_errors_As ⟨(bD true, H.set r (.cells [.cp c])), by simp [orcAs, hg], rfl, rfl⟩)).cK k
theorem As_num (i e : Int) (d : D) (r : Nat) (H : Heap) (hg : H.get r = some (.cells [d])) (k : D → Heap → Prop) : cK tab (.fn n_errors_As) [.ifc 60 (.cp [i64D i, .ifc 30 (i64D e)]), .ifc 65 (.rf r 0)] H k = k (bD true) (H.set r (.cells [i64D e])) :=
  (cK.run (cK_orc o_errors_As ⟨(bD true, H.set r (.cells [i64D e])), by simp [orcAs, hg], rfl, rfl⟩)).cK k

theorem rightItem_names {x : TItem} {f : Bool} (h : rightItem x f = true) : x.names.l ≠ [] := by
  intro h0
  unfold rightItem at h
  rw [if_pos (.inr (.inl (by rw [h0]; decide)))] at h
  cases h
theorem itemsOk_all : ∀ (suf pre : List TItem), itemsOk pre suf = true → ∀ x ∈ suf, ∃ f, rightItem x f = true
  | [], _, _, x, h => by cases h
  | y :: suf, pre, h, x, hx => by
    simp only [itemsOk, Bool.and_eq_true] at h
    rcases List.mem_cons.1 hx with rfl | hx
    · exact ⟨_, h.1.1⟩
    · exact itemsOk_all suf _ h.2 x hx

theorem rightP_facts {q : TQuery} (h : rightP q = true) : (∀ x ∈ q.items.l, x.names.l ≠ []) ∧ q.items.l ≠ [] ∧ q.items.l.length ≤ 6 := by
  unfold rightP at h
  simp only [Bool.and_eq_true, Bool.not_eq_true', Bool.or_eq_false_iff, decide_eq_false_iff_not] at h
  obtain ⟨⟨⟨⟨h1, -⟩, ⟨h2, h3⟩, -⟩, -⟩, -⟩ := h
  refine ⟨fun x hx => ?_, fun e => h2 (by rw [e]; rfl), by omega⟩
  obtain ⟨f, hf⟩ := itemsOk_all q.items.l [] h1 x hx
  exact rightItem_names hf

/-- A pair of an error and its place. -/
def pairD (p : Int × Int) : D := .tup [i64D p.1, i64D p.2]

theorem Check_loop (l : Sl TSchema) (q : TQuery) (fl : List (Nat × Option (Int × Int))) (hlen : fl.length = 4) (hrun : ∀ p ∈ fl, ∀ H, Run tab (.fn p.1) [l.enc schemaC, .agg (queryC q)] H (errD p.2) H) (H : Heap) (Q : PostX)
    (h1 : (∀ p ∈ fl, p.2 = none) → ∀ E H', H'.low = H.next → Q (.exit 0) E H')
    (h2 : ∀ i e, firstE (fl.map (·.2)) = (e, i) → e ≠ 0 → ∀ E H', E 4 = i64D e → E 5 = i64D i → H'.low = H.next → Q .ret E H') (hz : ∀ p ∈ fl, ∀ i e, p.2 = some (i, e) → e ≠ 0) (E : Fr) (H1 : Heap)
    (e0 : E 0 = l.enc schemaC) (e3 : E 3 = .rf H.next 0) (e14 : E 14 = .rs (H.next + 1) 0 4 (some 4) 1) (e15 : E 15 = i64D 4) (e16 : E 16 = i64D 0)
    (g0 : H1.get H.next = some (.cells (queryC q))) (g1 : H1.get (H.next + 1) = some (.cells (fl.map fun p => .fn (.func p.1) [] []))) (g2 : H1.low = H.next) (g3 : H.next + 2 ≤ H1.next) :
    LR (WR 38 tab none F_check_Check.l12) E H1 Q := by
  refine LR_rule (WR_mono _) (fun j E H' => ∃ pre suf, fl = pre ++ suf ∧ j = suf.length ∧ E 0 = l.enc schemaC ∧ E 3 = .rf H.next 0 ∧ E 14 = .rs (H.next + 1) 0 4 (some 4) 1 ∧ E 15 = i64D 4 ∧ E 16 = i64D pre.length ∧
    H'.get H.next = some (.cells (queryC q)) ∧ H'.get (H.next + 1) = some (.cells (fl.map fun p => .fn (.func p.1) [] [])) ∧ H'.low = H.next ∧ H.next + 2 ≤ H'.next ∧ ∀ p ∈ pre, p.2 = none) ?_ (j := fl.length) ⟨[], fl, by simp, rfl, e0, e3, e14, e15, e16, g0, g1, g2, g3, by simp⟩
  rintro j E H' ⟨pre, suf, hl, rfl, e0, e3, e14, e15, e16, hg, hc, hlow, hnx, hn⟩
  have hpl : pre.length + suf.length = 4 := by rw [← hlen, hl]; simp
  cases suf with
  | nil =>
    simp at hl hpl
    simp [e15, e16, hpl]
    exact h1 (by rw [hl]; exact hn) _ _ hlow
  | cons p suf =>
    simp at hpl
    have hlt' : ((pre.length : Int) < 4) = True := by simp; omega
    have hlt2 : (pre.length < 4) = True := by simp; omega
    have hw : IntKind.i64.wrap ((pre.length : Int) + 1) = (pre.length : Int) + 1 := wrap64 (by omega) (by omega)
    have hC : (fl.map fun p : Nat × Option (Int × Int) => D.fn (.func p.1) [] [])[pre.length]? = some (.fn (.func p.1) [] []) := by rw [hl]; simp
    generalize (fl.map fun p : Nat × Option (Int × Int) => D.fn (.func p.1) [] []) = C at hc hC
    have hp := fun H => (hrun p (by rw [hl]; simp) H).cK
    have n0 : ∀ k, (H.next = H'.next + k) = False := fun k => by simp; omega
    have n00 : (H.next = H'.next) = False := by simp; omega
    have n1 : ∀ k, (H.next + 1 = H'.next + k) = False := fun k => by simp; omega
    have n10 : (H.next + 1 = H'.next) = False := by simp; omega
    have hq1 : (H'.next < H.next) = False := by simp; omega
    have hq2 : (H'.next + 1 < H.next) = False := by simp; omega
    have hle : H'.low ≤ H'.next := by omega
    have hle1 : H'.low ≤ H'.next + 1 := by omega
    simp only [queryC, Sl.enc] at hg hp e0
    obtain ⟨f, o⟩ := p
    cases o with
    | none =>
      simp only [errD] at hp
      simp [e0, e3, e14, e15, e16, hlt', hlt2, hc, hC, hg, n0, n00, n1, n10, hp, As_nil, hw]
      refine ⟨suf.length, by omega, pre ++ [(f, none)], suf, by simp [hl], rfl, by simp [Sl.enc], by simp, by simp [queryC, Sl.enc], hlow, by omega, fun p hp => ?_⟩
      intro h
      rcases List.mem_append.1 h with h | h
      · exact hn _ h
      · simp at h; exact h.2
    | some v =>
      obtain ⟨i, e⟩ := v
      simp only [errD] at hp
      simp [e0, e3, e14, e15, e16, hlt', hlt2, hc, hC, hg, n0, n00, n1, n10, hp, hw]
      have hA1 := As_hit [i64D i, .ifc 30 (i64D e)] (.v (.pointer none)) H'.next ((H'.add (.cells [.v (.pointer none)])).add (.cells [i64D 0])) (by simp)
      have hA2 := As_num i e (i64D 0) (H'.next + 1) ((H'.add (.cells [.cp [i64D i, .ifc 30 (i64D e)]])).add (.cells [i64D 0])) (by simp)
      simp [hle, hle1] at hA1 hA2
      have hf : firstE (fl.map (·.2)) = (e, i) := by
        have : ∀ a : List (Nat × Option (Int × Int)), (∀ p ∈ a, p.2 = none) → ∀ r, firstE (a.map (·.2) ++ r) = firstE r := fun a => by
          induction a with
          | nil => intro _ r; rfl
          | cons p a ih =>
            intro h r
            have h1 := h p (List.mem_cons_self ..)
            simp only [List.map_cons, List.cons_append, h1, firstE]
            exact ih (fun p hp => h p (List.mem_cons_of_mem _ hp)) r
        rw [hl, List.map_append, this pre hn]
        rfl
      simp [hA1, hA2, hle, hle1]
      exact h2 i e hf (hz (f, some (i, e)) (by rw [hl]; simp) i e rfl) _ _ (by simp) (by simp) (by simp [hlow])

theorem check_Check_run (l : Sl TSchema) (q : TQuery) (H : Heap) : Run tab (.fn n_check_Check) [l.enc schemaC, .agg (queryC q)] H (pairD (checkR l.l q)) H := by
  refine cK.run (cK_fn o_check_Check t_check_Check (Nat.le_of_ble_eq_true rfl) (by decide) ?_)
  have hR := fun H => (tree_Right_run q H).cK
  have hq5 : (queryC q).take 5 = queryC q := List.take_of_length_le (by rw [queryC_len]; exact Nat.le_refl _)
  cases h : rightP q with
  | false =>
    have : checkR l.l q = (1, 0) := by unfold checkR; rw [if_neg (by rw [h]; decide)]
    rw [this]
    simp [hq5, hR, h, pairD]
  | true =>
    obtain ⟨f1, f2, f3⟩ := rightP_facts h
    have hc : checkR l.l q = firstE [namesR l.l 0 q.items.l, byR l.l q.by_ q.items.l, kindsR l.l q.items.l 0 q.preds.l, notsR q.items.l 0 q.preds.l] := by unfold checkR; rw [if_pos h]
    let fl : List (Nat × Option (Int × Int)) := [(n_check_names, namesR l.l 0 q.items.l), (n_check_by, byR l.l q.by_ q.items.l), (n_check_kinds, kindsR l.l q.items.l 0 q.preds.l), (n_check_nots, notsR q.items.l 0 q.preds.l)]
    have hrun : ∀ p ∈ fl, ∀ H, Run tab (.fn p.1) [l.enc schemaC, .agg (queryC q)] H (errD p.2) H := fun p hp H => by
      simp only [fl, List.mem_cons, List.not_mem_nil, or_false] at hp
      rcases hp with rfl | rfl | rfl | rfl
      · exact check_names_run l q H
      · exact check_by_run l q f1 f2 H
      · exact check_kinds_run l q H
      · exact check_nots_run l q (by omega) H
    have hz : ∀ p ∈ fl, ∀ i e, p.2 = some (i, e) → e ≠ 0 := fun p hp i e he => by
      simp only [fl, List.mem_cons, List.not_mem_nil, or_false] at hp
      rcases hp with rfl | rfl | rfl | rfl
      · have := namesR_code _ _ _ _ he; simp at this; omega
      · have := byR_code _ _ _ _ he; simp at this; omega
      · have := kindsR_code _ _ _ _ _ he; simp at this; omega
      · have := notsR_code _ _ _ _ he; simp at this; omega
    have hloop := Check_loop l q fl rfl hrun H
    simp [hq5, hR, h]
    refine hloop _ (fun hn E H' hlow => ?_) (fun i e hf _ E H' e4 e5 hlow => ?_) hz _ _ (by simp) (by simp) (by simp) (by simp) (by simp) (by simp) (by simp [fl]) (by simp) (by simp)
    · have e0 : checkR l.l q = (0, 0) := by
        have a1 := hn _ (show (n_check_names, namesR l.l 0 q.items.l) ∈ fl by simp [fl])
        have a2 := hn _ (show (n_check_by, byR l.l q.by_ q.items.l) ∈ fl by simp [fl])
        have a3 := hn _ (show (n_check_kinds, kindsR l.l q.items.l 0 q.preds.l) ∈ fl by simp [fl])
        have a4 := hn _ (show (n_check_nots, notsR q.items.l 0 q.preds.l) ∈ fl by simp [fl])
        simp only at a1 a2 a3 a4
        rw [hc, a1, a2, a3, a4]
        rfl
      rw [e0]
      simp [hlow, pairD]
    · have e0 : checkR l.l q = (e, i) := by rw [hc]; exact hf
      rw [e0]
      simp [e4, e5, hlow, pairD]

end Go.Proofs.YtnpoicmaiieanaaGreatDoor.Tz
