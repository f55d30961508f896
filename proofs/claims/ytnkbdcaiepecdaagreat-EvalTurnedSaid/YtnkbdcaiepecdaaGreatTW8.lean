/-
The walks of names and right values, of the references. Conditions: none.
-/
import Derived.Test.YtnkbdcaiepecdaaGreatTW7
import Derived.Test.YtnkbdcaiepecdaaGreatTS3
namespace Go.Proofs.YtnkbdcaiepecdaaGreat.Tz
open Go.Aug Go.Aug.Api
set_option maxRecDepth 100000

theorem ref04_Right_run (k n : Int) (s : ByteArray) (H : Heap) : Run tab (.fn n_auguryref04_Right) [.agg [i64D k, i64D n, strD s]] H (bD (rightV ⟨k, n, s⟩)) H := by
  refine cK.run (cK_fn o_auguryref04_Right t_auguryref04_Right (Nat.le_of_ble_eq_true rfl) (by decide) ?_)
  simp
  repeat' (refine gK_of (fun h => ?_) (fun h => ?_) <;> (try simp [h]))
  all_goals grind [rightV, maxNum, emptyS]

theorem ref05_Word_run (s : ByteArray) (hs : s.size ≤ big) (H : Heap) : Run tab (.fn n_auguryref05_Word) [strD s] H (bD (wordS s)) H := by
  refine cK.run (cK_fn o_auguryref05_Word t_auguryref05_Word (Nat.le_of_ble_eq_true rfl) (by decide) ?_)
  simp
  refine LR_rule (WR_mono _) (fun j E H' => H' = low0 H ∧ ∃ pre suf, s.data.toList = pre ++ suf ∧ j = suf.length ∧ E 0 = strD s ∧ E 3 = i64D pre.length ∧ wordL true pre = true) ?_ (j := s.data.toList.length) ⟨rfl, [], s.data.toList, by simp, rfl, by simp, by simp, rfl⟩
  rintro j E H' ⟨rfl, pre, suf, hl, rfl, e0, e3, hp⟩
  have hsz := size_list s
  cases suf with
  | nil =>
    simp at hl
    have hlt' : ((pre.length : Int) < (s.size : Int)) = False := by rw [hsz, hl]; simp
    simp [e0, e3, hlt']
    have hl2 : s.data.toList = pre := hl
    refine gK_of (fun h => ?_) (fun h => ?_)
    · simp [h, e0]
      have h1 : 1 ≤ s.size := by have := of_decide_eq_true h; omega
      by_cases h16 : s.size ≤ 16
      · have : (s.size : Int) ≤ 16 := by omega
        simp [wordS, hl2, hp, h1, h16, this]
      · have : ¬ (s.size : Int) ≤ 16 := by omega
        simp [-Int.not_le, -Nat.not_le, wordS, hl2, hp, h1, h16, this]
    · simp [h]
      have h' := of_decide_eq_false h
      have : ¬ (1 ≤ s.size) := by omega
      simp [wordS, this]
  | cons b suf =>
    have hlt : pre.length < s.size := by rw [hsz, hl]; simp
    have hlt' : ((pre.length : Int) < (s.size : Int)) = True := by simp; omega
    have hw := wrap_more hlt hs
    simp [e0, e3, hlt', idxS_zip s pre b suf hl]
    have hword : wordS s = (okB pre.isEmpty (b.toNat : Int) && (wordL false suf && decide (1 ≤ s.size) && decide (s.size ≤ 16))) := by
      simp only [wordS, hl, wordL_append, hp, wordL]
      cases pre <;> simp [Bool.and_assoc]
    have stop : okB pre.isEmpty (b.toNat : Int) = false → wordS s = false := fun h => by rw [hword, h]; rfl
    have go : okB pre.isEmpty (b.toNat : Int) = true → ∃ j', j' < suf.length + 1 ∧ ∃ pre_1 suf, s.data.toList = pre_1 ++ suf ∧ j' = suf.length ∧ (pre.length : Int) + 1 = (pre_1.length : Int) ∧ wordL true pre_1 = true := fun h =>
      ⟨suf.length, by omega, pre ++ [b], suf, by simp [hl], rfl, by simp, by simp [wordL_append, hp, wordL]; exact h⟩
    have hemp : decide (pre = []) = pre.isEmpty := by cases pre <;> rfl
    repeat' (refine gK_of (fun h => ?_) (fun h => ?_) <;> (try simp [h, e0, e3, hw, gK_not]))
    all_goals first | exact stop (by simp_all [okB] <;> omega) | exact go (by simp_all [okB] <;> omega) | exact stop (by simp_all [okB]) | exact go (by simp_all [okB])

theorem ref07_Key_run (s : ByteArray) (H : Heap) : Run tab (.fn n_auguryref07_Key) [strD s] H (bD (keyS s)) H := by
  refine cK.run (cK_fn o_auguryref07_Key t_auguryref07_Key (Nat.le_of_ble_eq_true rfl) (by decide) ?_)
  simp
  refine LR_rule (WR_mono _) (fun j E H' => H' = (low0 H).add (.cells (keysL.flatMap strC)) ∧ ∃ pre suf, keysL = pre ++ suf ∧ j = suf.length ∧ E 0 = strD s ∧ E 3 = .rs H.next 0 18 (some 18) 1 ∧ E 4 = i64D pre.length ∧ (∀ k ∈ pre, k ≠ s)) ?_ (j := 18)
    ⟨by simp [keysL, strC], [], keysL, by simp, rfl, by simp, by simp, by simp, by simp⟩
  rintro j E H' ⟨rfl, pre, suf, hl, rfl, e0, e3, e4, hp⟩
  have hlen : pre.length + suf.length = 18 := by
    have := congrArg List.length hl
    simp [keysL] at this
    omega
  cases suf with
  | nil =>
    simp at hl hlen
    simp [e3, e4, hlen]
    have : keyS s = false := by
      simp only [keyS, List.any_eq_false, decide_eq_true_eq]
      intro k hk
      exact hp k (hl ▸ hk)
    simp [this]
  | cons k suf =>
    simp at hlen
    have hlt' : ((pre.length : Int) < 18) = True := by simp; omega
    have hw : IntKind.i64.wrap ((pre.length : Int) + 1) = (pre.length : Int) + 1 := wrap64 (by omega) (by omega)
    have hd : (keysL.flatMap strC).drop pre.length = strD k :: suf.flatMap strC := by
      have := drop_zip strC_len pre (k :: suf)
      rw [← hl, Nat.mul_one] at this
      rw [this]
      rfl
    simp [e0, e3, e4, hlt', hd]
    refine gK_of (fun h => ?_) (fun h => ?_)
    · simp
      simp only [keyS]
      have hk : k ∈ keysL := by rw [hl]; simp
      have hany : (keysL.any fun k => decide (k = s)) = true := by rw [List.any_eq_true]; exact ⟨k, hk, h⟩
      rw [hany]
    · simp [e0, e3, e4, hw]
      refine ⟨suf.length, by omega, pre ++ [k], suf, by simp [hl], rfl, by simp, fun x hx => ?_⟩
      rcases List.mem_append.1 hx with hx | hx
      · exact hp x hx
      · simp at hx; subst hx; exact of_decide_eq_false h

theorem ref08_Name_run (s : ByteArray) (hs : s.size ≤ big) (H : Heap) : Run tab (.fn n_auguryref08_Name) [strD s] H (bD (nameS s)) H := by
  refine cK.run (cK_fn o_auguryref08_Name t_auguryref08_Name (Nat.le_of_ble_eq_true rfl) (by decide) ?_)
  simp [(ref05_Word_run s hs _).cK]
  refine gK_of (fun h => ?_) (fun h => ?_)
  · simp [h, (ref07_Key_run s _).cK, nameS]
  · simp [h, nameS]

end Go.Proofs.YtnkbdcaiepecdaaGreat.Tz
