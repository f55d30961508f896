/-
The walk of the reference's Print, of right queries. Conditions: none.
-/
import Derived.Test.YthdkeggdipogoaaGreatDoorTWp
import Derived.Test.YthdkeggdipogoaaGreatDoorTWD
import Derived.Test.YthdkeggdipogoaaGreatDoorGU
namespace Go.Proofs.YthdkeggdipogoaaGreatDoor.Tz
open Go.Aug Go.Aug.Api
set_option maxRecDepth 100000
def jT (sep : ByteArray) (l : List ByteArray) : ByteArray := ⟨(joinB l sep).toArray⟩
theorem jT_nil (sep : ByteArray) : jT sep [] = ⟨#[]⟩ := rfl
theorem jT_one (sep x : ByteArray) : jT sep [x] = x := by
  unfold jT joinB
  exact ByteArray.ext (by simp [Lib.join_one])
theorem jT_snoc (sep : ByteArray) (l : List ByteArray) (x : ByteArray) (h : l ≠ []) : jT sep (l ++ [x]) = jT sep l ++ sep ++ x := by
  cases l with
  | nil => exact absurd rfl h
  | cons a l =>
    unfold jT joinB
    refine ByteArray.ext ?_
    simp [Lib.join_cons, Lib.joinTail, ByteArray.data_append]
theorem jT_size (sep : ByteArray) (l : List ByteArray) : (jT sep l).size = (joinB l sep).length := by
  show (joinB l sep).toArray.size = _
  simp
def seqB : ByteArray := ⟨#[115, 101, 113, 32]⟩
def whereB : ByteArray := ⟨#[32, 119, 104, 101, 114, 101, 32]⟩
def withinB : ByteArray := ⟨#[32, 119, 105, 116, 104, 105, 110, 32]⟩
def byB : ByteArray := ⟨#[32, 98, 121, 32]⟩
def pickkB : ByteArray := ⟨#[32, 112, 105, 99, 107, 32]⟩
def notB : ByteArray := ⟨#[110, 111, 116, 32]⟩
def itemsT (l : List TItem) : ByteArray := seqB ++ jT thenB (l.map itemW)
def predsT (l : List TPred) : ByteArray := match l with
  | [] => ⟨#[]⟩
  | p :: l => whereB ++ jT andB ((p :: l).map predS)
def tailT (q : TQuery) : ByteArray := withinB ++ ⟨(Lib.itoa q.within).toArray⟩ ++ (if q.by_ = ⟨#[]⟩ then ⟨#[]⟩ else byB ++ q.by_) ++ pickkB ++ pickW q.pick
def textR (q : TQuery) : ByteArray := itemsT q.items.l ++ predsT q.preds.l ++ tailT q
theorem items_size {l : List TItem} (h : ∀ x ∈ l, ∃ b, rightItem x b = true) (h6 : l.length ≤ 6) : (itemsT l).size ≤ 600 := by
  have hsz : ∀ x ∈ l.map itemW, x.size ≤ 82 := fun x hx => by
    obtain ⟨y, hy, rfl⟩ := List.mem_map.1 hx
    obtain ⟨b, hb⟩ := h y hy
    exact (item_sizes hb).2.2
  have hj := join_size (l.map itemW) thenB 82 hsz
  have e6 : thenB.size = 6 := rfl
  have e4 : seqB.size = 4 := rfl
  rw [e6, List.length_map] at hj
  unfold itemsT
  rw [ByteArray.size_append, jT_size, e4]
  omega
theorem preds_size {l : List TPred} (h : ∀ p ∈ l, predX p = true) (h8 : l.length ≤ 8) : (predsT l).size ≤ 110000 := by
  match l, h, h8 with
  | [], _, _ => exact Nat.zero_le _
  | p :: l, h, h8 =>
    have hsz : ∀ x ∈ (p :: l).map predS, x.size ≤ 13000 := fun x hx => by
      obtain ⟨y, hy, rfl⟩ := List.mem_map.1 hx
      exact pred_size (h y hy)
    have hj := join_size ((p :: l).map predS) andB 13000 hsz
    have e6 : andB.size = 5 := rfl
    have e4 : whereB.size = 7 := rfl
    rw [e6, List.length_map] at hj
    show (whereB ++ jT andB _).size ≤ _
    rw [ByteArray.size_append, jT_size, e4]
    omega
theorem names_size {l : List ByteArray} (h : ∀ x ∈ l, nameS x = true) (h3 : l.length ≤ 3) : (jT orB l).size ≤ 60 := by
  have hj := join_size l orB 16 fun s hs => name_size (h s hs)
  have e4 : orB.size = 4 := rfl
  rw [e4] at hj
  rw [jT_size]
  omega
theorem Print_names (x : TItem) {b : Bool} (hx : rightItem x b = true) (B : ByteArray) (hB : B.size ≤ 700) (d1 d4 : D) (E : Fr) (H : Heap) (r : Nat) (Q : PostX) (e1 : E 1 = d1) (e4 : E 4 = d4) (e3 : E 3 = strD B) (e5 : E 5 = .rf r 0) (e6 : E 6 = i64D 0) (g : H.get r = some (.cells (itemC x)))
    (h : ∀ E', E' 1 = d1 → E' 4 = d4 → E' 5 = .rf r 0 → E' 3 = strD (B ++ jT orB x.names.l) → Q (.exit 2) E' H) :
    LR (WR 123 tab none F_q20.l17) E H Q := by
  obtain ⟨h1, h2, h3, h4, h5⟩ := rightItem_parts hx
  refine LR_rule (WR_mono _) (fun j E' H' => H' = H ∧ ∃ pre suf, x.names.l = pre ++ suf ∧ j = suf.length ∧ E' 1 = d1 ∧ E' 4 = d4 ∧ E' 5 = .rf r 0 ∧ E' 3 = strD (B ++ jT orB pre) ∧ E' 6 = i64D pre.length) ?_ (j := x.names.l.length) ⟨rfl, [], x.names.l, rfl, rfl, e1, e4, e5, ?_, e6⟩
  rotate_left
  · rw [e3, jT_nil]
    congr 1
    exact ByteArray.ext (by simp [ByteArray.data_append])
  rintro j E' H' ⟨rfl, pre, suf, hl, rfl, f1, f4, f5, f3, f6⟩
  have hok := x.names.ok
  cases suf with
  | nil =>
    simp at hl
    have hlt' : ((pre.length : Int) < (x.names.l.length : Int)) = False := by simp [hl]
    simp [f5, f6, g, itemC, Sl.enc, hlt']
    refine h _ ?_ ?_ ?_ ?_
    · simp [f1]
    · simp [f4]
    · simp [f5]
    · simp [f3, hl]
  | cons s suf =>
    have hlt : pre.length < x.names.l.length := by rw [hl]; simp
    have hlt' : ((pre.length : Int) < (x.names.l.length : Int)) = True := by simp; omega
    have hw := wrap_more hlt hok
    have ea := elem_at strC_len x.names.rep x.names.l .i64 pre.length s (by rw [hl]; simp)
    have hs := name_size (h5 s (by rw [hl]; simp))
    have hp := names_size (l := pre) (fun y hy => h5 y (by rw [hl]; simp [hy])) (by omega)
    have e4 : orB.size = 4 := rfl
    have hld : ∀ (H : Heap) (rest : List D), evLoad H none (.cp (strC s ++ rest)) = some (strD s) := fun H rest => by simp [strC]
    cases pre with
    | nil =>
      have a1 := bin_addS (B ++ jT orB []) s (by rw [jT_nil, ByteArray.size_append]; show B.size + 0 + s.size ≤ _; omega)
      have hj : B ++ jT orB [] ++ s = B ++ jT orB ([] ++ [s]) := by
        rw [jT_nil, List.nil_append, jT_one]
        congr 1
        exact ByteArray.ext (by simp [ByteArray.data_append])
      rw [hj] at a1
      simp at hlt' ea f6
      have w1 : IntKind.i64.wrap 1 = 1 := by decide
      simp [f1, f3, f4, f5, f6, g, itemC, Sl.enc, hlt', ea, hld, a1, w1]
      exact ⟨suf.length, by omega, [s], suf, by simp [hl], rfl, rfl, rfl⟩
    | cons p0 pre =>
      have a0 := bin_addS (B ++ jT orB (p0 :: pre)) orB (by rw [ByteArray.size_append, e4]; omega)
      have a1 := bin_addS (B ++ jT orB (p0 :: pre) ++ orB) s (by rw [ByteArray.size_append, ByteArray.size_append, e4]; omega)
      have hj : B ++ jT orB (p0 :: pre) ++ orB ++ s = B ++ jT orB (p0 :: pre ++ [s]) := by
        rw [jT_snoc _ _ _ (by simp)]
        simp only [ByteArray.append_assoc]
      rw [hj] at a1
      have h0 : 0 < (p0 :: pre).length := by simp
      simp only [orB] at a0 a1
      generalize p0 :: pre = P at *
      simp [f1, f3, f4, f5, f6, g, itemC, Sl.enc, hlt', ea, hld, a0, a1, hw, h0, orB]
      exact ⟨suf.length, by omega, P ++ [s], suf, by simp [hl], rfl, rfl, by simp⟩
structure PrintAt (q : TQuery) (b : Nat) (B : ByteArray) (E : Fr) (H : Heap) : Prop where
  e1 : E 1 = .rf b 0
  e3 : E 3 = strD B
  g : H.get b = some (.cells (queryC q))
  lb : b < H.next
  lo : b ≤ H.low
  lh : H.low ≤ H.next
theorem itemsT_snoc (pre : List TItem) (x : TItem) : itemsT (pre ++ [x]) = (if pre = [] then itemsT pre else itemsT pre ++ thenB) ++ itemW x := by
  unfold itemsT
  by_cases h : pre = []
  · subst h
    rw [if_pos rfl, List.nil_append, List.map_cons, List.map_nil, jT_one, jT_nil]
    congr 1
  · rw [if_neg h, List.map_append, List.map_cons, List.map_nil, jT_snoc _ _ _ (by simpa using h)]
    simp only [ByteArray.append_assoc]
theorem itemW_eq (x : TItem) : itemW x = (if x.not = true then notB else ⟨#[]⟩) ++ (jT orB x.names.l ++ (⟨#[32]⟩ ++ (x.var ++ modeS x.mode))) := by
  unfold itemW bareW jT notB
  split
  · simp only [ByteArray.append_assoc]
  · rw [ByteArray.append_assoc, ByteArray.append_assoc]
    exact ByteArray.ext (by simp [ByteArray.data_append])
theorem Print_items (q : TQuery) (hr : rightP q = true) (b : Nat) (E : Fr) (H : Heap) (Q : PostX) (h0 : PrintAt q b seqB E H) (e4 : E 4 = i64D 0)
    (h : ∀ E' H', PrintAt q b (itemsT q.items.l) E' H' → Q (.exit 0) E' H') : LR (WR 123 tab none F_q20.l24) E H Q := by
  obtain ⟨a1, a2, a3, a4, a5, a6, a7, a8, a9, a10⟩ := right_parts hr
  have hit := items_right a1
  refine LR_rule (WR_mono _) (fun j E' H' => ∃ pre suf, q.items.l = pre ++ suf ∧ j = suf.length ∧ PrintAt q b (itemsT pre) E' H' ∧ E' 4 = i64D pre.length) ?_ (j := q.items.l.length) ⟨[], q.items.l, rfl, rfl, ?_, e4⟩
  rotate_left
  · have : itemsT [] = seqB := ByteArray.ext (by simp [itemsT, jT_nil, ByteArray.data_append])
    rw [this]
    exact h0
  clear h0 e4 E H
  rintro j E H ⟨pre, suf, hl, rfl, ⟨e1, e3, g, lb, lo, lh⟩, e4⟩
  cases suf with
  | nil =>
    simp at hl
    have hlt' : ((pre.length : Int) < (q.items.l.length : Int)) = False := by simp [hl]
    rw [← hl] at e3
    simp [e1, e4, g, queryC, Sl.enc, hlt']
    exact h _ _ ⟨by simp [e1], by simp [e3], g, lb, lo, lh⟩
  | cons x suf =>
    have hlt : pre.length < q.items.l.length := by rw [hl]; simp
    have hlt' : ((pre.length : Int) < (q.items.l.length : Int)) = True := by simp; omega
    have hw : IntKind.i64.wrap ((pre.length : Int) + 1) = (pre.length : Int) + 1 := wrap64 (by omega) (by omega)
    have ea := elem_at itemC_len q.items.rep q.items.l .i64 pre.length x (by rw [hl]; simp)
    obtain ⟨bx, hx⟩ := hit x (by rw [hl]; simp)
    obtain ⟨h1, h2, h3, h4, h5⟩ := rightItem_parts hx
    have hsz := items_size (l := pre) (fun y hy => hit y (by rw [hl]; simp [hy])) (by omega)
    have hn := names_size h5 h2
    have hv := name_size h1
    have hm : (modeS x.mode).size ≤ 1 := by unfold modeS; split <;> (try split) <;> decide
    have hms : x.mode = 1 ∨ x.mode = 2 ∨ x.mode = 3 := by omega
    have s6 : thenB.size = 6 := rfl
    have s4 : notB.size = 4 := rfl
    have s1 : ∀ b : UInt8, (⟨#[b]⟩ : ByteArray).size = 1 := fun _ => rfl
    -- ahead of the names
    obtain ⟨B, hB⟩ : ∃ B, B = (if pre = [] then itemsT pre else itemsT pre ++ thenB) ++ (if x.not = true then notB else ⟨#[]⟩) := ⟨_, rfl⟩
    have hBs : B.size ≤ 610 := by
      have s0 : (⟨#[]⟩ : ByteArray).size = 0 := rfl
      rw [hB]
      split <;> split <;> simp only [ByteArray.size_append, s6, s4, s0] <;> omega
    have hfin : itemsT (pre ++ [x]) = B ++ jT orB x.names.l ++ ⟨#[32]⟩ ++ x.var ++ modeS x.mode := by
      rw [itemsT_snoc, itemW_eq, hB]
      simp only [ByteArray.append_assoc]
    generalize hJ : jT orB x.names.l = J at *
    have b1 := bin_addS (B ++ J) ⟨#[32]⟩ (by simp only [ByteArray.size_append, s1]; omega)
    have b2 := bin_addS (B ++ J ++ ⟨#[32]⟩) x.var (by simp only [ByteArray.size_append, s1]; omega)
    have b3 := bin_addS (B ++ J ++ ⟨#[32]⟩ ++ x.var) (modeS x.mode) (by simp only [ByteArray.size_append, s1]; omega)
    have hne : ∀ k, (b = H.next + k) = False := by simp; omega
    have hne0 : (b = H.next) = False := by simp; omega
    have c1 := bin_addS (itemsT pre) thenB (by rw [s6]; omega)
    have c2 := bin_addS (itemsT pre) notB (by rw [s4]; omega)
    have c3 := bin_addS (itemsT pre ++ thenB) notB (by rw [ByteArray.size_append, s6, s4]; omega)
    simp only [thenB, notB] at c1 c2 c3 hB
    have z0 : ∀ s : ByteArray, s ++ ⟨#[]⟩ = s := fun s => ByteArray.ext (by simp [ByteArray.data_append])
    have tl : ∀ (E1 : Fr) (H1 : Heap) (Q1 : PostX), E1 1 = .rf b 0 → E1 4 = i64D pre.length → E1 5 = .rf H.next 0 → E1 3 = strD B → E1 6 = i64D 0 → H1 = H.add (.cells (itemC x)) →
        (∀ E', E' 1 = .rf b 0 → E' 4 = i64D pre.length → E' 5 = .rf H.next 0 → E' 3 = strD (B ++ J) → Q1 (.exit 2) E' H1) → LR (WR 123 tab none F_q20.l17) E1 H1 Q1 := fun E1 H1 Q1 k1 k4 k5 k3 k6 hH hk => by
      subst hH
      refine Print_names x hx B (by omega) (.rf b 0) (i64D pre.length) E1 _ H.next Q1 k1 k4 k3 k5 k6 (by simp) fun E' m1 m4 m5 m3 => ?_
      rw [hJ] at m3
      exact hk E' m1 m4 m5 m3
    have hlh : H.low ≤ H.next + 1 := by omega
    by_cases hp0 : pre = []
    · have hp1 : ¬ 0 < pre.length := by simp [hp0]
      rw [if_pos hp0] at hB
      cases hnot : x.not with
      | true =>
        rw [hnot, if_pos rfl] at hB
        rw [← hB] at c2
        simp [e1, e3, e4, g, queryC, Sl.enc, hlt', ea, load_elem _ _ _ _ (itemC_len x), setAll_item, hp1, itemC, hnot, c2, hne, hne0, lh]
        refine tl _ _ _ (by simp [e1]) (by simp [e4]) (by simp) (by simp [hB]) (by simp) (by simp [itemC, Sl.enc, hnot]) fun E' m1 m4 m5 m3 => ?_
        rcases hms with hmm | hmm | hmm <;> rw [hmm] at hfin b3 <;> simp only [modeS] at hfin b3 <;> simp at hfin b3 <;> simp [m1, m3, m4, m5, b1, b2, b3, hmm, hw]
        all_goals
          refine ⟨suf.length, by omega, pre ++ [x], suf, by simp [hl], rfl, ⟨by simp [m1], ?_, by simpa [hne0] using g, by simp; omega, by simpa using lo, by simp; omega⟩, by simp⟩
          simp [m3, hfin, z0]
      | false =>
        rw [hnot, if_neg (by decide), z0] at hB
        simp [e1, e3, e4, g, queryC, Sl.enc, hlt', ea, load_elem _ _ _ _ (itemC_len x), setAll_item, hp1, itemC, hnot, hne, hne0, lh]
        refine tl _ _ _ (by simp [e1]) (by simp [e4]) (by simp) (by simp [hB, e3]) (by simp) (by simp [itemC, Sl.enc, hnot]) fun E' m1 m4 m5 m3 => ?_
        rcases hms with hmm | hmm | hmm <;> rw [hmm] at hfin b3 <;> simp only [modeS] at hfin b3 <;> simp at hfin b3 <;> simp [m1, m3, m4, m5, b1, b2, b3, hmm, hw]
        all_goals
          refine ⟨suf.length, by omega, pre ++ [x], suf, by simp [hl], rfl, ⟨by simp [m1], ?_, by simpa [hne0] using g, by simp; omega, by simpa using lo, by simp; omega⟩, by simp⟩
          simp [m3, hfin, z0]
    · have hp1 : 0 < pre.length := List.length_pos_iff.2 hp0
      rw [if_neg hp0] at hB
      cases hnot : x.not with
      | true =>
        rw [hnot, if_pos rfl] at hB
        rw [← hB] at c3
        simp [e1, e3, e4, g, queryC, Sl.enc, hlt', ea, load_elem _ _ _ _ (itemC_len x), setAll_item, hp1, itemC, hnot, c1, c3, hne, hne0, lh]
        refine tl _ _ _ (by simp [e1]) (by simp [e4]) (by simp) (by simp [hB]) (by simp) (by simp [itemC, Sl.enc, hnot]) fun E' m1 m4 m5 m3 => ?_
        rcases hms with hmm | hmm | hmm <;> rw [hmm] at hfin b3 <;> simp only [modeS] at hfin b3 <;> simp at hfin b3 <;> simp [m1, m3, m4, m5, b1, b2, b3, hmm, hw]
        all_goals
          refine ⟨suf.length, by omega, pre ++ [x], suf, by simp [hl], rfl, ⟨by simp [m1], ?_, by simpa [hne0] using g, by simp; omega, by simpa using lo, by simp; omega⟩, by simp⟩
          simp [m3, hfin, z0]
      | false =>
        rw [hnot, if_neg (by decide), z0] at hB
        rw [← hB] at c1
        simp [e1, e3, e4, g, queryC, Sl.enc, hlt', ea, load_elem _ _ _ _ (itemC_len x), setAll_item, hp1, itemC, hnot, c1, hne, hne0, lh]
        refine tl _ _ _ (by simp [e1]) (by simp [e4]) (by simp) (by simp [hB]) (by simp) (by simp [itemC, Sl.enc, hnot]) fun E' m1 m4 m5 m3 => ?_
        rcases hms with hmm | hmm | hmm <;> rw [hmm] at hfin b3 <;> simp only [modeS] at hfin b3 <;> simp at hfin b3 <;> simp [m1, m3, m4, m5, b1, b2, b3, hmm, hw]
        all_goals
          refine ⟨suf.length, by omega, pre ++ [x], suf, by simp [hl], rfl, ⟨by simp [m1], ?_, by simpa [hne0] using g, by simp; omega, by simpa using lo, by simp; omega⟩, by simp⟩
          simp [m3, hfin, z0]
theorem predsT_snoc (pre : List TPred) (p : TPred) : predsT (pre ++ [p]) = predsT pre ++ (if pre = [] then whereB else andB) ++ predS p := by
  cases pre with
  | nil =>
    rw [if_pos rfl, List.nil_append]
    show whereB ++ jT andB [predS p] = ⟨#[]⟩ ++ whereB ++ predS p
    rw [jT_one]
    exact ByteArray.ext (by simp [ByteArray.data_append])
  | cons a l =>
    rw [if_neg (by simp)]
    show whereB ++ jT andB ((a :: l ++ [p]).map predS) = whereB ++ jT andB ((a :: l).map predS) ++ andB ++ predS p
    have e : (a :: l ++ [p]).map predS = (a :: l).map predS ++ [predS p] := by simp
    rw [e, jT_snoc _ _ _ (by simp)]
    simp only [ByteArray.append_assoc]
theorem Print_preds (q : TQuery) (hr : rightP q = true) (b : Nat) (E : Fr) (H : Heap) (Q : PostX) (h0 : PrintAt q b (itemsT q.items.l) E H) (e7 : E 7 = i64D 0)
    (h : ∀ E' H', PrintAt q b (itemsT q.items.l ++ predsT q.preds.l) E' H' → Q (.exit 4) E' H') : LR (WR 123 tab none F_q20.l32) E H Q := by
  obtain ⟨a1, a2, a3, a4, a5, a6, a7, a8, a9, a10⟩ := right_parts hr
  have hi := items_size (items_right a1) a4
  generalize itemsT q.items.l = I at *
  have z0 : ∀ s : ByteArray, s ++ ⟨#[]⟩ = s := fun s => ByteArray.ext (by simp [ByteArray.data_append])
  refine LR_rule (WR_mono _) (fun j E' H' => ∃ pre suf, q.preds.l = pre ++ suf ∧ j = suf.length ∧ PrintAt q b (I ++ predsT pre) E' H' ∧ E' 7 = i64D pre.length) ?_ (j := q.preds.l.length) ⟨[], q.preds.l, rfl, rfl, by rw [predsT, z0]; exact h0, e7⟩
  clear h0 e7 E H
  rintro j E H ⟨pre, suf, hl, rfl, ⟨e1, e3, g, lb, lo, lh⟩, e7⟩
  cases suf with
  | nil =>
    simp at hl
    have hlt' : ((pre.length : Int) < (q.preds.l.length : Int)) = False := by simp [hl]
    rw [← hl] at e3
    simp [e1, e7, g, queryC, Sl.enc, hlt']
    exact h _ _ ⟨by simp [e1], by simp [e3], g, lb, lo, lh⟩
  | cons p suf =>
    have hlt : pre.length < q.preds.l.length := by rw [hl]; simp
    have hlt' : ((pre.length : Int) < (q.preds.l.length : Int)) = True := by simp; omega
    have hw : IntKind.i64.wrap ((pre.length : Int) + 1) = (pre.length : Int) + 1 := wrap64 (by omega) (by omega)
    have ea := elem_at predC_len q.preds.rep q.preds.l .i64 pre.length p (by rw [hl]; simp)
    have hx : ∀ y ∈ q.preds.l, predX y = true := List.all_eq_true.1 a2
    have hp := hx p (by rw [hl]; simp)
    have hps := preds_size (l := pre) (fun y hy => hx y (by rw [hl]; simp [hy])) (by omega)
    have hsz := pred_size hp
    have hp' := hp
    unfold predX at hp'
    simp only [Bool.and_eq_true, decide_eq_true_eq] at hp'
    have hL := fun H => (ref08_expr_run p.L p.okL 6 (by decide) hp'.1.2 H).cK
    have hR := fun H => (ref08_expr_run p.R p.okR 6 (by decide) hp'.2 H).cK
    have hS := fun H => (ref08_Sign_run p.cmp ⟨hp'.1.1.1, hp'.1.1.2⟩ H).cK
    have s1 : ∀ b : UInt8, (⟨#[b]⟩ : ByteArray).size = 1 := fun _ => rfl
    obtain ⟨M, hM⟩ : ∃ M, M = (if pre = [] then whereB else andB) := ⟨_, rfl⟩
    have hMs : M.size ≤ 7 := by rw [hM]; split <;> decide
    have hfin : I ++ predsT (pre ++ [p]) = I ++ predsT pre ++ M ++ writtenS p.L ++ ⟨#[32]⟩ ++ signS p.cmp ++ ⟨#[32]⟩ ++ writtenS p.R := by
      rw [predsT_snoc, ← hM]
      simp only [ByteArray.append_assoc, predS]
    unfold predS at hsz
    simp only [ByteArray.size_append, s1] at hsz
    generalize hP : I ++ predsT pre = P at *
    have hPs : P.size ≤ 110600 := by rw [← hP, ByteArray.size_append]; omega
    generalize writtenS p.L = x1 at *
    generalize writtenS p.R = x2 at *
    generalize signS p.cmp = x3 at *
    have b0 := bin_addS P M (by omega)
    have b1 := bin_addS (P ++ M) x1 (by simp only [ByteArray.size_append, s1]; omega)
    have b2 := bin_addS (P ++ M ++ x1) ⟨#[32]⟩ (by simp only [ByteArray.size_append, s1]; omega)
    have b3 := bin_addS (P ++ M ++ x1 ++ ⟨#[32]⟩) x3 (by simp only [ByteArray.size_append, s1]; omega)
    have b4 := bin_addS (P ++ M ++ x1 ++ ⟨#[32]⟩ ++ x3) ⟨#[32]⟩ (by simp only [ByteArray.size_append, s1]; omega)
    have b5 := bin_addS (P ++ M ++ x1 ++ ⟨#[32]⟩ ++ x3 ++ ⟨#[32]⟩) x2 (by simp only [ByteArray.size_append, s1]; omega)
    rw [← hfin] at b5
    have tL : ∀ X : List D, List.take 7 (predC p ++ X).tail = exprC p.L := fun X => by
      show ((exprC p.L ++ exprC p.R) ++ X).take 7 = _
      rw [List.append_assoc]
      exact List.take_left' (exprC_len p.L)
    have tR : ∀ X : List D, List.take 7 (List.drop 8 (predC p ++ X)) = exprC p.R := fun X => by
      show (((exprC p.L ++ exprC p.R) ++ X).drop 7).take 7 = _
      rw [List.append_assoc, List.drop_left' (exprC_len p.L)]
      exact List.take_left' (exprC_len p.R)
    have t0 : ∀ X : List D, (predC p ++ X)[0]? = some (i64D p.cmp) := fun X => rfl
    have g14 : ∀ n : Nat, 7 ≤ 14 + n := fun n => by omega
    have g7 : ∀ n : Nat, 7 ≤ 15 + n - 8 := fun n => by omega
    by_cases hp0 : pre = []
    · rw [if_pos hp0] at hM
      have hp1 : pre.length = 0 := by simp [hp0]
      have h0 : 0 < q.preds.l.length := by omega
      have w1 : IntKind.i64.wrap 1 = 1 := by decide
      rw [whereB] at hM
      rw [hM] at *
      simp [hp1] at ea
      simp [e1, e3, e7, g, queryC, Sl.enc, h0, ea, hp1, b0, b1, b2, b3, b4, b5, hL, hR, hS, w1, lh, tL, tR, t0, g14, g7]
      refine ⟨suf.length, by omega, pre ++ [p], suf, by simp [hl], rfl, ⟨by simp [e1], ?_, by simpa [queryC, Sl.enc] using g, by simpa using lb, by simpa using lo, by simpa using lh⟩, by simp [hp1]⟩
      simp [hfin]
    · rw [if_neg hp0] at hM
      have hp1 : ¬ pre.length = 0 := by simpa using hp0
      rw [andB] at hM
      rw [hM] at *
      simp [e1, e3, e7, g, queryC, Sl.enc, hlt', ea, hp1, b0, b1, b2, b3, b4, b5, hL, hR, hS, hw, lh, tL, tR, t0, g14, g7]
      refine ⟨suf.length, by omega, pre ++ [p], suf, by simp [hl], rfl, ⟨by simp [e1], ?_, by simpa [queryC, Sl.enc] using g, by simpa using lb, by simpa using lo, by simpa using lh⟩, by simp⟩
      simp [hfin]
theorem pickW_size (c : Int) : (pickW c).size ≤ 6 := by unfold pickW; split <;> (try split) <;> decide
theorem itoa_size {n : Int} (h : -9000000000000000000 ≤ n) (h2 : n ≤ 9000000000000000000) : (⟨(Lib.itoa n).toArray⟩ : ByteArray).size ≤ 21 := by
  have := Lib.itoa_length_le n (by omega) (by omega)
  show (Lib.itoa n).toArray.size ≤ 21
  simpa using this
theorem ref08_Print_run (q : TQuery) (hr : rightP q = true) (H : Heap) : Run tab (.fn n_q20) [.agg (queryC q)] H (strD (textR q)) H := by
  refine cK.run (cK_fn o_q20 t_q20 (Nat.le_of_ble_eq_true rfl) (by decide) ?_)
  obtain ⟨a1, a2, a3, a4, a5, a6, a7, a8, a9, a10⟩ := right_parts hr
  have hR := fun H => (ref08_Right_run q H).cK
  rw [rightQ_eq, hr] at hR
  have hq5 : (queryC q).take 5 = queryC q := List.take_of_length_le (by rw [queryC_len]; exact Nat.le_refl _)
  have hm : maxNum = 1099511627776 := rfl
  have hi := items_size (items_right a1) a4
  have hps := preds_size (l := q.preds.l) (List.all_eq_true.1 a2) a5
  have hT := fun H => (ref08_text_run q.within (by omega) (by omega) H).cK
  have hP := fun H => (ref08_pick_run q.pick ⟨a8, a9⟩ H).cK
  have ts := itoa_size (n := q.within) (by omega) (by omega)
  have pw := pickW_size q.pick
  have hb : q.by_.size ≤ 16 := by
    rcases a10 with h | h
    · rw [h]; exact Nat.zero_le _
    · exact name_size h
  simp [hR, hq5]
  refine Print_items q hr H.next _ _ _ ⟨by simp, by simp [seqB], by simp, by simp, by simp, by simp⟩ (by simp) fun E1 H1 p1 => ?_
  simp
  refine Print_preds q hr H.next _ _ _ ⟨by simp [p1.e1], by simp [p1.e3], p1.g, p1.lb, p1.lo, p1.lh⟩ (by simp) fun E2 H2 ⟨e1, e3, g, lb, lo, lh⟩ => ?_
  have hfin : textR q = itemsT q.items.l ++ predsT q.preds.l ++ withinB ++ ⟨(Lib.itoa q.within).toArray⟩ ++ (if q.by_ = ⟨#[]⟩ then ⟨#[]⟩ else byB ++ q.by_) ++ pickkB ++ pickW q.pick := by
    unfold textR tailT
    simp only [ByteArray.append_assoc]
  have s8 : withinB.size = 8 := rfl
  have s4 : byB.size = 4 := rfl
  have s6 : pickkB.size = 6 := rfl
  generalize hB : itemsT q.items.l ++ predsT q.preds.l = B at *
  have hBs : B.size ≤ 110600 := by rw [← hB, ByteArray.size_append]; omega
  generalize (⟨(Lib.itoa q.within).toArray⟩ : ByteArray) = W at *
  generalize pickW q.pick = K at *
  have b0 := bin_addS B withinB (by omega)
  have b1 := bin_addS (B ++ withinB) W (by simp only [ByteArray.size_append]; omega)
  rw [hfin]
  by_cases hby : q.by_ = ⟨#[]⟩
  · rw [if_pos hby]
    have z0 : ∀ s : ByteArray, s ++ ⟨#[]⟩ = s := fun s => ByteArray.ext (by simp [ByteArray.data_append])
    rw [z0]
    have b2 := bin_addS (B ++ withinB ++ W) pickkB (by simp only [ByteArray.size_append]; omega)
    have b3 := bin_addS (B ++ withinB ++ W ++ pickkB) K (by simp only [ByteArray.size_append]; omega)
    simp only [withinB, pickkB] at *
    simp [e1, e3, g, queryC, b0, b1, b2, b3, hT, hP, hby, lo, withinB, pickkB]
  · rw [if_neg hby]
    have b2 := bin_addS (B ++ withinB ++ W) byB (by simp only [ByteArray.size_append]; omega)
    have b3 := bin_addS (B ++ withinB ++ W ++ byB) q.by_ (by simp only [ByteArray.size_append]; omega)
    have b4 := bin_addS (B ++ withinB ++ W ++ byB ++ q.by_) pickkB (by simp only [ByteArray.size_append]; omega)
    have b5 := bin_addS (B ++ withinB ++ W ++ byB ++ q.by_ ++ pickkB) K (by simp only [ByteArray.size_append]; omega)
    have ha : B ++ withinB ++ W ++ (byB ++ q.by_) = B ++ withinB ++ W ++ byB ++ q.by_ := by simp only [ByteArray.append_assoc]
    rw [ha]
    simp only [withinB, pickkB, byB] at *
    simp [e1, e3, g, queryC, b0, b1, b2, b3, b4, b5, hT, hP, hby, lo, withinB, pickkB, byB]
theorem textR_one (q : TQuery) (p : TPred) : textR (oneQ q p) = textS q p := by
  unfold textR textS textP tailT itemsT predsT oneQ joinI partsT byT pickT
  simp only [List.map_cons, List.map_nil, jT_one]
  have e1 : pickW q.pick = pickB q.pick := rfl
  have e2 : jT thenB (q.items.l.map itemW) = ⟨(joinB (q.items.l.map itemW) thenB).toArray⟩ := rfl
  rw [e1, ← e2]
  refine ByteArray.ext ?_
  by_cases hby : q.by_ = ⟨#[]⟩
  · simp [hby, ByteArray.data_append, seqB, whereB, withinB, pickkB]
  · simp [hby, ByteArray.data_append, seqB, whereB, withinB, pickkB, byB]
end Go.Proofs.YthdkeggdipogoaaGreatDoor.Tz
