/-
What the texts of right queries say. Conditions: none; plain.
-/
import Derived.Test.YtmfhanoibbmnlaaGreatDoorTX5
import Derived.Test.YtmfhanoibbmnlaaGreatDoorTSl
import Derived.Test.YtmfhanoibbmnlaaGreatDoorTSf
namespace Go.Proofs.YtmfhanoibbmnlaaGreatDoor.Tz
open Go.Aug Go.Aug.Api
set_option maxRecDepth 100000
theorem right_itemOk {q : TQuery} (h : rightP q = true) : ∀ x ∈ q.items.l, itemOk x := fun x hx => by
  obtain ⟨a1, -⟩ := right_parts h
  obtain ⟨b, hb⟩ := items_right a1 x hx
  obtain ⟨h1, h2, h3, h4, h5⟩ := rightItem_parts hb
  refine ⟨?_, h5, h1⟩
  intro e
  unfold rightItem at hb
  simp [e] at hb
theorem modeS_L (m : Int) : (modeS m).data.toList = modeL m := by
  unfold modeS modeL
  repeat' split
  all_goals rfl
theorem itemW_tok {x : TItem} (h : itemOk x) : 32 :: (itemW x).data.toList = spL (itemTok x) := by
  have hj := join_sep orL (x.names.l.map fun s => s.data.toList) (by simp [h.1])
  have hb : 32 :: (bareW x).data.toList = spL (sepTok orL (x.names.l.map fun s => s.data.toList) ++ [x.var.data.toList ++ modeL x.mode]) := by
    rw [spL_append, ← hj]
    unfold bareW joinB
    simp [spL, modeS_L, orB, orL]
  unfold itemW itemTok
  split
  · rw [spL_append, ← hb]
    simp [spL, notL]
  · simpa using hb
theorem itemsT_tok {l : List TItem} (h : ∀ x ∈ l, itemOk x) (hl : l ≠ []) : 32 :: (itemsT l).data.toList = spL (itemsTok l) := by
  cases l with
  | nil => exact absurd rfl hl
  | cons x r =>
    have hx := itemW_tok (h x (by simp))
    have hr : ∀ r : List TItem, (∀ y ∈ r, itemOk y) → Lib.joinTail thenB.data.toList (r.map fun y => (itemW y).data.toList) = spL (r.flatMap fun y => thenL :: itemTok y) := by
      intro r
      induction r with
      | nil => intro _; rfl
      | cons y r ih =>
        intro hy
        have h1 := itemW_tok (hy y (by simp))
        have h2 := ih fun z hz => hy z (by simp [hz])
        unfold Lib.joinTail at h2 ⊢
        rw [List.map_cons, List.map_cons, List.flatten_cons, h2, List.flatMap_cons, spL_append]
        congr 1
        show thenB.data.toList ++ (itemW y).data.toList = 32 :: (thenL ++ spL (itemTok y))
        rw [← h1]
        rfl
    unfold itemsT jT joinB
    simp only [List.map_cons, Lib.join_cons, itemsTok]
    have h3 := hr r fun y hy => h y (by simp [hy])
    rw [List.map_map]
    show 32 :: (seqB ++ ⟨((itemW x).data.toList ++ Lib.joinTail thenB.data.toList (r.map fun y => (itemW y).data.toList)).toArray⟩ : ByteArray).data.toList = 32 :: (seqL ++ spL (itemTok x ++ r.flatMap fun y => thenL :: itemTok y))
    rw [h3, spL_append, ← hx]
    simp [seqB, seqL]
theorem predsT_end (l : List TPred) : EndW (predsT l).data.toList := by
  cases l with
  | nil => exact .inl rfl
  | cons p l => exact .inr ⟨(jT andB ((p :: l).map predS)).data.toList, by simp [predsT, whereB, whereL]⟩
theorem tailT_L {q : TQuery} : (tailT q).data.toList = tailL (Lib.itoa q.within) q.by_.data.toList (pickW q.pick).data.toList := by
  unfold tailT tailL
  by_cases h : q.by_ = ⟨#[]⟩
  · rw [if_pos h, if_pos (by rw [h])]
    simp [withinB, withinL, pickkB, pickkL]
  · have h' : q.by_.data.toList ≠ [] := fun e => h (Go.Aug.Api.bytes_eq e)
    rw [if_neg h, if_neg h']
    simp [withinB, withinL, pickkB, pickkL, byB, byL']
theorem text_parts {q q' : TQuery} (h : rightP q = true) (h' : rightP q' = true) (e : textR q = textR q') : itemsT q.items.l = itemsT q'.items.l ∧ itemsTok q.items.l = itemsTok q'.items.l ∧ predsT q.preds.l = predsT q'.preds.l ∧ q.within = q'.within ∧ q.by_ = q'.by_ ∧ q.pick = q'.pick := by
  obtain ⟨a1, a2, a3, a4, a5, a6, a7, a8, a9, a10⟩ := right_parts h
  obtain ⟨b1, b2, b3, b4, b5, b6, b7, b8, b9, b10⟩ := right_parts h'
  have e1 := congrArg (fun b : ByteArray => b.data.toList) e
  simp only [textR, ByteArray.data_append, Array.toList_append] at e1
  rw [tailT_L, tailT_L] at e1
  have byn : ∀ q : TQuery, (q.by_ = emptyS ∨ nameS q.by_ = true) → noSp q.by_.data.toList ∧ ∀ n, q.by_.data.toList ≠ [] → q.by_.data.toList ≠ Lib.itoa n := fun q hq => by
    rcases hq with hq | hq
    · rw [hq]
      exact ⟨kw_noSp (by decide), fun n h => absurd rfl h⟩
    · refine ⟨name_noSp hq, fun n _ e => ?_⟩
      obtain ⟨-, ⟨c, r, hc, hc1, -⟩, -⟩ := name_parts hq
      obtain ⟨-, c', r', hc', hc2⟩ := itoa_chars n
      rw [hc, hc'] at e
      have : c = c' := (List.cons.inj e).1
      subst this
      omega
  have pk : ∀ p : Int, 1 ≤ p → p ≤ 3 → noSp (pickW p).data.toList := fun p h1 h2 => by
    have : p = 1 ∨ p = 2 ∨ p = 3 := by omega
    rcases this with rfl | rfl | rfl <;> exact kw_noSp (by decide)
  obtain ⟨g1, g2, g3, g4⟩ := tail_unique (itoa_noSp _) (itoa_noSp _) (byn q a10).1 (byn q' b10).1 (pk _ a8 a9) (pk _ b8 b9) ((byn q a10).2 _) ((byn q' b10).2 _) e1
  have hw : q.within = q'.within := itoa_inj g2
  have hb : q.by_ = q'.by_ := Go.Aug.Api.bytes_eq g3
  have hp : q.pick = q'.pick := by
    have h1 : q.pick = 1 ∨ q.pick = 2 ∨ q.pick = 3 := by omega
    have h2 : q'.pick = 1 ∨ q'.pick = 2 ∨ q'.pick = 3 := by omega
    rcases h1 with h1 | h1 | h1 <;> rcases h2 with h2 | h2 | h2 <;> rw [h1, h2] at g4 ⊢ <;> exact absurd g4 (by decide)
  have i1 := itemsT_tok (right_itemOk h) (fun e => a3 (by rw [e]; rfl))
  have i2 := itemsT_tok (right_itemOk h') (fun e => b3 (by rw [e]; rfl))
  have e2 : spL (itemsTok q.items.l) ++ (predsT q.preds.l).data.toList = spL (itemsTok q'.items.l) ++ (predsT q'.preds.l).data.toList := by
    rw [← i1, ← i2, List.cons_append, List.cons_append, g1]
  obtain ⟨t1, t2⟩ := toks_unique _ _ _ _ (itemsTok_ok (right_itemOk h)) (itemsTok_ok (right_itemOk h')) (predsT_end _) (predsT_end _) e2
  refine ⟨?_, t1, Go.Aug.Api.bytes_eq t2, hw, hb, hp⟩
  rw [← t1, ← i1] at i2
  exact Go.Aug.Api.bytes_eq (List.cons.inj i2).2.symm
def plainQ (q : TQuery) : Bool := decide (q.pick = 1) && !(q.items.l.any fun x => x.not)
def normW (q : TQuery) (w : Int) : TQuery := { normQ q with within := w }
def classS (a b : TQuery) : Int := if rightP a = true ∧ rightP b = true then (if textR (normW a b.within) = textR (normQ b) then (if a.within = b.within then 1 else if plainQ a = true then (if b.within < a.within then 2 else 3) else 4) else 4) else 0
theorem normW_right {q : TQuery} (h : rightP q = true) {w : Int} (h0 : 0 ≤ w) (h1 : w ≤ maxNum) : rightP (normW q w) = true := by
  have hn : rightP (normQ q) = true := by
    rw [normQ_right h]
    obtain ⟨a1, a2, a3, a4, a5, a6, a7, a8, a9, a10⟩ := right_parts h
    refine right_of h rfl rfl rfl rfl ?_ ?_
    · refine List.all_eq_true.2 fun x hx => ?_
      obtain ⟨p, hp, rfl⟩ := normL_mem hx
      exact (predX_norm (List.all_eq_true.1 a2 p hp)).1
    · have := normL_length q.items.l (textS q) q.preds.l
      simp only
      omega
  obtain ⟨a1, a2, a3, a4, a5, a6, a7, a8, a9, a10⟩ := right_parts hn
  unfold rightP normW
  simp only [a1, a2, Bool.true_and]
  have e : decide (8 < (normQ q).preds.l.length) = false := by simp; omega
  have e1 : decide ((normQ q).items.l.length = 0) = false := by simpa using a3
  have e2 : decide (6 < (normQ q).items.l.length) = false := by simp; omega
  have e3 : decide (w < 0) = false := by simp; omega
  have e4 : decide (maxNum < w) = false := by simp; omega
  have e5 : decide ((normQ q).pick < 1) = false := by simp; omega
  have e6 : decide (3 < (normQ q).pick) = false := by simp; omega
  rw [e, e1, e2, e3, e4, e5, e6]
  rcases a10 with h | h
  · simp [h]
  · simp [h]
theorem normW_self {q : TQuery} (h : rightP q = true) : normW q q.within = normQ q := by
  unfold normW
  rw [normQ_right h]
theorem norm_fields {q : TQuery} (h : rightP q = true) (w : Int) : (normW q w).items = q.items ∧ (normW q w).by_ = q.by_ ∧ (normW q w).pick = q.pick ∧ (normW q w).within = w ∧ (normW q w).preds.l = normL q.items.l (textS q) q.preds.l := by
  unfold normW
  rw [normQ_right h]
  exact ⟨rfl, rfl, rfl, rfl, rfl⟩
theorem same_any {a b : TQuery} (ha : rightP a = true) (hb : rightP b = true) {w : Int} (h0 : 0 ≤ w) (h1 : w ≤ maxNum) (e : textR (normW a w) = textR (normW b w)) : (∀ w', textR (normW a w') = textR (normW b w')) ∧ plainQ a = plainQ b := by
  obtain ⟨a1, a2, a3, a4, a5⟩ := norm_fields ha w
  obtain ⟨b1, b2, b3, b4, b5⟩ := norm_fields hb w
  obtain ⟨t1, t2, t3, -, t5, t6⟩ := text_parts (normW_right ha h0 h1) (normW_right hb h0 h1) e
  rw [a1, b1] at t1 t2
  rw [a2, b2] at t5
  rw [a3, b3] at t6
  rw [a5, b5] at t3
  refine ⟨fun w' => ?_, ?_⟩
  · obtain ⟨c1, c2, c3, c4, c5⟩ := norm_fields ha w'
    obtain ⟨d1, d2, d3, d4, d5⟩ := norm_fields hb w'
    unfold textR tailT
    rw [c1, c2, c3, c4, c5, d1, d2, d3, d4, d5, t1, t3, t5, t6]
  · unfold plainQ
    have h2 := not_tok (right_itemOk ha)
    rw [t2, not_tok (right_itemOk hb)] at h2
    rw [t6]
    congr 2
    rw [Bool.eq_iff_iff]
    exact h2.symm
theorem class_turn {a b : TQuery} : (classS a b = 2 ↔ classS b a = 3) ∧ (classS a b = 1 ↔ classS b a = 1) := by
  by_cases h : rightP a = true ∧ rightP b = true
  · obtain ⟨ha, hb⟩ := h
    obtain ⟨-, -, -, -, -, wa, wa', -⟩ := right_parts ha
    obtain ⟨-, -, -, -, -, wb, wb', -⟩ := right_parts hb
    have key : (textR (normW a b.within) = textR (normQ b)) ↔ (textR (normW b a.within) = textR (normQ a)) := by
      constructor
      · intro e
        rw [← normW_self hb] at e
        have := (same_any ha hb wb wb' e).1 a.within
        rw [← this, normW_self ha]
      · intro e
        rw [← normW_self ha] at e
        have := (same_any hb ha wa wa' e).1 b.within
        rw [← this, normW_self hb]
    have c1 : classS a b = if textR (normW a b.within) = textR (normQ b) then (if a.within = b.within then 1 else if plainQ a = true then (if b.within < a.within then 2 else 3) else 4) else 4 := if_pos ⟨ha, hb⟩
    have c2 : classS b a = if textR (normW b a.within) = textR (normQ a) then (if b.within = a.within then 1 else if plainQ b = true then (if a.within < b.within then 2 else 3) else 4) else 4 := if_pos ⟨hb, ha⟩
    rw [c1, c2]
    by_cases e : textR (normW a b.within) = textR (normQ b)
    · rw [if_pos e, if_pos (key.1 e)]
      have hp : plainQ a = plainQ b := (same_any ha hb wb wb' (by rw [e, normW_self hb])).2
      rw [hp]
      by_cases c : a.within = b.within
      · simp [c]
      · have c' : ¬ b.within = a.within := fun e => c e.symm
        cases h : plainQ b with
        | false => simp [c, c']
        | true =>
          by_cases l : b.within < a.within
          · have l' : ¬ a.within < b.within := by omega
            simp [c, c', l, l']
          · have l' : a.within < b.within := by omega
            simp [c, c', l, l']
    · rw [if_neg e, if_neg fun h => e (key.2 h)]; decide
  · have h' : ¬ (rightP b = true ∧ rightP a = true) := fun ⟨x, y⟩ => h ⟨y, x⟩
    unfold classS
    rw [if_neg h, if_neg h']
    decide
theorem class_self {a : TQuery} (ha : rightP a = true) : classS a a = 1 := by
  unfold classS
  rw [if_pos ⟨ha, ha⟩, normW_self ha, if_pos rfl, if_pos rfl]
theorem class_range {a b : TQuery} (ha : rightP a = true) (hb : rightP b = true) : 1 ≤ classS a b ∧ classS a b ≤ 4 := by
  unfold classS
  rw [if_pos ⟨ha, hb⟩]
  repeat' split
  all_goals decide
theorem text_inj2 {q : TQuery} {a b : TPred} (ha : predX a = true) (hb : predX b = true) (h : textS q a = textS q b) : sameP a b = true := by
  refine pred_unique ha hb ?_
  unfold textS textP at h
  have h := congrArg (fun b : ByteArray => b.data.toList) h
  simp only [List.toList_toArray] at h
  refine Go.Aug.Api.bytes_eq ?_
  unfold partsT at h
  split at h
  · simpa using h
  · simpa using h
theorem samePs_texts : ∀ {l m : List TPred}, l.length = m.length → samePs l m = true → l.map predS = m.map predS
  | [], [], _, _ => rfl
  | [], _ :: _, h, _ => by simp at h
  | _ :: _, [], h, _ => by simp at h
  | a :: l, b :: m, h, hs => by
    simp only [samePs, Bool.and_eq_true] at hs
    rw [List.map_cons, List.map_cons, sameP_text hs.1, samePs_texts (by simpa using h) hs.2]
theorem predsT_same {l m : List TPred} (h : l.map predS = m.map predS) : predsT l = predsT m := by
  cases l with
  | nil =>
    cases m with
    | nil => rfl
    | cons b m => simp at h
  | cons a l =>
    cases m with
    | nil => simp at h
    | cons b m =>
      show whereB ++ jT andB ((a :: l).map predS) = whereB ++ jT andB ((b :: m).map predS)
      rw [h]
theorem class_order {a b x : TQuery} (ha : rightP a = true) (h1 : x.items = a.items) (h2 : x.within = a.within) (h3 : x.by_ = a.by_) (h4 : x.pick = a.pick) (hp : ∀ p, p ∈ x.preds.l ↔ p ∈ a.preds.l) (hlen : x.preds.l.length = a.preds.l.length) : classS x b = classS a b := by
  obtain ⟨a1, a2, a3, a4, a5, a6, a7, a8, a9, a10⟩ := right_parts ha
  have hx2 : x.preds.l.all predX = true := List.all_eq_true.2 fun p hm => List.all_eq_true.1 a2 p ((hp p).1 hm)
  have hx : rightP x = true := right_of ha h1 h2 h3 h4 hx2 (by omega)
  have htx : textS x = textS a := by
    funext p
    unfold textS joinI
    rw [h1, h2, h3, h4]
  obtain ⟨n1, n2⟩ := normL_same (q := a.items.l) (tx := textS a) (ps := x.preds.l) (ps' := a.preds.l) (List.all_eq_true.1 hx2) (List.all_eq_true.1 a2) (fun p hm => ⟨p, (hp p).1 hm, rfl⟩) (fun p hm => ⟨p, (hp p).2 hm, rfl⟩) fun a b ha hb h => text_inj2 ha hb h
  have hw : ∀ w, textR (normW x w) = textR (normW a w) := fun w => by
    obtain ⟨c1, c2, c3, c4, c5⟩ := norm_fields hx w
    obtain ⟨d1, d2, d3, d4, d5⟩ := norm_fields ha w
    unfold textR tailT
    rw [c1, c2, c3, c4, c5, d1, d2, d3, d4, d5, h1, h3, h4, htx, predsT_same (samePs_texts n1 n2)]
  have hpl : plainQ x = plainQ a := by unfold plainQ; rw [h1, h4]
  unfold classS
  rw [hx, ha, hw, h2, hpl]
end Go.Proofs.YtmfhanoibbmnlaaGreatDoor.Tz

namespace Go.Proofs.YtmfhanoibbmnlaaGreatDoor.Tz
open Go.Aug Go.Aug.Api
set_option maxRecDepth 100000
end Go.Proofs.YtmfhanoibbmnlaaGreatDoor.Tz

namespace Go.Aug.Api
open Go.Aug
end Go.Aug.Api
namespace Go.Proofs.YtmfhanoibbmnlaaGreatDoor.Tz
open Go.Aug Go.Aug.Api
set_option maxRecDepth 100000
end Go.Proofs.YtmfhanoibbmnlaaGreatDoor.Tz

namespace Go.Proofs.YtmfhanoibbmnlaaGreatDoor.Tz
open Go.Aug Go.Aug.Api
set_option maxRecDepth 100000
theorem ContainsFunc_Item_run {α : Type} {c : α → List D} (hc : ∀ x, (c x).length = 4) (p : α → Bool) (rep : Option (Option Nat)) (l : List α) (hl : l.length ≤ big) (g : FuncId) (first caps : List D) (H : Heap)
    (hp : ∀ x, Run tab (.fn g) (first ++ .agg (c x) :: caps) (low0 (low0 H)) (bD (p x)) (low0 (low0 H))) :
    Run tab (.fn n_q79) [slD rep l.length (l.flatMap c), .fn (.func g) first caps] H (bD (l.any p)) H := by
  refine cK.run (cK_fn o_q79 t_q79 (Nat.le_of_ble_eq_true rfl) (by decide) ?_)
  have hI := (IndexFunc_Item_run hc p rep l hl g first caps (low0 H) hp).cK
  simp [-List.any_eq_true, hI]
  rcases idx_cases p l with ⟨h1, h2, -⟩ | ⟨pre, x, suf, h1, -, h3, h4, -⟩
  · have : l.any p = false := by rw [List.any_eq_false]; intro x hx; simp [h2 x hx]
    rw [h1, this]
    rfl
  · have : l.any p = true := by rw [List.any_eq_true]; exact ⟨x, by rw [h1]; simp, h3⟩
    rw [h4, this]
    simp
theorem diff_plain_1_run (x : TItem) (H : Heap) : Run tab (.fn n_q59) [.agg (itemC x)] H (bD x.not) H := by
  refine cK.run (cK_fn o_q59 t_q59 (Nat.le_of_ble_eq_true rfl) (by decide) ?_)
  simp [itemC]
theorem diff_plain_run (q : TQuery) (H : Heap) : Run tab (.fn n_q58) [.agg (queryC q)] H (bD (plainQ q)) H := by
  refine cK.run (cK_fn o_q58 t_q58 (Nat.le_of_ble_eq_true rfl) (by decide) ?_)
  have hC := fun H => (ContainsFunc_Item_run itemC_len (fun x : TItem => x.not) q.items.rep q.items.l q.items.ok n_q59 [] [] H fun x => diff_plain_1_run x _).cK
  unfold plainQ
  by_cases c : q.pick = 1
  · simp [-List.any_eq_true, queryC, Sl.enc, c, hC]
  · simp [-List.any_eq_true, queryC, Sl.enc, c]
def lawFnsD : List Nat := [n_q103, n_q58]
noncomputable def orcsD (f : Nat) : Option (List D → Heap → Option (D × Heap)) := cond (Nat.beq f n_q68) (some (pureOrc2 (runSpec tabN n_q68))) (cond (Nat.beq f n_q100) (some (orcPrintBy (runSpec tab))) (cond (isLaw f lawFnsD) (some (pureOrc2 (runSpec tab f))) (orcs f)))
noncomputable def tabD : Tab := ⟨findF rows, frozen, orcsD⟩
theorem orcsD_ok (f : Nat) (g : List D → Heap → Option (D × Heap)) (h : orcsD f = some g) : OrcOk Tryz.prog f g := by
  unfold orcsD at h
  cases hk : Nat.beq f n_q68 with
  | true =>
    rw [hk] at h
    simp only [cond_true, Option.some.injEq] at h
    rw [← h, Nat.eq_of_beq_eq_true hk]
    exact runSpec_orc tabN_ok _
  | false =>
    rw [hk] at h
    simp only [cond_false] at h
    cases hk : Nat.beq f n_q100 with
    | true =>
      rw [hk] at h
      simp only [cond_true, Option.some.injEq] at h
      rw [← h, Nat.eq_of_beq_eq_true hk]
      exact printG
    | false =>
      rw [hk] at h
      simp only [cond_false] at h
      cases hk : isLaw f lawFnsD with
      | true =>
        rw [hk] at h
        simp only [cond_true, Option.some.injEq] at h
        rw [← h]
        exact runSpec_orc tab_ok _
      | false => rw [hk] at h; exact orcs_ok f g h
theorem tabD_ok : TabOk Tryz.prog tabD := tab_ok' _ _ orcsD_ok
theorem tLD {f : Nat} {fi : FI} (h : tab.fn f = some fi) : tabD.fn f = some fi := h
theorem oD_Norm : tabD.orc n_q68 = some (pureOrc2 (runSpec tabN n_q68)) := by kernel_rfl
theorem oD_Print : tabD.orc n_q100 = some (orcPrintBy (runSpec tab)) := by kernel_rfl
theorem oD_Right : tabD.orc n_q103 = some (pureOrc2 (runSpec tab n_q103)) := by kernel_rfl
theorem oD_plain : tabD.orc n_q58 = some (pureOrc2 (runSpec tab n_q58)) := by kernel_rfl
theorem oD_Class : tabD.orc n_q50 = none := by kernel_rfl
theorem runD {T : Tab} {f : FuncId} {args : List D} {d : D} (ho : tabD.orc f = some (pureOrc2 (runSpec T f))) (hu : D.under.underAll 0 args = true) (hd : Run T (.fn f) args H0 d H0) (H : Heap) : Run tabD (.fn f) args H d H := cK.run (cK_pure ho hu hd ⟨rfl, rfl⟩)
set_option maxHeartbeats 1000000 in
theorem diff_Class_run (a b : TQuery) (H : Heap) : Run tabD (.fn n_q50) [.agg (queryC a), .agg (queryC b)] H (i64D (classS a b)) H := by
  refine cK.run (cK_fn oD_Class (tLD t_q50) (Nat.le_of_ble_eq_true rfl) (by decide) ?_)
  have hq5 : ∀ q : TQuery, (queryC q).take 5 = queryC q := fun q => List.take_of_length_le (by rw [queryC_len]; exact Nat.le_refl _)
  have hR0 : ∀ (q : TQuery) H, Run tabD (.fn n_q103) [.agg (queryC q)] H (bD (rightP q)) H := fun q H => runD oD_Right (by simp) (tree_Right_run q H0) H
  have hR := fun q H => (hR0 q H).cK
  have hN0 : ∀ (q : TQuery) H, Run tabD (.fn n_q68) [.agg (queryC q)] H (.agg (queryC (normQ q))) H := fun q H => runD oD_Norm (by simp) (norm_Norm_run q H0) H
  have hN := fun q H => (hN0 q H).cK
  have hP0 : ∀ (q : TQuery) H, Run tabD (.fn n_q58) [.agg (queryC q)] H (bD (plainQ q)) H := fun q H => runD oD_plain (by simp) (diff_plain_run q H0) H
  have hP := fun q H => (hP0 q H).cK
  cases ha : rightP a with
  | false =>
    have hc : classS a b = 0 := if_neg (by rw [ha]; simp)
    simp [hq5, hR, ha, hc]
  | true =>
  cases hb : rightP b with
  | false =>
    have hc : classS a b = 0 := if_neg (by rw [hb]; simp)
    simp [hq5, hR, ha, hb, hc]
  | true =>
  obtain ⟨-, -, -, -, -, wb, wb', -⟩ := right_parts hb
  have hA := fun H R => cK_printG oD_Print (normW_right ha wb wb') H R
  have hB := fun H R => cK_printG oD_Print (q := normQ b) (by rw [← normW_self hb]; exact normW_right hb wb wb') H R
  have hc : classS a b = if textR (normW a b.within) = textR (normQ b) then (if a.within = b.within then 1 else if plainQ a = true then (if b.within < a.within then 2 else 3) else 4) else 4 := if_pos ⟨ha, hb⟩
  have h2 : ∀ (q : TQuery), (queryC q)[2]? = some (i64D q.within) := fun _ => rfl
  have h2' : ∀ (q : TQuery) (h : 2 < (queryC q).length), (queryC q)[2] = i64D q.within := fun _ _ => rfl
  have hset : (queryC (normQ a)).set 2 (i64D b.within) = queryC (normW a b.within) := rfl
  have hfull : ∀ (z : List D) (q : TQuery), z.length = 5 → setAll z 0 (queryC q) = queryC q := fun z q h => setAll_full z _ (by rw [h]; rfl)
  rw [hc]
  by_cases e : textR (normW a b.within) = textR (normQ b)
  · rw [if_pos e]
    by_cases w : a.within = b.within
    · rw [if_pos w]
      simp [hq5, hR, ha, hb, hN, hfull, h2, h2', hset, hA, hB, e, w]
    · rw [if_neg w]
      cases hp : plainQ a with
      | false => simp [hq5, hR, ha, hb, hN, hfull, h2, h2', hset, hA, hB, e, w, hP, hp]
      | true =>
        by_cases l : b.within < a.within
        · simp [hq5, hR, ha, hb, hN, hfull, h2, h2', hset, hA, hB, e, w, hP, hp, l]
        · simp [hq5, hR, ha, hb, hN, hfull, h2, h2', hset, hA, hB, e, w, hP, hp, l]
  · rw [if_neg e]
    simp [hq5, hR, ha, hb, hN, hfull, h2, h2', hset, hA, hB, e]
end Go.Proofs.YtmfhanoibbmnlaaGreatDoor.Tz
