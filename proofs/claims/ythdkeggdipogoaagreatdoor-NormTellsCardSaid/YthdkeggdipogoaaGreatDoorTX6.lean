/-
The table of the reference's normal forms. Conditions: none.
-/
import Derived.Test.YthdkeggdipogoaaGreatDoorTWy
import Derived.Test.YthdkeggdipogoaaGreatDoorTWC
import Derived.Test.YthdkeggdipogoaaGreatDoorTWE
namespace Go.Proofs.YthdkeggdipogoaaGreatDoor.Tz
open Go.Aug Go.Aug.Api
set_option maxRecDepth 100000
def lawFnsR : List Nat := [n_q75, n_q78, n_q0, n_q21, n_q26, n_q24, n_q23, n_q50, n_q52, n_q54, n_q20]
noncomputable def orcsR (f : Nat) : Option (List D → Heap → Option (D × Heap)) := cond (Nat.beq f n_q76) (some (pureOrc2 (runSpec tabN n_q76))) (cond (isLaw f lawFnsR) (some (pureOrc2 (runSpec tab f))) (orcs f))
noncomputable def tabR : Tab := ⟨findF rows, frozen, orcsR⟩
theorem orcsR_ok (f : Nat) (g : List D → Heap → Option (D × Heap)) (h : orcsR f = some g) : OrcOk Tryz.prog f g := by
  unfold orcsR at h
  cases hk : Nat.beq f n_q76 with
  | true =>
    rw [hk] at h
    simp only [cond_true, Option.some.injEq] at h
    rw [← h, Nat.eq_of_beq_eq_true hk]
    exact runSpec_orc tabN_ok _
  | false =>
    rw [hk] at h
    simp only [cond_false] at h
    cases hk : isLaw f lawFnsR with
    | true =>
      rw [hk] at h
      simp only [cond_true, Option.some.injEq] at h
      rw [← h]
      exact runSpec_orc tab_ok _
    | false => rw [hk] at h; exact orcs_ok f g h
theorem tabR_ok : TabOk Tryz.prog tabR := tab_ok' _ _ orcsR_ok
theorem tLR {f : Nat} {fi : FI} (h : tab.fn f = some fi) : tabR.fn f = some fi := h
theorem oR_Norm : tabR.orc n_q76 = some (pureOrc2 (runSpec tabN n_q76)) := by kernel_rfl
theorem oR_Fold : tabR.orc n_q75 = some (pureOrc2 (runSpec tab n_q75)) := by kernel_rfl
theorem oR_Place : tabR.orc n_q78 = some (pureOrc2 (runSpec tab n_q78)) := by kernel_rfl
theorem oR_Great : tabR.orc n_q0 = some (pureOrc2 (runSpec tab n_q0)) := by kernel_rfl
theorem oR_Right : tabR.orc n_q21 = some (pureOrc2 (runSpec tab n_q21)) := by kernel_rfl
theorem oR_SamePred : tabR.orc n_q26 = some (pureOrc2 (runSpec tab n_q26)) := by kernel_rfl
theorem oR_SameExpr : tabR.orc n_q24 = some (pureOrc2 (runSpec tab n_q24)) := by kernel_rfl
theorem oR_Same : tabR.orc n_q23 = some (pureOrc2 (runSpec tab n_q23)) := by kernel_rfl
theorem oR_rFold : tabR.orc n_q50 = some (pureOrc2 (runSpec tab n_q50)) := by kernel_rfl
theorem oR_rPlace : tabR.orc n_q52 = some (pureOrc2 (runSpec tab n_q52)) := by kernel_rfl
theorem oR_turned : tabR.orc n_q54 = some (pureOrc2 (runSpec tab n_q54)) := by kernel_rfl
theorem oR_Print : tabR.orc n_q20 = some (pureOrc2 (runSpec tab n_q20)) := by kernel_rfl
theorem oR_text : tabR.orc n_q53 = none := by kernel_rfl
theorem oR_rNorm : tabR.orc n_q51 = none := by kernel_rfl
theorem oR_NormTells : tabR.orc n_q2 = none := by kernel_rfl
theorem oR_head10 : tabR.orc n_q3 = some orcHead := by kernel_rfl
theorem runR {T : Tab} {f : FuncId} {args : List D} {d : D} (ho : tabR.orc f = some (pureOrc2 (runSpec T f))) (hu : D.under.underAll 0 args = true) (hd : Run T (.fn f) args H0 d H0) (H : Heap) : Run tabR (.fn f) args H d H := cK.run (cK_pure ho hu hd ⟨rfl, rfl⟩)
theorem head10R_run (H : Heap) : Run tabR (.fn n_q3) [] H (bD true) H :=
  cK.run (cK_orc oR_head10 ⟨_, rfl, rfl, rfl⟩)
end Go.Proofs.YthdkeggdipogoaaGreatDoor.Tz

namespace Go.Aug.Api
open Go.Aug
def kfN (q : List TItem) (tx : TPred → ByteArray) (p : TPred) : TKeyed := ⟨p, placeN q p, tx p⟩
def ltP (q : List TItem) (tx : TPred → ByteArray) (a b : TPred) : Bool := ltK (kfN q tx a) (kfN q tx b)
def stepR (q : List TItem) (tx : TPred → ByteArray) (p : TPred) (s : Bool × List TPred) (o : TPred) : Bool × List TPred :=
  if (s.1 || sameP o p) = true then (true, s.2 ++ [o]) else if ltP q tx p o = true then (true, s.2 ++ [p, o]) else (false, s.2 ++ [o])
def doneR (s : Bool × List TPred) (p : TPred) : List TPred := if s.1 = true then s.2 else s.2 ++ [p]
def insR (q : List TItem) (tx : TPred → ByteArray) (p : TPred) (out : List TPred) : List TPred := doneR (out.foldl (stepR q tx p) (false, [])) p
def normR (q : List TItem) (tx : TPred → ByteArray) (ps : List TPred) : List TPred := ps.foldl (fun out p => insR q tx (normP p) out) []
def riseR (q : List TItem) (tx : TPred → ByteArray) (l : List TPred) : Prop := l.Pairwise fun a b => ltP q tx b a = false ∧ tx a ≠ tx b
def invR (q : List TItem) (tx : TPred → ByteArray) (p : TPred) (pre : List TPred) (s : Bool × List TPred) : Prop :=
  (s = (false, pre) ∧ ∀ o ∈ pre, tx o ≠ tx p ∧ ltP q tx p o = false) ∨ (s = (true, pre) ∧ ∃ o ∈ pre, tx o = tx p) ∨
  ∃ a o b, pre = a ++ o :: b ∧ s = (true, a ++ p :: o :: b) ∧ (∀ x ∈ a, tx x ≠ tx p ∧ ltP q tx p x = false) ∧ ltP q tx p o = true
theorem invR_fold (q : List TItem) (tx : TPred → ByteArray) (p : TPred) : ∀ (suf pre : List TPred) (s : Bool × List TPred), (∀ o ∈ suf, sameP o p = true ↔ tx o = tx p) → invR q tx p pre s → invR q tx p (pre ++ suf) (suf.foldl (stepR q tx p) s)
  | [], pre, s, _, h => by simpa using h
  | o :: suf, pre, s, hs, h => by
    have h1 := hs o (by simp)
    have key : invR q tx p (pre ++ [o]) (stepR q tx p s o) := by
      rcases h with ⟨rfl, h⟩ | ⟨rfl, x, hx, ex⟩ | ⟨a, x, b, rfl, rfl, h, h2⟩
      · unfold stepR
        simp only [Bool.false_or]
        by_cases c : sameP o p = true
        · rw [if_pos c]
          exact .inr (.inl ⟨rfl, o, by simp, h1.1 c⟩)
        · rw [if_neg c]
          by_cases c2 : ltP q tx p o = true
          · rw [if_pos c2]
            exact .inr (.inr ⟨pre, o, [], rfl, rfl, h, c2⟩)
          · rw [if_neg c2]
            refine .inl ⟨rfl, fun y hy => ?_⟩
            rcases List.mem_append.1 hy with hy | hy
            · exact h y hy
            · rw [List.mem_singleton.1 hy]
              exact ⟨fun e => c (h1.2 e), by simpa using c2⟩
      · unfold stepR
        simp only [Bool.true_or, if_true]
        exact .inr (.inl ⟨rfl, x, by simp [hx], ex⟩)
      · unfold stepR
        simp only [Bool.true_or, if_true]
        exact .inr (.inr ⟨a, x, b ++ [o], by simp, by simp, h, h2⟩)
    have := invR_fold q tx p suf (pre ++ [o]) _ (fun y hy => hs y (by simp [hy])) key
    simpa using this
theorem ltP_neg {q : List TItem} {tx : TPred → ByteArray} {a b c : TPred} (h : ltP q tx a b = false) (h2 : ltP q tx b c = false) : ltP q tx a c = false := ltK_neg h h2
theorem ltP_asym {q : List TItem} {tx : TPred → ByteArray} {a b : TPred} (h : ltP q tx a b = true) : ltP q tx b a = false := ltK_asym h
theorem insR_ok {q : List TItem} {tx : TPred → ByteArray} {p : TPred} {out : List TPred} (hs : ∀ o ∈ out, sameP o p = true ↔ tx o = tx p) (hr : riseR q tx out) :
    riseR q tx (insR q tx p out) ∧ (∀ x ∈ insR q tx p out, x = p ∨ x ∈ out) ∧ (∀ x ∈ out, x ∈ insR q tx p out) ∧ (∃ x ∈ insR q tx p out, tx x = tx p) ∧ (insR q tx p out).length ≤ out.length + 1 := by
  have h := invR_fold q tx p out [] (false, []) hs (.inl ⟨rfl, by simp⟩)
  rw [List.nil_append] at h
  unfold insR
  rcases h with ⟨e, h⟩ | ⟨e, x, hx, ex⟩ | ⟨a, o, b, e1, e, h, h2⟩
  · rw [e]
    unfold doneR
    simp only [Bool.false_eq_true, if_false]
    refine ⟨List.pairwise_append.2 ⟨hr, by simp, fun x hx y hy => ?_⟩, fun x hx => ?_, fun x hx => by simp [hx], ⟨p, by simp, rfl⟩, by simp⟩
    · rw [List.mem_singleton.1 hy]
      exact ⟨(h x hx).2, (h x hx).1⟩
    · rcases List.mem_append.1 hx with hx | hx
      · exact .inr hx
      · exact .inl (List.mem_singleton.1 hx)
  · rw [e]
    unfold doneR
    simp only [if_true]
    exact ⟨hr, fun x hx => .inr hx, fun x hx => hx, ⟨x, hx, ex⟩, by omega⟩
  · rw [e]
    unfold doneR
    simp only [if_true]
    subst e1
    obtain ⟨r1, r2, r3⟩ := List.pairwise_append.1 hr
    obtain ⟨r4, r5⟩ := List.pairwise_cons.1 r2
    have hpt : ∀ y, y = o ∨ y ∈ b → tx p ≠ tx y := fun y hy e => by
      have hm : y ∈ a ++ o :: b := by rcases hy with rfl | hy <;> simp_all
      have hsame := (hs y hm).2 e.symm
      have hpl := same_place q hsame
      have hlt : ltP q tx y o = ltP q tx p o := by unfold ltP ltK kfN; simp only [hpl, e]
      rw [h2] at hlt
      rcases hy with rfl | hy
      · have := ltP_asym hlt
        rw [hlt] at this
        cases this
      · have := (r4 y hy).1
        rw [hlt] at this
        cases this
    refine ⟨List.pairwise_append.2 ⟨r1, List.pairwise_cons.2 ⟨fun y hy => ?_, r2⟩, fun x hx y hy => ?_⟩, fun x hx => ?_, fun x hx => ?_, ⟨p, by simp, rfl⟩, by simp; omega⟩
    · have hy' : y = o ∨ y ∈ b := List.mem_cons.1 hy
      refine ⟨?_, hpt y hy'⟩
      rcases hy' with rfl | hy'
      · exact ltP_asym h2
      · exact ltP_neg (r4 y hy').1 (ltP_asym h2)
    · rcases List.mem_cons.1 hy with rfl | hy
      · exact ⟨(h x hx).2, (h x hx).1⟩
      · exact r3 x hx y hy
    · simp only [List.mem_append, List.mem_cons] at hx ⊢
      rcases hx with hx | rfl | hx
      · exact .inr (.inl hx)
      · exact .inl rfl
      · exact .inr (.inr hx)
    · simp only [List.mem_append, List.mem_cons] at hx ⊢
      rcases hx with hx | hx
      · exact .inl hx
      · exact .inr (.inr hx)
theorem normR_ok {q : List TItem} {tx : TPred → ByteArray} (htx : ∀ a b, predX a = true → predX b = true → tx a = tx b → sameP a b = true) (htx' : ∀ a b, sameP a b = true → tx a = tx b) : ∀ (ps : List TPred) (_hx : ∀ p ∈ ps, predX p = true) (out : List TPred) (_ho : ∀ p ∈ out, predX p = true) (_hr : riseR q tx out),
    let r := ps.foldl (fun out p => insR q tx (normP p) out) out
    riseR q tx r ∧ (∀ x ∈ r, x ∈ out ∨ ∃ p ∈ ps, x = normP p) ∧ (∀ x ∈ out, x ∈ r) ∧ (∀ p ∈ ps, ∃ x ∈ r, tx x = tx (normP p)) ∧ r.length ≤ out.length + ps.length
  | [], _, out, ho, hr => ⟨hr, fun x hx => .inl hx, fun x hx => hx, by simp, by simp⟩
  | p :: ps, hx, out, ho, hr => by
    have hp := (predX_norm (hx p (by simp))).1
    have hs : ∀ o ∈ out, sameP o (normP p) = true ↔ tx o = tx (normP p) := fun o hm => ⟨htx' _ _, htx _ _ (ho o hm) hp⟩
    obtain ⟨i1, i2, i3, i4, i5⟩ := insR_ok hs hr
    have ho' : ∀ x ∈ insR q tx (normP p) out, predX x = true := fun x hm => by
      rcases i2 x hm with rfl | h
      · exact hp
      · exact ho x h
    obtain ⟨j1, j2, j3, j4, j5⟩ := normR_ok htx htx' ps (fun y hy => hx y (by simp [hy])) _ ho' i1
    simp only [List.foldl_cons]
    refine ⟨j1, fun x hm => ?_, fun x hm => j3 x (i3 x hm), fun y hy => ?_, ?_⟩
    · rcases j2 x hm with h | ⟨y, hy, e⟩
      · rcases i2 x h with e | h
        · exact .inr ⟨p, by simp, e⟩
        · exact .inl h
      · exact .inr ⟨y, by simp [hy], e⟩
    · rcases List.mem_cons.1 hy with rfl | hy
      · obtain ⟨x, h1, h2⟩ := i4
        exact ⟨x, j3 x h1, h2⟩
      · exact j4 y hy
    · simp only [List.length_cons]
      omega
theorem normR_same {q : List TItem} {tx : TPred → ByteArray} {ps : List TPred} (hx : ∀ p ∈ ps, predX p = true) (htx : ∀ a b, predX a = true → predX b = true → tx a = tx b → sameP a b = true) (htx' : ∀ a b, sameP a b = true → tx a = tx b) :
    (normL q tx ps).length = (normR q tx ps).length ∧ samePs (normL q tx ps) (normR q tx ps) = true := by
  obtain ⟨r1, r2, -, r4, -⟩ := normR_ok (q := q) htx htx' ps hx [] (by simp) List.Pairwise.nil
  have r2' : ∀ x ∈ normR q tx ps, ∃ p ∈ ps, x = normP p := fun x hm => by
    rcases r2 x hm with h | h
    · simp at h
    · exact h
  have mem : ∀ {k : TKeyed}, k ∈ sortN (onceN (ps.map (keyN q tx))) → ∃ p ∈ ps, k = keyN q tx p := fun {k} h => by
    obtain ⟨p, hp, e⟩ := List.mem_map.1 (onceN_mem ((sortN_perm _).mem_iff.1 h))
    exact ⟨p, hp, e.symm⟩
  have has : ∀ {p : TPred}, p ∈ ps → ∃ k ∈ sortN (onceN (ps.map (keyN q tx))), k.text = tx (normP p) := fun {p} h => by
    obtain ⟨k, h1, h2⟩ := onceN_has (List.mem_map.2 ⟨p, h, rfl⟩ : keyN q tx p ∈ ps.map (keyN q tx))
    exact ⟨k, (sortN_perm _).mem_iff.2 h1, h2⟩
  have sp : ∀ a ∈ sortN (onceN (ps.map (keyN q tx))), ∀ b ∈ (normR q tx ps).map (kfN q tx), a.text = b.text → sameP a.pred b.pred = true := fun a ha b hb e => by
    obtain ⟨p, hp, rfl⟩ := mem ha
    obtain ⟨x, hm, rfl⟩ := List.mem_map.1 hb
    obtain ⟨p', hp', rfl⟩ := r2' x hm
    exact htx _ _ (predX_norm (hx p hp)).1 (predX_norm (hx p' hp')).1 e
  have hB : ((normR q tx ps).map (kfN q tx)).Pairwise (fun a b => ltK b a = false ∧ a.text ≠ b.text) := by
    rw [List.pairwise_map]
    exact r1
  have hs := sorted_unique (sortN (onceN (ps.map (keyN q tx)))) ((normR q tx ps).map (kfN q tx)) ((sortN_rises _).and (sorted_apart _)) hB (fun a ha => by
    obtain ⟨p, hp, rfl⟩ := mem ha
    obtain ⟨x, h1, h2⟩ := r4 p hp
    exact ⟨_, List.mem_map.2 ⟨x, h1, rfl⟩, h2.symm⟩) (fun b hb => by
    obtain ⟨x, hm, rfl⟩ := List.mem_map.1 hb
    obtain ⟨p, hp, rfl⟩ := r2' x hm
    obtain ⟨k, h1, h2⟩ := has hp
    exact ⟨k, h1, h2.symm⟩) fun a ha b hb e => by
    have := sp a ha b hb e
    obtain ⟨p, hp, rfl⟩ := mem ha
    obtain ⟨x, hm, rfl⟩ := List.mem_map.1 hb
    exact same_place q this
  have hm : ((normR q tx ps).map (kfN q tx)).map (·.pred) = normR q tx ps := by
    rw [List.map_map]
    conv => rhs; rw [← List.map_id (normR q tx ps)]
    exact List.map_congr_left fun _ _ => rfl
  have h2 := sameT_preds hs sp
  rw [hm] at h2
  refine ⟨?_, h2⟩
  have := sameT_length hs
  unfold normL
  rw [List.length_map, this, List.length_map]
end Go.Aug.Api

namespace Go.Aug.Api
open Go.Aug
end Go.Aug.Api
namespace Go.Proofs.YthdkeggdipogoaaGreatDoor.Tz
open Go.Aug Go.Aug.Api
set_option maxRecDepth 100000
theorem SameItem_run (x : TItem) (H : Heap) : Run tab (.fn n_q25) [.agg (itemC x), .agg (itemC x)] H (bD true) H := by
  refine cK.run (cK_fn o_q25 t_q25 (Nat.le_of_ble_eq_true rfl) (by decide) ?_)
  have hok := x.names.ok
  simp [itemC, Sl.enc, eqAny]
  refine LR_rule (WR_mono _) (fun j E H' => ∃ pre suf, x.names.l = pre ++ suf ∧ j = suf.length ∧ E 2 = .rf H.next 0 ∧ E 3 = .rf (H.next + 1) 0 ∧ E 5 = i64D pre.length ∧ H' = ((low0 H).add (.cells (itemC x))).add (.cells (itemC x))) ?_ (j := x.names.l.length) ⟨[], x.names.l, rfl, rfl, by simp, by simp, by simp, by simp [itemC, Sl.enc]⟩
  rintro j E H' ⟨pre, suf, hl, rfl, e2, e3, e5, rfl⟩
  cases suf with
  | nil =>
    have hl' : x.names.l = pre := by simpa using hl
    have hlt' : ((pre.length : Int) < (x.names.l.length : Int)) = False := by simp [hl']
    simp [itemC, Sl.enc, e2, e3, e5, hlt']
  | cons a suf =>
    have hlt : pre.length < x.names.l.length := by rw [hl]; simp
    have hlt' : ((pre.length : Int) < (x.names.l.length : Int)) = True := by simp; omega
    have hw := wrap_more hlt hok
    have ea := elem_at strC_len x.names.rep x.names.l .i64 pre.length a (by rw [hl]; simp)
    simp [itemC, Sl.enc, e2, e3, e5, hlt', ea]
    simp [strC, e2, e3, e5, hw]
    exact ⟨suf.length, by omega, pre ++ [a], suf, by simp [hl], rfl, by simp⟩
theorem samePs_at {l m : List TPred} (h : samePs l m = true) {i : Nat} {a b : TPred} (h1 : l[i]? = some a) (h2 : m[i]? = some b) : sameP a b = true := by
  induction l generalizing m i with
  | nil => simp at h1
  | cons x l ih =>
    cases m with
    | nil => simp at h2
    | cons y m =>
      simp only [samePs, Bool.and_eq_true] at h
      cases i with
      | zero => simp at h1 h2; subst h1 h2; exact h.1
      | succ i => simp at h1 h2; exact ih h.2 h1 h2
theorem Same_run (q q' : TQuery) (hi : q.items.l = q'.items.l) (hlen : q.preds.l.length = q'.preds.l.length) (hp : samePs q.preds.l q'.preds.l = true) (hw : q.within = q'.within) (hb : q.by_ = q'.by_) (hk : q.pick = q'.pick) (H : Heap) :
    Run tab (.fn n_q23) [.agg (queryC q), .agg (queryC q')] H (bD true) H := by
  refine cK.run (cK_fn o_q23 t_q23 (Nat.le_of_ble_eq_true rfl) (by decide) ?_)
  have h0 : ∀ q : TQuery, (queryC q)[0]? = some (q.items.enc itemC) := fun _ => rfl
  have h1 : ∀ q : TQuery, (queryC q)[1]? = some (q.preds.enc predC) := fun _ => rfl
  have hil : (q.items.l.length : Int) = (q'.items.l.length : Int) := by rw [hi]
  have hpl : (q.preds.l.length : Int) = (q'.preds.l.length : Int) := by omega
  let H2 := ((low0 H).add (.cells (queryC q))).add (.cells (queryC q'))
  have hq : ∀ q : TQuery, queryC q = [slD q.items.rep q.items.l.length (q.items.l.flatMap itemC), slD q.preds.rep q.preds.l.length (q.preds.l.flatMap predC), i64D q.within, strD q.by_, i64D q.pick] := fun _ => rfl
  rw [hq q, hq q']
  simp [hil, hlen, hw, hb, hk]
  refine LR_rule (WR_mono _) (fun j E H' => ∃ pre suf, q.items.l = pre ++ suf ∧ j = suf.length ∧ E 2 = .rf H.next 0 ∧ E 3 = .rf (H.next + 1) 0 ∧ E 5 = i64D pre.length ∧ H' = ((low0 H).add (.cells (queryC q))).add (.cells (queryC q'))) ?_ (j := q.items.l.length) ⟨[], q.items.l, rfl, rfl, by simp, by simp, by simp, by simp [hq q, hq q', hw, hb, hk, hil, hlen]⟩
  rintro j E H' ⟨pre, suf, hl, rfl, e2, e3, e5, rfl⟩
  cases suf with
  | nil =>
    have hl' : q.items.l = pre := by simpa using hl
    have hlt' : ((pre.length : Int) < (q.items.l.length : Int)) = False := by simp [hl']
    simp [hq q, hq q', e2, e3, e5, hlt']
    refine LR_rule (WR_mono _) (fun j E H' => ∃ pre suf, q.preds.l = pre ++ suf ∧ j = suf.length ∧ E 2 = .rf H.next 0 ∧ E 3 = .rf (H.next + 1) 0 ∧ E 6 = i64D pre.length ∧ H' = ((low0 H).add (.cells (queryC q))).add (.cells (queryC q'))) ?_ (j := q.preds.l.length) ⟨[], q.preds.l, rfl, rfl, by simp [e2], by simp [e3], by simp, by simp [hq q, hq q']⟩
    rintro j E H' ⟨pre, suf, hl, rfl, e2, e3, e6, rfl⟩
    cases suf with
    | nil =>
      have hl' : q.preds.l = pre := by simpa using hl
      have hlt' : ((pre.length : Int) < (q.preds.l.length : Int)) = False := by simp [hl']
      simp [hq q, hq q', e2, e3, e6, hlt']
    | cons a suf =>
      have hlt : pre.length < q.preds.l.length := by rw [hl]; simp
      have hlt' : ((pre.length : Int) < (q.preds.l.length : Int)) = True := by simp; omega
      have hwr := wrap_more hlt q.preds.ok
      have ga : q.preds.l[pre.length]? = some a := by rw [hl]; simp
      obtain ⟨b, gb⟩ : ∃ b, q'.preds.l[pre.length]? = some b := ⟨_, List.getElem?_eq_getElem (by omega)⟩
      have ea := elem_at predC_len q.preds.rep q.preds.l .i64 pre.length a ga
      have eb := elem_at predC_len q'.preds.rep q'.preds.l .i64 pre.length b gb
      have hs := fun H => (SamePred_run a b H).cK
      rw [samePs_at hp ga gb] at hs
      simp [hq q, hq q', e2, e3, e6, hlt', ea, eb, load_elem _ _ _ _ (predC_len a), load_elem _ _ _ _ (predC_len b), hs, hwr]
      exact ⟨suf.length, by omega, pre ++ [a], suf, by simp [hl], rfl, by simp⟩
  | cons a suf =>
    have hlt : pre.length < q.items.l.length := by rw [hl]; simp
    have hlt' : ((pre.length : Int) < (q.items.l.length : Int)) = True := by simp; omega
    have hwr := wrap_more hlt q.items.ok
    have ga : q.items.l[pre.length]? = some a := by rw [hl]; simp
    have ea := elem_at itemC_len q.items.rep q.items.l .i64 pre.length a ga
    have eb := elem_at itemC_len q'.items.rep q'.items.l .i64 pre.length a (by rw [← hi]; exact ga)
    have hs := fun H => (SameItem_run a H).cK
    simp [hq q, hq q', e2, e3, e5, hlt', ea, eb, load_elem _ _ _ _ (itemC_len a), hs, hwr]
    exact ⟨suf.length, by omega, pre ++ [a], suf, by simp [hl], rfl, by simp⟩
end Go.Proofs.YthdkeggdipogoaaGreatDoor.Tz

namespace Go.Proofs.YthdkeggdipogoaaGreatDoor.Tz
open Go.Aug Go.Aug.Api
set_option maxRecDepth 100000
@[simp] theorem DO_gstill (T : Tab) (base i : Nat) (op : AOp) (t : Nat) (b : Bool) (a : List Nat) (l : Nat) (ps : List POp) (E : Fr) (rank : Nat) (pend : PendX) (Hs : ChainX) (Q : Fr → Heap → Prop) :
    DO T base (⟨some i, op, some (t, b), .acts, a, l, true⟩ :: ps) E rank pend Hs Q = @gK ((E t).says b) ⟨opK T E (low0 (wake base a pend (topC Hs).2 (topC Hs).1)) op fun d H' =>
      @gK (decide (stillLim l (atC Hs 0).1.next (wake base a pend (topC Hs).2 (topC Hs).1).next ≤ H'.low)) ⟨DO T base ps (upd E i d) rank pend ((relow H' (wake base a pend (topC Hs).2 (topC Hs).1).low, a ++ (topC Hs).2) :: Hs) Q⟩ ⟨False⟩⟩ ⟨DO T base ps (upd E i uD) rank pend (topC Hs :: Hs) Q⟩ := by simp only [DO, saysX]; rfl
theorem normQ_right {q : TQuery} (h : rightP q = true) : normQ q = { q with preds := ⟨repL (normL q.items.l (textS q) q.preds.l), normL q.items.l (textS q) q.preds.l, Nat.le_trans (normL_length ..) q.preds.ok⟩ } := by
  unfold normQ
  rw [dif_pos h]
theorem same_text (q : TQuery) {a b : TPred} (h : sameP a b = true) : textS q a = textS q b := by
  unfold textS
  rw [sameP_text h]
end Go.Proofs.YthdkeggdipogoaaGreatDoor.Tz

namespace Go.Proofs.YthdkeggdipogoaaGreatDoor.Tz
open Go.Aug Go.Aug.Api
set_option maxRecDepth 100000
theorem text_inj {q : TQuery} {a b : TPred} (ha : predX a = true) (hb : predX b = true) (h : textS q a = textS q b) : sameP a b = true := by
  refine pred_unique ha hb ?_
  unfold textS textP at h
  have h := congrArg (fun b : ByteArray => b.data.toList) h
  simp only [List.toList_toArray] at h
  refine Go.Aug.Api.bytes_eq ?_
  unfold partsT at h
  split at h
  · simpa using h
  · simpa using h
structure OrdAt (q : TQuery) (A : List TPred) (p : TPred) (C Lc : List TPred) (b : Nat) (E : Fr) (H' : Heap) : Prop where
  e2 : E 2 = .rf b 0
  e5 : E 5 = bD true
  e7 : E 7 = .rf (b + 1) 0
  g0 : H'.get b = some (.cells (qC q (q.preds.enc predC)))
  fa : ∃ r, H'.get (b + 1) = some (.cells (qC q (.rs r 0 q.preds.l.length none 15))) ∧ H'.get r = some (.cells ((p :: C ++ A).flatMap predC)) ∧ r < H'.next
  fb : ∃ x d, E 8 = .rf x 0 ∧ x < H'.next ∧ H'.get x = some (.cells (qC q d)) ∧ Own ((q.preds.l ++ [p]).flatMap predC) (q.preds.l.length + 1) 15 0 H' d
  fc : ∃ x r, E 9 = .rf x 0 ∧ x < H'.next ∧ H'.get x = some (.cells (qC q (.rs r 0 q.preds.l.length none 15))) ∧ H'.get r = some (.cells (Lc.flatMap predC)) ∧ r < H'.next
  w1 : b ≤ H'.low
  w2 : H'.low ≤ H'.next
  w3 : b + 2 ≤ H'.next
end Go.Proofs.YthdkeggdipogoaaGreatDoor.Tz
