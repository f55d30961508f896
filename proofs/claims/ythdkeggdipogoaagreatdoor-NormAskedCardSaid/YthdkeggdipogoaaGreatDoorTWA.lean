/-
The walks of what says whether queries are the same, where they are; and how deep a right expression is. Conditions: none.
-/
import Derived.Test.YthdkeggdipogoaaGreatDoorTXq
import Derived.Test.YthdkeggdipogoaaGreatDoorTVw
namespace Go.Aug.Api
open Go.Aug
end Go.Aug.Api
namespace Go.Proofs.YthdkeggdipogoaaGreatDoor.Tz
open Go.Aug Go.Aug.Api
set_option maxRecDepth 100000
theorem SameItem_run (x : TItem) (H : Heap) : Run tab (.fn n_q22) [.agg (itemC x), .agg (itemC x)] H (bD true) H := by
  refine cK.run (cK_fn o_q22 t_q22 (Nat.le_of_ble_eq_true rfl) (by decide) ?_)
  have hok := x.names.ok
  simp [itemC, Sl.enc, eqAny]
  refine LR_rule (WR_mono _) (fun j E H' => ∃ pre suf, x.names.l = pre ++ suf ∧ j = suf.length ∧ E 2 = .rf H.next 0 ∧ E 3 = .rf (H.next + 1) 0 ∧ E 5 = i64D pre.length ∧ H' = ((low0 H).add (.cells (itemC x))).add (.cells (itemC x))) ?_ (j := x.names.l.length) ⟨[], x.names.l, rfl, rfl, by simp, by simp, by simp, by simp [itemC, Sl.enc]⟩
  rintro j E H' ⟨pre, suf, hl, rfl, e2, e3, e5, rfl⟩
  cases suf with
  | nil =>
    have hl' : x.names.l = pre := by simpa using hl
    have hlt' : ((pre.length : Int) < (x.names.l.length : Int)) = False := by simp [hl']
    simp [itemC, Sl.enc, e2, e3, e5, hlt']
  | cons a suf =>
    have hlt : pre.length < x.names.l.length := by rw [hl]; simp
    have hlt' : ((pre.length : Int) < (x.names.l.length : Int)) = True := by simp; omega
    have hw := wrap_more hlt hok
    have ea := elem_at strC_len x.names.rep x.names.l .i64 pre.length a (by rw [hl]; simp)
    simp [itemC, Sl.enc, e2, e3, e5, hlt', ea]
    simp [strC, e2, e3, e5, hw]
    exact ⟨suf.length, by omega, pre ++ [a], suf, by simp [hl], rfl, by simp⟩
theorem samePs_at {l m : List TPred} (h : samePs l m = true) {i : Nat} {a b : TPred} (h1 : l[i]? = some a) (h2 : m[i]? = some b) : sameP a b = true := by
  induction l generalizing m i with
  | nil => simp at h1
  | cons x l ih =>
    cases m with
    | nil => simp at h2
    | cons y m =>
      simp only [samePs, Bool.and_eq_true] at h
      cases i with
      | zero => simp at h1 h2; subst h1 h2; exact h.1
      | succ i => simp at h1 h2; exact ih h.2 h1 h2
theorem Same_run (q q' : TQuery) (hi : q.items.l = q'.items.l) (hlen : q.preds.l.length = q'.preds.l.length) (hp : samePs q.preds.l q'.preds.l = true) (hw : q.within = q'.within) (hb : q.by_ = q'.by_) (hk : q.pick = q'.pick) (H : Heap) :
    Run tab (.fn n_q20) [.agg (queryC q), .agg (queryC q')] H (bD true) H := by
  refine cK.run (cK_fn o_q20 t_q20 (Nat.le_of_ble_eq_true rfl) (by decide) ?_)
  have h0 : ∀ q : TQuery, (queryC q)[0]? = some (q.items.enc itemC) := fun _ => rfl
  have h1 : ∀ q : TQuery, (queryC q)[1]? = some (q.preds.enc predC) := fun _ => rfl
  have hil : (q.items.l.length : Int) = (q'.items.l.length : Int) := by rw [hi]
  have hpl : (q.preds.l.length : Int) = (q'.preds.l.length : Int) := by omega
  let H2 := ((low0 H).add (.cells (queryC q))).add (.cells (queryC q'))
  have hq : ∀ q : TQuery, queryC q = [slD q.items.rep q.items.l.length (q.items.l.flatMap itemC), slD q.preds.rep q.preds.l.length (q.preds.l.flatMap predC), i64D q.within, strD q.by_, i64D q.pick] := fun _ => rfl
  rw [hq q, hq q']
  simp [hil, hlen, hw, hb, hk]
  refine LR_rule (WR_mono _) (fun j E H' => ∃ pre suf, q.items.l = pre ++ suf ∧ j = suf.length ∧ E 2 = .rf H.next 0 ∧ E 3 = .rf (H.next + 1) 0 ∧ E 5 = i64D pre.length ∧ H' = ((low0 H).add (.cells (queryC q))).add (.cells (queryC q'))) ?_ (j := q.items.l.length) ⟨[], q.items.l, rfl, rfl, by simp, by simp, by simp, by simp [hq q, hq q', hw, hb, hk, hil, hlen]⟩
  rintro j E H' ⟨pre, suf, hl, rfl, e2, e3, e5, rfl⟩
  cases suf with
  | nil =>
    have hl' : q.items.l = pre := by simpa using hl
    have hlt' : ((pre.length : Int) < (q.items.l.length : Int)) = False := by simp [hl']
    simp [hq q, hq q', e2, e3, e5, hlt']
    refine LR_rule (WR_mono _) (fun j E H' => ∃ pre suf, q.preds.l = pre ++ suf ∧ j = suf.length ∧ E 2 = .rf H.next 0 ∧ E 3 = .rf (H.next + 1) 0 ∧ E 6 = i64D pre.length ∧ H' = ((low0 H).add (.cells (queryC q))).add (.cells (queryC q'))) ?_ (j := q.preds.l.length) ⟨[], q.preds.l, rfl, rfl, by simp [e2], by simp [e3], by simp, by simp [hq q, hq q']⟩
    rintro j E H' ⟨pre, suf, hl, rfl, e2, e3, e6, rfl⟩
    cases suf with
    | nil =>
      have hl' : q.preds.l = pre := by simpa using hl
      have hlt' : ((pre.length : Int) < (q.preds.l.length : Int)) = False := by simp [hl']
      simp [hq q, hq q', e2, e3, e6, hlt']
    | cons a suf =>
      have hlt : pre.length < q.preds.l.length := by rw [hl]; simp
      have hlt' : ((pre.length : Int) < (q.preds.l.length : Int)) = True := by simp; omega
      have hwr := wrap_more hlt q.preds.ok
      have ga : q.preds.l[pre.length]? = some a := by rw [hl]; simp
      obtain ⟨b, gb⟩ : ∃ b, q'.preds.l[pre.length]? = some b := ⟨_, List.getElem?_eq_getElem (by omega)⟩
      have ea := elem_at predC_len q.preds.rep q.preds.l .i64 pre.length a ga
      have eb := elem_at predC_len q'.preds.rep q'.preds.l .i64 pre.length b gb
      have hs := fun H => (SamePred_run a b H).cK
      rw [samePs_at hp ga gb] at hs
      simp [hq q, hq q', e2, e3, e6, hlt', ea, eb, load_elem _ _ _ _ (predC_len a), load_elem _ _ _ _ (predC_len b), hs, hwr]
      exact ⟨suf.length, by omega, pre ++ [a], suf, by simp [hl], rfl, by simp⟩
  | cons a suf =>
    have hlt : pre.length < q.items.l.length := by rw [hl]; simp
    have hlt' : ((pre.length : Int) < (q.items.l.length : Int)) = True := by simp; omega
    have hwr := wrap_more hlt q.items.ok
    have ga : q.items.l[pre.length]? = some a := by rw [hl]; simp
    have ea := elem_at itemC_len q.items.rep q.items.l .i64 pre.length a ga
    have eb := elem_at itemC_len q'.items.rep q'.items.l .i64 pre.length a (by rw [← hi]; exact ga)
    have hs := fun H => (SameItem_run a H).cK
    simp [hq q, hq q', e2, e3, e5, hlt', ea, eb, load_elem _ _ _ _ (itemC_len a), hs, hwr]
    exact ⟨suf.length, by omega, pre ++ [a], suf, by simp [hl], rfl, by simp⟩
end Go.Proofs.YthdkeggdipogoaaGreatDoor.Tz

namespace Go.Proofs.YthdkeggdipogoaaGreatDoor.Tz
open Go.Aug Go.Aug.Api
set_option maxRecDepth 100000
def lawFnsK : List Nat := [n_q1, n_q0, n_q107, n_q20]
noncomputable def orcsK (f : Nat) : Option (List D → Heap → Option (D × Heap)) := cond (Nat.beq f n_q77) (some (pureOrc2 (runSpec tabN n_q77))) (cond (Nat.beq f n_q47) (some (pureOrc2 (runSpec tabV n_q47))) (cond (isLaw f lawFnsK) (some (pureOrc2 (runSpec tab f))) (orcs f)))
noncomputable def tabK : Tab := ⟨findF rows, frozen, orcsK⟩
theorem orcsK_ok (f : Nat) (g : List D → Heap → Option (D × Heap)) (h : orcsK f = some g) : OrcOk Tryz.prog f g := by
  unfold orcsK at h
  cases hk : Nat.beq f n_q77 with
  | true =>
    rw [hk] at h
    simp only [cond_true, Option.some.injEq] at h
    rw [← h, Nat.eq_of_beq_eq_true hk]
    exact runSpec_orc tabN_ok _
  | false =>
    rw [hk] at h
    simp only [cond_false] at h
    cases hk : Nat.beq f n_q47 with
    | true =>
      rw [hk] at h
      simp only [cond_true, Option.some.injEq] at h
      rw [← h, Nat.eq_of_beq_eq_true hk]
      exact runSpec_orc tabV_ok _
    | false =>
      rw [hk] at h
      simp only [cond_false] at h
      cases hk : isLaw f lawFnsK with
      | true =>
        rw [hk] at h
        simp only [cond_true, Option.some.injEq] at h
        rw [← h]
        exact runSpec_orc tab_ok _
      | false => rw [hk] at h; exact orcs_ok f g h
theorem tabK_ok : TabOk Tryz.prog tabK := tab_ok' _ _ orcsK_ok
theorem tLK {f : Nat} {fi : FI} (h : tab.fn f = some fi) : tabK.fn f = some fi := h
theorem oK_Norm : tabK.orc n_q77 = some (pureOrc2 (runSpec tabN n_q77)) := by kernel_rfl
theorem oK_Check : tabK.orc n_q47 = some (pureOrc2 (runSpec tabV n_q47)) := by kernel_rfl
theorem oK_Great : tabK.orc n_q1 = some (pureOrc2 (runSpec tab n_q1)) := by kernel_rfl
theorem oK_GreatS : tabK.orc n_q0 = some (pureOrc2 (runSpec tab n_q0)) := by kernel_rfl
theorem oK_Right : tabK.orc n_q107 = some (pureOrc2 (runSpec tab n_q107)) := by kernel_rfl
theorem oK_Same : tabK.orc n_q20 = some (pureOrc2 (runSpec tab n_q20)) := by kernel_rfl
theorem oK_head10 : tabK.orc n_q4 = some orcHead := by kernel_rfl
theorem oK_NormAsked : tabK.orc n_q3 = none := by kernel_rfl
theorem runK {T : Tab} {f : FuncId} {args : List D} {d : D} (ho : tabK.orc f = some (pureOrc2 (runSpec T f))) (hu : D.under.underAll 0 args = true) (hd : Run T (.fn f) args H0 d H0) (H : Heap) : Run tabK (.fn f) args H d H := cK.run (cK_pure ho hu hd ⟨rfl, rfl⟩)
theorem head10K_run (H : Heap) : Run tabK (.fn n_q4) [] H (bD true) H :=
  cK.run (cK_orc oK_head10 ⟨_, rfl, rfl, rfl⟩)
end Go.Proofs.YthdkeggdipogoaaGreatDoor.Tz

namespace Go.Proofs.YthdkeggdipogoaaGreatDoor.Tz
open Go.Aug Go.Aug.Api
set_option maxRecDepth 100000
def bareQ (q : TQuery) : TQuery := { q with preds := .nil }
set_option maxHeartbeats 1000000 in
theorem asked_walk (l : Sl TSchema) (q : TQuery) (H : Heap) : cK tabK (.fn n_q3) [l.enc schemaC, .agg (queryC q)] H fun d H' => d = bD true ∧ H' = H := by
  refine cK_fn oK_NormAsked (tLK t_q3) (Nat.le_of_ble_eq_true rfl) (by decide) ?_
  have hq5 : ∀ q : TQuery, (queryC q).take 5 = queryC q := fun q => List.take_of_length_le (by rw [queryC_len]; exact Nat.le_refl _)
  have hh := fun H => (head10K_run H).cK
  obtain ⟨g, hg⟩ := (Great_run q H0).run
  have hG0 : ∀ H, Run tabK (.fn n_q1) [.agg (queryC q)] H (bD g) H := fun H => runK oK_Great (by simp) hg H
  have hG := fun H => (hG0 H).cK
  obtain ⟨gs, hgs⟩ := (GreatSchemas_run l H0).run
  have hGS0 : ∀ H, Run tabK (.fn n_q0) [l.enc schemaC] H (bD gs) H := fun H => runK oK_GreatS (by simp) hgs H
  have hGS := fun H => (hGS0 H).cK
  have hR0 : ∀ H, Run tabK (.fn n_q107) [.agg (queryC q)] H (bD (rightP q)) H := fun H => runK oK_Right (by simp) (tree_Right_run q H0) H
  have hR := fun H => (hR0 H).cK
  have hN0 : ∀ H, Run tabK (.fn n_q77) [.agg (queryC q)] H (.agg (queryC (normQ q))) H := fun H => runK oK_Norm (by simp) (norm_Norm_run q H0) H
  have hN := fun H => (hN0 H).cK
  have hC0 : ∀ (q : TQuery) H, Run tabK (.fn n_q47) [l.enc schemaC, .agg (queryC q)] H (V.pairD (checkR l.l q)) H := fun q H => runK oK_Check (by simp) (V.check_Check_run l q H0) H
  have hC := fun q H => (hC0 q H).cK
  simp only [V.pairD] at hC
  cases gs with
  | true => simp [hh, hGS]
  | false =>
  cases g with
  | true => simp [hq5, hh, hGS, hG]
  | false =>
  cases hq : rightP q with
  | false =>
    rw [hq] at hR
    simp [hq5, hh, hGS, hG, hR]
  | true =>
  rw [hq] at hR
  have h2 : bareQ (normQ q) = bareQ q := by rw [normQ_right hq]; rfl
  have hS0 : ∀ H, Run tabK (.fn n_q20) [.agg (queryC (bareQ q)), .agg (queryC (bareQ q))] H (bD true) H := fun H => runK oK_Same (by simp) (Same_run (bareQ q) (bareQ q) rfl rfl (samePs_refl _) rfl rfl rfl H0) H
  have hS := fun H => (hS0 H).cK
  have hfull : ∀ (z : List D) (q : TQuery), z.length = 5 → setAll z 0 (queryC q) = queryC q := fun z q h => setAll_full z _ (by rw [h]; rfl)
  have hlaw := check_norm (l := l.l) hq
  have hset : ∀ q : TQuery, (queryC q).set 1 (.v (.slice none 0 0)) = queryC (bareQ q) := fun _ => rfl
  by_cases h0 : (checkR l.l q).1 = 0
  · have h1 := hlaw h0
    simp [hq5, hh, hGS, hG, hR, hN, hC, hfull, hset, h2, hS, h0, h1]
  · simp [hq5, hh, hGS, hG, hR, hN, hC, hfull, hset, h2, hS, h0]
end Go.Proofs.YthdkeggdipogoaaGreatDoor.Tz

namespace Go.Proofs.YthdkeggdipogoaaGreatDoor.Tz
open Go.Aug Go.Aug.Api
set_option maxRecDepth 100000
abbrev Gd (n : Nat) (t : TypeId) (x : List D) : Prop := Aug.Good Tryz.prog n t x
theorem k_int {n : Nat} {x : List D} (h : Gd n 3 x) : ∃ a, x = intC a := by
  cases n with
  | zero => exact h.elim
  | succ n =>
    rw [Gd, good_int Tryz.underlying3] at h
    obtain ⟨m, rfl, -⟩ := h
    exact ⟨m, rfl⟩
theorem k_int' {n : Nat} {x : List D} (h : Gd n 3 x) : ∃ a, x = intC a ∧ i64ok a := by
  cases n with
  | zero => exact h.elim
  | succ n =>
    rw [Gd, good_int Tryz.underlying3] at h
    obtain ⟨m, rfl, hm⟩ := h
    refine ⟨m, rfl, ?_⟩
    simp only [Lit.wf, IntKind.min, IntKind.max, IntKind.signed, IntKind.bits, Bool.and_eq_true, decide_eq_true_eq] at hm
    exact hm
theorem k_int64 {n : Nat} {x : List D} (h : Gd n 2 x) : ∃ a, x = intC a := by
  cases n with
  | zero => exact h.elim
  | succ n =>
    rw [Gd, good_int Tryz.underlying2] at h
    obtain ⟨m, rfl, -⟩ := h
    exact ⟨m, rfl⟩
theorem k_bool {n : Nat} {x : List D} (h : Gd n 4 x) : ∃ b, x = [bD b] := by
  cases n with
  | zero => exact h.elim
  | succ n =>
    rw [Gd, good_bool Tryz.underlying4] at h
    exact h
theorem k_str' {n : Nat} {x : List D} (h : Gd n 9 x) : ∃ s, x = strC s ∧ s.size ≤ big := by
  cases n with
  | zero => exact h.elim
  | succ n =>
    rw [Gd, good_string Tryz.underlying9] at h
    obtain ⟨s, rfl, hs⟩ := h
    have : maxLen = 9223372036854775807 := by decide
    exact ⟨s, rfl, by show s.size ≤ 9223372036854775807; omega⟩
theorem k_str {n : Nat} {x : List D} (h : Gd n 9 x) : ∃ s, x = strC s := let ⟨s, h1, _⟩ := k_str' h; ⟨s, h1⟩
theorem k_sl' {n : Nat} {t e : TypeId} {ds : List D} {α : Type} {c : α → List D} {p : α → Prop} (hu : Tryz.prog.underlying t = some (.slice e)) (hc : ∀ n x, Gd n e x → ∃ a, x = c a ∧ p a) (h : Gd n t ds) : ∃ x : Sl α, ds = [x.enc c] ∧ ∀ a ∈ x.l, p a := by
  cases n with
  | zero => exact h.elim
  | succ n =>
    obtain ⟨x, hx⟩ := good_sl (c := fun a : {a : α // p a} => c a.1) hu (fun y hy => by
      obtain ⟨a, h1, h2⟩ := hc n y hy
      exact ⟨⟨a, h2⟩, h1⟩) h
    refine ⟨⟨x.rep, x.l.map (·.1), by simpa using x.ok⟩, ?_, fun a ha => ?_⟩
    · rw [hx]
      simp [Sl.enc, List.flatMap, Function.comp_def]
    · obtain ⟨y, -, rfl⟩ := List.mem_map.1 ha
      exact y.2
theorem k_sl {n : Nat} {t e : TypeId} {ds : List D} {α : Type} {c : α → List D} (hu : Tryz.prog.underlying t = some (.slice e)) (hc : ∀ n x, Gd n e x → ∃ a, x = c a) (h : Gd n t ds) : ∃ x : Sl α, ds = [x.enc c] := by
  cases n with
  | zero => exact h.elim
  | succ n => exact good_sl hu (hc n) h
theorem k_val' {n : Nat} {x : List D} (h : Gd n 29 x) : ∃ v, x = valC v ∧ v.s.size ≤ big := by
  cases n with
  | zero => exact h.elim
  | succ n =>
    rw [Gd, good_struct Tryz.underlying29] at h
    simp only [fieldsG] at h
    obtain ⟨a1, r1, rfl, -, h1, a2, r2, rfl, -, h2, a3, r3, rfl, -, h3, rfl⟩ := h
    obtain ⟨k, rfl⟩ := k_int h1
    obtain ⟨m, rfl⟩ := k_int64 h2
    obtain ⟨s, rfl, hs⟩ := k_str' h3
    exact ⟨⟨k, m, s⟩, rfl, hs⟩
theorem k_field {n : Nat} {x : List D} (h : Gd n 86 x) : ∃ v, x = fieldC v := by
  cases n with
  | zero => exact h.elim
  | succ n =>
    rw [Gd, good_struct Tryz.underlying86] at h
    simp only [fieldsG] at h
    obtain ⟨a1, r1, rfl, -, h1, a2, r2, rfl, -, h2, rfl⟩ := h
    obtain ⟨s, rfl⟩ := k_str h1
    obtain ⟨k, rfl, hk⟩ := k_int' h2
    exact ⟨⟨s, k, hk⟩, rfl⟩
theorem k_schema {n : Nat} {x : List D} (h : Gd n 89 x) : ∃ v, x = schemaC v := by
  cases n with
  | zero => exact h.elim
  | succ n =>
    rw [Gd, good_struct Tryz.underlying89] at h
    simp only [fieldsG] at h
    obtain ⟨a1, r1, rfl, -, h1, a2, r2, rfl, -, h2, rfl⟩ := h
    obtain ⟨s, rfl⟩ := k_str h1
    obtain ⟨l, rfl⟩ := k_sl Tryz.underlying87 (fun _ _ => k_field) h2
    exact ⟨⟨s, l⟩, rfl⟩
theorem k_item {n : Nat} {x : List D} (h : Gd n 63 x) : ∃ v, x = itemC v := by
  cases n with
  | zero => exact h.elim
  | succ n =>
    rw [Gd, good_struct Tryz.underlying63] at h
    simp only [fieldsG] at h
    obtain ⟨a1, r1, rfl, -, h1, a2, r2, rfl, -, h2, a3, r3, rfl, -, h3, a4, r4, rfl, -, h4, rfl⟩ := h
    obtain ⟨b, rfl⟩ := k_bool h1
    obtain ⟨l, rfl, hl⟩ := k_sl' Tryz.underlying61 (fun _ _ => k_str') h2
    obtain ⟨s, rfl, hs⟩ := k_str' h3
    obtain ⟨k, rfl⟩ := k_int h4
    exact ⟨⟨b, l, s, k, hl, hs⟩, rfl⟩
theorem okEs_of : ∀ {l : List TExpr}, (∀ x ∈ l, okE x) → okEs l
  | [], _ => trivial
  | x :: _l, h => ⟨h x (List.mem_cons_self ..), okEs_of fun y hy => h y (List.mem_cons_of_mem _ hy)⟩
theorem k_expr : ∀ (n : Nat) (x : List D), Gd n 32 x → ∃ e, x = exprC e ∧ okE e
  | 0, x, h => h.elim
  | 1, x, h => by
    rw [Gd, good_struct Tryz.underlying32] at h
    simp only [fieldsG] at h
    obtain ⟨a1, r1, rfl, -, h1, -⟩ := h
    exact h1.elim
  | n + 2, x, h => by
    rw [Gd, good_struct Tryz.underlying32] at h
    simp only [fieldsG] at h
    obtain ⟨a1, r1, rfl, -, h1, a2, r2, rfl, -, h2, a3, r3, rfl, -, h3, a4, r4, rfl, -, h4, a5, r5, rfl, -, h5, rfl⟩ := h
    obtain ⟨k, rfl⟩ := k_int h1
    obtain ⟨v, rfl, hv⟩ := k_val' h2
    obtain ⟨s, rfl, hs⟩ := k_str' h3
    obtain ⟨f, rfl, hf⟩ := k_str' h4
    rw [good_slice Tryz.underlying30] at h5
    obtain ⟨rep, l, rfl, hl, hx⟩ := h5
    obtain ⟨es, rfl⟩ := good_map (c := fun e : {e : TExpr // okE e} => exprC e.1) fun y hy => by
      obtain ⟨e, h1, h2⟩ := k_expr n y (hx y hy).2
      exact ⟨⟨e, h2⟩, h1⟩
    refine ⟨.mk k v s f rep (es.map (·.1)), ?_, ?_, okEs_of fun x hx => ?_, hs, hf, hv⟩
    · rw [exprC_mk]
      simp [intC, valC, strC, List.flatMap]
    · have : maxLen = 9223372036854775807 := by decide
      simp at hl
      show (es.map (·.1)).length ≤ 9223372036854775807
      simp
      omega
    · obtain ⟨e, -, rfl⟩ := List.mem_map.1 hx
      exact e.2
theorem k_pred {n : Nat} {x : List D} (h : Gd n 34 x) : ∃ v, x = predC v := by
  cases n with
  | zero => exact h.elim
  | succ n =>
    rw [Gd, good_struct Tryz.underlying34] at h
    simp only [fieldsG] at h
    obtain ⟨a1, r1, rfl, -, h1, a2, r2, rfl, -, h2, a3, r3, rfl, -, h3, rfl⟩ := h
    obtain ⟨k, rfl⟩ := k_int h1
    obtain ⟨e1, rfl, o1⟩ := k_expr _ _ h2
    obtain ⟨e2, rfl, o2⟩ := k_expr _ _ h3
    exact ⟨⟨k, e1, e2, o1, o2⟩, by simp [predC, intC]⟩
theorem k_query {n : Nat} {x : List D} (h : Gd n 25 x) : ∃ v, x = queryC v := by
  cases n with
  | zero => exact h.elim
  | succ n =>
    rw [Gd, good_struct Tryz.underlying25] at h
    simp only [fieldsG] at h
    obtain ⟨a1, r1, rfl, -, h1, a2, r2, rfl, -, h2, a3, r3, rfl, -, h3, a4, r4, rfl, -, h4, a5, r5, rfl, -, h5, rfl⟩ := h
    obtain ⟨l1, rfl⟩ := k_sl Tryz.underlying22 (fun _ _ => k_item) h1
    obtain ⟨l2, rfl⟩ := k_sl Tryz.underlying23 (fun _ _ => k_pred) h2
    obtain ⟨w, rfl⟩ := k_int64 h3
    obtain ⟨s, rfl, hs⟩ := k_str' h4
    obtain ⟨p, rfl⟩ := k_int h5
    exact ⟨⟨l1, l2, w, s, p, hs⟩, rfl⟩
def kindsAll : List TypeId := [2, 3, 4, 5, 9, 22, 23, 25, 29, 30, 32, 34, 43, 46, 47, 61, 63, 86, 87, 89, 90, 92, 94]
theorem kindsAll_ok : closedB Tryz.prog kindsAll = true := by kernel_rfl
variable {W : World} {H : Type} {enc : TypeId × Value → H} {d : DataW H} {p : List MemPlace} {v : Value}
theorem in_sl {t e : TypeId} {α : Type} {c : α → List D} (hu : Tryz.prog.underlying t = some (.slice e)) (ht : t ∈ kindsAll) (hc : ∀ n x, Gd n e x → ∃ a, x = c a) (hv : v.cells = #[v])
    (h : DataW.Trod enc Tryz.prog W 0 (fun _ => true) true t v d p) : ∃ l : Sl α, relIn W (l.enc c) v := by
  obtain ⟨fuel, hf⟩ := h
  obtain ⟨ds, h1, h2⟩ := trod_good kindsAll_ok fuel t _ _ ht hf
  obtain ⟨x, rfl, h3⟩ := arg_one hv h1
  obtain ⟨l, hx⟩ := k_sl hu hc h2
  simp only [List.cons.injEq, and_true] at hx
  exact ⟨l, hx ▸ h3⟩
theorem in_query {cs : Array Value} (h : DataW.Trod enc Tryz.prog W 0 (fun _ => true) true 25 (.agg cs) d p) : ∃ q, relIn W (.agg (queryC q)) (.agg cs) := by
  obtain ⟨fuel, hf⟩ := h
  obtain ⟨ds, h1, h2⟩ := trod_good kindsAll_ok fuel 25 _ _ (by decide) hf
  obtain ⟨q, rfl⟩ := k_query h2
  exact ⟨q, arg_agg h1⟩
end Go.Proofs.YthdkeggdipogoaaGreatDoor.Tz
