/-
The walks of expressions: their values. Conditions: none.
-/
import Derived.Test.YthdkeggdipogoaaGreatDoorTW5
namespace Go.Proofs.YthdkeggdipogoaaGreatDoor.Tz
open Go.Aug Go.Aug.Api
set_option maxRecDepth 100000
def ValueOk (s : TScope) (x : TExpr) : Prop := ∀ (H : Heap) (r : Nat), H.get r = some (.cells (scopeC s)) → r < H.next → Run tab (.fn n_eval_scope_value) [.rf r 0, .agg (exprC x)] H (valueS s x).enc H
theorem eval_scope_two_run (s : TScope) (k vk vn : Int) (vs var field : ByteArray) (rep : Option (Option Nat)) (kids : List TExpr) (of : TVal → TVal → VE) (g : FuncId) (H : Heap) {r : Nat} (h : H.get r = some (.cells (scopeC s))) (hr : r < H.next)
    (hof : ∀ a b H, Run tab (.fn g) [.agg (valC a), .agg (valC b)] H (of a b).enc H) (ih : ∀ x ∈ kids, ValueOk s x) :
    Run tab (.fn n_eval_scope_two) [.rf r 0, .agg [i64D k, i64D vk, i64D vn, strD vs, strD var, strD field, slD rep kids.length (kids.flatMap exprC)], .fn (.func g) [] []] H (twoKids s of kids).enc H := by
  refine cK.run (cK_fn o_eval_scope_two t_eval_scope_two (Nat.le_of_ble_eq_true rfl) (by decide) ?_)
  have hne : (r = H.next) = False := by simp; omega
  have hne2 : ∀ k, (r = H.next + k) = False := by simp; omega
  simp
  refine gK_of (fun h2 => ?_) (fun h2 => ?_)
  · have : twoKids s of kids = (zVal, 1) := by
      simp at h2
      match kids, h2 with
      | [], _ => rfl
      | [_], _ => rfl
      | [_, _], h2 => exact absurd rfl h2
      | _ :: _ :: _ :: _, _ => rfl
    simp [this, VE.enc, valC, zVal]
  · simp at h2
    obtain ⟨a, b, rfl⟩ : ∃ a b, kids = [a, b] := by
      match kids, h2 with
      | [a, b], _ => exact ⟨a, b, rfl⟩
    have hA := fun H1 (h1 : H1.get r = some (.cells (scopeC s))) (h2 : r < H1.next) => (ih a (by simp) H1 r h1 h2).cK
    have hB := fun H1 (h1 : H1.get r = some (.cells (scopeC s))) (h2 : r < H1.next) => (ih b (by simp) H1 r h1 h2).cK
    have e0 := elem_at exprC_len rep [a, b] .i64 0 a rfl
    have e1 := elem_at exprC_len rep [a, b] .i64 1 b rfl
    simp at e0 e1
    have hr2 : ∀ k, (r < H.next + k) = True := by simp; omega
    simp [e0, load_elem _ _ _ _ (exprC_len _), h, hne, hne2, hr2, hA, VE.enc, valC]
    refine gK_of (fun h3 => ?_) (fun h3 => ?_)
    · simp at h3
      simp [h3, twoKids, twoS, VE.enc, valC, zVal]
    · simp [h3, e1, h, hne, hne2, hr2, hB, VE.enc, valC]
      simp at h3
      refine gK_of (fun h4 => ?_) (fun h4 => ?_)
      · simp at h4
        simp [h3, h4, twoKids, twoS, VE.enc, valC, zVal]
      · have hC := fun k n s k' n' s' H => (hof ⟨k, n, s⟩ ⟨k', n', s'⟩ H).cK
        simp only [valC] at hC
        simp [h4, hC]
        simp at h4
        simp [h3, h4, twoKids, twoS, VE.enc, valC]
theorem eval_scope_value_run (s : TScope) : ∀ x, ValueOk s x
  | .mk k v var field rep kids => by
    have ih : ∀ x ∈ kids, ValueOk s x := fun x hx => eval_scope_value_run s x
    intro H r h hr
    refine cK.run (cK_fn o_eval_scope_value t_eval_scope_value (Nat.le_of_ble_eq_true rfl) (by decide) ?_)
    have hne : (r = H.next) = False := by simp; omega
    have hne2 : ∀ k, (r = H.next + k) = False := by simp; omega
    have hr2 : ∀ k, (r < H.next + k) = True := by simp; omega
    have hA := fun (H1 : Heap) (h1 : H1.get r = some (.cells (scopeC s))) (h2 : r < H1.next) => (eval_scope_two_run s k v.kind v.n v.s var field rep kids addV n_value_Add H1 h1 h2 (fun a b H => value_Add_run _ _ _ _ _ _ H) ih).cK
    have hS := fun (H1 : Heap) (h1 : H1.get r = some (.cells (scopeC s))) (h2 : r < H1.next) => (eval_scope_two_run s k v.kind v.n v.s var field rep kids subV n_value_Sub H1 h1 h2 (fun a b H => value_Sub_run _ _ _ _ _ _ H) ih).cK
    have hR := fun (H1 : Heap) (h1 : H1.get r = some (.cells (scopeC s))) (h2 : r < H1.next) => (eval_scope_row_run s var H1 h1 h2).cK
    have hF := fun (e : TEvent) (H1 : Heap) (h1 : H1.get r = some (.cells (scopeC s))) (h2 : r < H1.next) => (eval_scope_field_run s e.ts e.depth e.seq e.name e.vals field H1 h1 h2).cK
    have hV := fun H1 => (value_Right_run v.kind v.n v.s H1).cK
    simp only [Sl.enc] at hR hF
    simp [exprC_eq, TExpr.kind, TExpr.val, TExpr.var, TExpr.field, TExpr.rep, TExpr.kids]
    refine gK_of (fun h1 => ?_) (fun h1 => ?_)
    · simp [h1, hV]
      simp at h1
      refine gK_of (fun h2 => ?_) (fun h2 => ?_)
      · simp [h2]
        simp at h2
        simp [valueS, h1, leafS, h2, VE.enc, valC, zVal]
      · simp [h2]
        simp at h2
        simp [valueS, h1, leafS, h2, VE.enc, valC]
    · simp [h1]
      refine gK_of (fun h2 => ?_) (fun h2 => ?_)
      · simp [h2, h, hne, hne2, hr2, hA, VE.enc, valC]
        simp at h2
        simp [valueS, h2]
      · simp [h2]
        refine gK_of (fun h3 => ?_) (fun h3 => ?_)
        · simp [h3, h, hne, hne2, hr2, hS, VE.enc, valC]
          simp at h2 h3
          simp [valueS, h3]
        · simp [h3, h, hne, hne2, hr2, hR]
          simp at h1 h2 h3
          have e : valueS s (.mk k v var field rep kids) = leafS s k v var field := by simp [valueS, h2, h3]
          rw [e]
          refine gK_of (fun h4 => ?_) (fun h4 => ?_)
          · simp [h4]
            simp at h4
            simp [leafS, h1, h4, VE.enc, valC, zVal]
          · simp [h4]
            simp at h4
            refine gK_of (fun h5 => ?_) (fun h5 => ?_)
            · simp [h5]
              simp at h5
              simp [leafS, h1, h4, h5, VE.enc, valC, zVal]
            · simp [h5]
              simp at h5
              refine gK_of (fun h6 => ?_) (fun h6 => ?_)
              · simp [h6]
                simp at h6
                simp [leafS, h1, h4, h6, VE.enc, valC, zVal]
              · simp [h6]
                simp at h6
                have hno : ¬ ((rowS s var).2 = false ∨ k < 2 ∨ 6 < k) := by simp [h4]; omega
                refine gK_of (fun h7 => ?_) (fun h7 => ?_)
                · simp [h7]
                  simp at h7
                  subst h7
                  simp [leafS, h4, VE.enc, valC, emptyS]
                · simp [h7]
                  simp at h7
                  refine gK_of (fun h8 => ?_) (fun h8 => ?_)
                  · simp [h8]
                    simp at h8
                    simp only [leafS, h1, h7, if_neg hno, if_false]
                    simp [h8, VE.enc, valC, zVal]
                  · simp [h8]
                    simp at h8
                    obtain ⟨ini, lst, hL⟩ : ∃ ini lst, (rowS s var).1.l = ini ++ [lst] := by
                      rcases List.eq_nil_or_concat (rowS s var).1.l with h' | ⟨ini, lst, h'⟩
                      · exact absurd h' h8
                      · exact ⟨ini, lst, by simpa using h'⟩
                    have hlast : (rowS s var).1.l.getLast? = some lst := by simp [hL]
                    have hget : (rowS s var).1.l[ini.length]? = some lst := by simp [hL]
                    have hlen : (rowS s var).1.l.length = ini.length + 1 := by simp [hL]
                    have hok : (rowS s var).1.l.length ≤ 9223372036854775807 := (rowS s var).1.ok
                    have hw : IntKind.i64.wrap (((rowS s var).1.l.length : Int) - 1) = (ini.length : Nat) := by
                      rw [wrap64 (by omega) (by omega), hlen]; omega
                    refine gK_of (fun h9 => ?_) (fun h9 => ?_)
                    · simp [h9, hw, elem_at eventC_len _ _ _ _ _ hget, load_elem _ _ _ _ (eventC_len _)]
                      simp at h9
                      subst h9
                      have e1 : leafS s 2 v var field = fieldE s lst field := by
                        unfold leafS
                        rw [if_neg (by decide), if_neg hno, if_neg (by decide), hlast]
                        rfl
                      rw [e1]
                      simp [eventC, Sl.enc, h, hne, hne2, hr2, hF, VE.enc, valC]
                    · simp [h9]
                      simp at h9
                      have hkk : 4 ≤ k ∧ k ≤ 6 := by simp at hno; omega
                      have e1 : leafS s k v var field = foldedS s k field (rowS s var).1.l := by
                        unfold leafS
                        rw [if_neg h1, if_neg hno, if_neg h7, hlast]
                        simp [h9]
                      rw [e1]
                      have hG := fun (H1 : Heap) (h1 : H1.get r = some (.cells (scopeC s))) (h2 : r < H1.next) => (eval_scope_folded_run s (rowS s var).1 h8 (.mk k v var field rep kids) hkk H1 h1 h2).cK
                      simp only [Sl.enc, exprC_eq, TExpr.kind, TExpr.val, TExpr.var, TExpr.field, TExpr.rep, TExpr.kids] at hG
                      simp [h, hne, hne2, hr2, hG, VE.enc, valC]
theorem eval_Value_run (l : Sl TSchema) (q : TQuery) (b : Sl (Sl TEvent)) (x : TExpr) (H : Heap) : Run tab (.fn n_eval_Value) [l.enc schemaC, .agg (queryC q), b.enc rowC, .agg (exprC x)] H (valueS ⟨l, q, b⟩ x).enc H := by
  refine cK.run (cK_fn o_eval_Value t_eval_Value (Nat.le_of_ble_eq_true rfl) (by decide) ?_)
  have hV := fun (H1 : Heap) (r : Nat) (h1 : H1.get r = some (.cells (scopeC ⟨l, q, b⟩))) (h2 : r < H1.next) => (eval_scope_value_run ⟨l, q, b⟩ x H1 r h1 h2).cK
  simp only [scopeC, Sl.enc] at hV
  simp [queryC, Sl.enc, hV, VE.enc, valC]
end Go.Proofs.YthdkeggdipogoaaGreatDoor.Tz
