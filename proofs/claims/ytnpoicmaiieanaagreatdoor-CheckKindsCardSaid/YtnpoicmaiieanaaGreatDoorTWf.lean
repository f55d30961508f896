/-
The walks of checks: a field's kind in all schemas. Conditions: none.
-/
import Derived.Test.YtnpoicmaiieanaaGreatDoorTWe
namespace Go.Proofs.YtnpoicmaiieanaaGreatDoor.Tz
open Go.Aug Go.Aug.Api
set_option maxRecDepth 100000

theorem Max_one_run (k : Int) (H : Heap) {r : Nat} (h : H.get r = some (.cells [i64D k])) (hr : r < H.next) : Run tab (.fn n_slices_Max_int) [.rs r 0 1 none 1] H (i64D k) H := by
  refine cK.run (cK_fn o_slices_Max_int t_slices_Max_int (Nat.le_of_ble_eq_true rfl) (by decide) ?_)
  have hne : (r = H.next) = False := by simp; omega
  simp [h, hne]
  refine LR_rule (WR_mono _) (fun j E H' => H' = low0 H ∧ E 0 = .rs r 0 1 none 1 ∧ E 3 = i64D k ∧ E 4 = i64D 1) ?_ (j := 0) ⟨rfl, rfl, rfl, rfl⟩
  rintro j E H' ⟨rfl, e0, e3, e4⟩
  simp [e0, e3, e4]

theorem finX_cold {H : Heap} {d : D} {H' : Heap} {R : D → Heap → Prop} (h : d.under H.next = false) (hl : H.low ≤ H'.low) : finX false H d H' R = R d (relow H' H.low) := by
  unfold finX leaveF leave
  have hm : (if H.low < H'.low then H.low else H'.low) = H.low := by split <;> omega
  simp [h, hm, relow]

theorem Keys_cK (r : Nat) (H : Heap) (hl : H.low ≤ H.next) (R : D → Heap → Prop) : cK tab (.fn n_maps_Keys_int) [.mp r] H R = R (.fn (.func n_maps_Keys_int_1) [] [.rf H.next 0]) (H.add (.cells [.mp r])) := by
  have h : Run tab (.fn n_maps_Keys_int) [.mp r] H (.fn (.func n_maps_Keys_int_1) [] [.rf H.next 0]) (H.add (.cells [.mp r])) := by
    refine cK.run (cK_fn o_maps_Keys_int t_maps_Keys_int (Nat.le_of_ble_eq_true rfl) (by decide) ?_)
    have hz : tab.fz n_maps_Keys_int = false := by kernel_rfl
    have h1 : ∀ R, finX false H (.fn (.func n_maps_Keys_int_1) [] [.rf H.next 0]) ((low0 H).add (.cells [.mp r])) R = R (.fn (.func n_maps_Keys_int_1) [] [.rf H.next 0]) (H.add (.cells [.mp r])) := fun R => by
      rw [finX_cold (by simp [D.under, D.under.underAll]) (by simpa using hl)]
      rfl
    simp [hz, h1]
  exact h.cK R

def fieldKm (m : List (Int × Int)) : Int := match m with
  | [p] => p.1
  | _ => 0

theorem addK_length (l : List Int) (k : Int) : l.length ≤ (addK l k).length := by unfold addK; split <;> simp
theorem addKs_length : ∀ (r l : List Int), l.length ≤ (r.foldl addK l).length
  | [], l => Nat.le_refl _
  | k :: r, l => Nat.le_trans (addK_length l k) (addKs_length r (addK l k))
theorem addKs_one (k : Int) : ∀ r : List Int, (r.all (fun x => decide (x = k)) = true → r.foldl addK [k] = [k]) ∧ (r.all (fun x => decide (x = k)) = false → 2 ≤ (r.foldl addK [k]).length)
  | [] => by simp
  | x :: r => by
    have ih := addKs_one k r
    by_cases h : x = k
    · subst h
      simpa [addK] using ih
    · have e : addK [k] x = [k, x] := by simp [addK, h]
      have := addKs_length r [k, x]
      simp only [List.foldl_cons, e]
      simp [h]
      simpa using this

theorem kindF_ok (l : List TSchema) (f name : ByteArray) : i64ok (kindF l f name) := by
  unfold kindF fieldS
  simp only
  split
  · rename_i x _
    exact x.okK
  · exact ⟨by decide, by decide⟩

theorem fieldKm_eq (l : List TSchema) (f : ByteArray) (names : List ByteArray) (m : List (Int × Int)) (h : m.map (·.1) = (names.map (kindF l f)).foldl addK []) : fieldK l names f = fieldKm m ∧ ∀ p, m = [p] → i64ok p.1 := by
  cases names with
  | nil =>
    simp at h
    subst h
    exact ⟨rfl, fun p h => by cases h⟩
  | cons n r =>
    have e : addK [] (kindF l f n) = [kindF l f n] := by simp [addK]
    simp only [List.map_cons, List.foldl_cons, e] at h
    have h1 := addKs_one (kindF l f n) (r.map (kindF l f))
    have ha : (r.map (kindF l f)).all (fun x => decide (x = kindF l f n)) = r.all fun m => decide (kindF l f m = kindF l f n) := by rw [List.all_map]; rfl
    rw [ha] at h1
    unfold fieldK
    cases hb : r.all fun m => decide (kindF l f m = kindF l f n) with
    | true =>
      rw [h1.1 hb] at h
      obtain ⟨p, rfl⟩ : ∃ p, m = [p] := by
        have := congrArg List.length h
        simp at this
        exact List.length_eq_one_iff.1 this
      simp at h
      refine ⟨by simp [hb, fieldKm, h], fun p' hp => ?_⟩
      simp at hp
      subst hp
      rw [h]
      exact kindF_ok ..
    | false =>
      have h2 := h1.2 hb
      rw [← h] at h2
      simp at h2
      match m, h2 with
      | _ :: _ :: _, _ => exact ⟨by simp [hb, fieldKm], fun p hp => by simp at hp⟩

theorem check_field_run (l : Sl TSchema) (names : Sl ByteArray) (f : ByteArray) (H : Heap) : Run tab (.fn n_check_field) [l.enc schemaC, names.enc strC, strD f] H (i64D (fieldK l.l names.l f)) H := by
  refine cK.run (cK_fn o_check_field t_check_field (Nat.le_of_ble_eq_true rfl) (by decide) ?_)
  have c1 := fun l name H => (event_Find_run l name H).cK
  have c2 := fun s l name H => (event_Field_run s l name H).cK
  simp only [Sl.enc] at c1 c2
  simp [Sl.enc]
  refine LR_rule (WR_mono _) (fun j E H' => ∃ pre suf m, names.l = pre ++ suf ∧ j = suf.length ∧ E 0 = l.enc schemaC ∧ E 2 = strD f ∧ E 7 = .mp H.next ∧ E 15 = names.enc strC ∧ E 16 = i64D names.l.length ∧ E 17 = i64D pre.length ∧ H'.get H.next = some (.map (encM m)) ∧ H'.low = H.next ∧ H.next < H'.next ∧ m.map (·.1) = (pre.map (kindF l.l f)).foldl addK []) ?_ (j := names.l.length) ⟨[], names.l, [], by simp [Sl.enc, encM]⟩
  rintro j E H' ⟨pre, suf, m, h0, rfl, e0, e2, e7, e15, e16, e17, hg, hlow, hnx, hm⟩
  cases suf with
  | nil =>
    have hp : pre = names.l := by simpa using h0.symm
    subst hp
    have hlen : evMlen H' (.mp H.next) = some (i64D m.length) := by simp [evMlen, mapAt, hg, encM]
    obtain ⟨hk, hok⟩ := fieldKm_eq l.l f _ m hm
    have hcol := Keys_cK H.next H' (by omega)
    simp [e7, e17, e16, hlen]
    refine gK_of (fun h1 => ?_) (fun h1 => ?_)
    · have hk0 : fieldKm m = 0 := by
        match m, h1 with
        | [], _ => rfl
        | [_], h => simp at h
        | _ :: _ :: _, _ => rfl
      simp [hk, hk0, hlow]
    · obtain ⟨p, rfl⟩ : ∃ p, m = [p] := by simp at h1; exact List.length_eq_one_iff.1 (by omega)
      have hne1 : (H'.next = H.next) = False := by simp; omega
      have hne2 : (H.next = H'.next) = False := by simp; omega
      have hc : ∀ R, cK tab (.fn n_slices_Collect_int) [.fn (.func n_maps_Keys_int_1) [] [.rf H'.next 0]] (H'.add (.cells [.mp H.next])) R = R (.rs (H'.next + 1) 0 1 none 1) ((H'.add (.cells [.mp H.next])).add (.cells [i64D p.1])) := fun R => by
        have hki := keysI_encM [p] (fun q hq => by simp at hq; subst hq; exact hok _ rfl)
        refine (cK.run (cK_orc o_slices_Collect_int ?_)).cK R
        refine ⟨(.rs (H'.next + 1) 0 1 none 1, (H'.add (.cells [.mp H.next])).add (.cells [i64D p.1])), ?_, rfl, rfl⟩
        simp [orcSorted, hne2, hg, hki, apartI, freshI, sortI, insI]
      have hx := (Max_one_run p.1 ((H'.add (.cells [.mp H.next])).add (.cells [i64D p.1])) (r := H'.next + 1) (by simp) (by simp)).cK
      simp [e7, hcol, hc, hx, hk, fieldKm, hlow]
  | cons x suf =>
    have hlt : pre.length < names.l.length := by simp [h0]
    have hne1 : (H'.next = H.next) = False := by simp; omega
    have hne2 : (H.next = H'.next) = False := by simp; omega
    have hnl : H'.low ≤ H'.next := by omega
    have hlook : ∀ H1 k, H1.get H.next = some (.map (encM m)) → evMlook H1 .int (.v (.int .i64 0)) false (.mp H.next) (.v (.int .i64 k)) = some (i64D (countM m k)) := fun H1 k h => look_encM h k
    have hput : ∀ H1 k x, H1.get H.next = some (.map (encM m)) → evMput H1 .int (.mp H.next) (.v (.int .i64 k)) (.v (.int .i64 x)) = some (H1.set H.next (.map (encM (putM m k x)))) := fun H1 k x h => put_encM h k x
    simp [e0, e2, e7, e15, e16, e17, h0, Sl.enc, zip_at strC_len]
    simp [strC, e0, e2, e7, e15, e16, e17, h0, Sl.enc, c1, findD, schemaC, setAll_full, hne1, hne2, hnl, c2, fieldD, hlook, hput, hg, wrap_len hlt names.ok]
    refine ⟨suf.length, by omega, pre ++ [x], suf, by simp, rfl, by simp, putM m _ _, by simp [get_set, hg]; rfl, fun _ => hlow, by omega, ?_⟩
    rw [keys_putM, hm]
    simp [kindF]
end Go.Proofs.YtnpoicmaiieanaaGreatDoor.Tz
