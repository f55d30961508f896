/-
The walk of norm.Place. Conditions: none.
-/
import Derived.Test.YthdkeggdipogoaaGreatDoorTWr
import Derived.Test.YthdkeggdipogoaaGreatDoorTSb
namespace Go.Proofs.YthdkeggdipogoaaGreatDoor.Tz
open Go.Aug Go.Aug.Api
set_option maxRecDepth 100000
theorem flat_int : ∀ l : List Int, l.flatMap intC = l.map i64D
  | [] => rfl
  | a :: l => by simp [List.flatMap_cons, intC, flat_int l]
theorem Max_run (l : List Int) (hl : l ≠ []) (hb : l.length ≤ big) (c : Option Nat) (H : Heap) {r : Nat} (h : H.get r = some (.cells (l.map i64D))) (hr : r < H.next) : Run tab (.fn n_slices_Max_int) [.rs r 0 l.length c 1] H (i64D (maxI l)) H := by
  refine cK.run (cK_fn o_slices_Max_int t_slices_Max_int (Nat.le_of_ble_eq_true rfl) (by decide) ?_)
  obtain ⟨a, l, rfl⟩ : ∃ a r, l = a :: r := by
    cases l with
    | nil => exact absurd rfl hl
    | cons a l => exact ⟨a, l, rfl⟩
  have h1 : ¬ ((l.length : Int) + 1 < 1) := by omega
  have h2 : (0 : Int) < (l.length : Int) + 1 := by omega
  simp at h
  simp [h, h1, h2]
  refine LR_rule (WR_mono _) (fun j E H' => H' = low0 H ∧ ∃ pre suf, l = pre ++ suf ∧ j = suf.length ∧ E 0 = .rs r 0 (l.length + 1) c 1 ∧ E 3 = i64D (maxI (a :: pre)) ∧ E 4 = i64D (pre.length + 1)) ?_ (j := l.length) ⟨rfl, [], l, rfl, rfl, by simp, by simp; rfl, by simp⟩
  rintro j E H' ⟨rfl, pre, suf, h0, rfl, e0, e3, e4⟩
  cases suf with
  | nil =>
    simp at h0
    subst h0
    simp [e0, e3, e4]
  | cons x suf =>
    have hlt : pre.length < l.length := by rw [h0]; simp
    have hlt' : ((pre.length : Int) + 1 < (l.length : Int) + 1) = True := by simp; omega
    have hbb : l.length + 1 ≤ 9223372036854775807 := by simpa [big] using hb
    have hw : IntKind.i64.wrap ((pre.length : Int) + 1 + 1) = (pre.length : Int) + 1 + 1 := wrap64 (by omega) (by omega)
    have hx : ((i64D a :: l.map i64D).drop (pre.length + 1))[0]? = some (i64D x) := by rw [h0]; simp
    have hi : ∀ H1 : Heap, H1.get r = some (.cells (i64D a :: l.map i64D)) → evLoad H1 none (.rf r (pre.length + 1)) = some (i64D x) := fun H1 h1 => by
      simp only [evLoad, cellsAt, h1, pickL]
      exact hx
    have hia : evIadr 1 (.rs r 0 (l.length + 1) c 1) (.v (.int .i64 ((pre.length : Int) + 1))) = some (.rf r (pre.length + 1)) := by
      rw [iadr_rs, if_pos ⟨by omega, by push_cast; omega⟩]
      have : ((pre.length : Int) + 1).toNat = pre.length + 1 := by omega
      simp [this]
    simp [e0, e3, e4, hlt', hia, hi, h, hw]
    refine ⟨suf.length, by omega, pre ++ [x], suf, by simp [h0], rfl, ?_, by simp⟩
    simp only [maxI, List.foldl_append, List.foldl_cons, List.foldl_nil]
    rfl
def IsI (l : List Int) (b : Nat) (H : Heap) (d : D) : Prop :=
  (l = [] ∧ d = .v (.slice none 0 0)) ∨ (l ≠ [] ∧ ∃ r, d = .rs r 0 l.length none 1 ∧ b ≤ r ∧ r < H.next ∧ H.get r = some (.cells (l.map i64D)))
def IsJ (l : List Int) (H : Heap) (d : D) : Prop :=
  (l = [] ∧ d = .v (.slice none 0 0)) ∨ (l ≠ [] ∧ ∃ r c, d = .rs r 0 l.length c 1 ∧ r < H.next ∧ H.get r = some (.cells (l.map i64D)))
theorem IsI.j {l : List Int} {b : Nat} {H : Heap} {d : D} (h : IsI l b H d) : IsJ l H d := by
  rcases h with h | ⟨h1, r, h2, h3, h4, h5⟩
  · exact .inl h
  · exact .inr ⟨h1, r, none, h2, h4, h5⟩
theorem IsI.mono {l : List Int} {b b' : Nat} {H H' : Heap} {d : D} (h : IsI l b H d) (hb : b' ≤ b) (hn : H.next ≤ H'.next) (hg : ∀ k, k < H.next → H'.get k = H.get k) : IsI l b' H' d := by
  rcases h with h | ⟨h1, r, h2, h3, h4, h5⟩
  · exact .inl h
  · exact .inr ⟨h1, r, h2, by omega, by omega, by rw [hg r h4]; exact h5⟩
theorem app_ints {l1 l2 : List Int} {b : Nat} {H : Heap} {d1 d2 : D} (h1 : IsI l1 b H d1) (h2 : IsJ l2 H d2) (hl : l1.length + l2.length ≤ 10000000) (hb : b ≤ H.low) (hbn : b ≤ H.next) (k : D × Heap → Prop)
    (hk : ∀ d3 H3, IsI (l1 ++ l2) b H3 d3 → H.next ≤ H3.next → b ≤ H3.low → (∀ q, q < b → H3.get q = H.get q) → k (d3, H3)) : oK (evApp H false 1 8 d1 d2) k := by
  have hroom : ∀ n, n ≤ 10000000 → roomOk 8 n = true := fun n hn => by
    unfold roomOk
    simp only [Bool.and_eq_true, decide_eq_true_eq]
    omega
  have hz : ((0 : Nat) == 0) = true := rfl
  rcases h2 with ⟨rfl, rfl⟩ | ⟨n2, r2, cc, rfl, g2, c2⟩
  · have hf : firstD H false 1 (.v (.slice none 0 0)) = some (0, []) := rfl
    rcases h1 with ⟨rfl, rfl⟩ | ⟨n1, r1, rfl, b1, g1, c1⟩
    · refine ⟨(.v (.slice none 0 0), H), by simp only [evApp, hf, hz, if_true], hk _ H (.inl ⟨rfl, rfl⟩) (Nat.le_refl _) hb fun _ _ => rfl⟩
    · refine ⟨(.rs r1 0 l1.length none 1, H), by simp only [evApp, hf, hz, if_true], hk _ H (.inr ⟨by simpa using n1, r1, by simp, b1, g1, by simpa using c1⟩) (Nat.le_refl _) hb fun _ _ => rfl⟩
  · have hf : firstD H false 1 (.rs r2 0 l2.length cc 1) = some (l2.length, l2.map i64D) := by
      have : (l2.map i64D).take l2.length = l2.map i64D := List.take_of_length_le (by simp)
      simp [firstD, c2, this]
    have hn2 : (l2.length == 0) = false := by
      rw [beq_eq_false_iff_ne]
      have := List.length_pos_iff.2 n2
      omega
    rcases h1 with ⟨rfl, rfl⟩ | ⟨n1, r1, rfl, b1, g1, c1⟩
    · refine ⟨(.rs H.next 0 l2.length none 1, H.add (.cells (l2.map i64D))), by simp only [evApp, hf, hn2, hroom l2.length (by simp at hl; omega), if_true, Bool.false_eq_true, if_false], hk _ _ (.inr ⟨by simpa using n2, H.next, by simp, hbn, by simp, by simp⟩) (by simp) (by simpa using hb) fun q hq => ?_⟩
      have : (q = H.next) = False := by simp; omega
      simp [this]
    · have hfull : (l1.length * 1 == (l1.map i64D).length) = true := by simp
      have h11 : ((1 : Nat) == 1) = true := rfl
      refine ⟨(.rs H.next 0 (l1.length + l2.length) none 1, (H.del r1).add (.cells (l1.map i64D ++ l2.map i64D))), by simp only [evApp, hf, hn2, c1, hroom (l1.length + l2.length) hl, hfull, h11, hz, if_true, Bool.and_self, Bool.false_eq_true, if_false], hk _ _ (.inr ⟨by simp [n1], H.next, by simp, hbn, by simp, by simp⟩) (by simp) ?_ fun q hq => ?_⟩
      · simp; split <;> omega
      · have e1 : (q = H.next) = False := by simp; omega
        have e2 : (q = r1) = False := by simp; omega
        simp [e1, get_del, e2]
theorem FreshI.is {l : List Int} {H H' : Heap} {d : D} (h : FreshI l H d H') : IsI l H.next H' d ∧ H.next ≤ H'.next ∧ H'.low = H.low ∧ ∀ k, k < H.next → H'.get k = H.get k := by
  rcases h with ⟨rfl, rfl, rfl⟩ | ⟨h1, r, rfl, h2, h3, h4, h5, h6⟩
  · exact ⟨.inl ⟨rfl, rfl⟩, Nat.le_refl _, rfl, fun _ _ => rfl⟩
  · exact ⟨.inr ⟨h1, r, rfl, h2, h3, by rw [h4, flat_int]⟩, by omega, h5, h6⟩
theorem places_short (q : List TItem) (v : List ByteArray) : (placesS q v).length ≤ v.length := by
  have : ∀ (v : List ByteArray) (l : List Int), (v.foldl (fun l v => addP l (placeS q v)) l).length ≤ l.length + v.length := by
    intro v
    induction v with
    | nil => intro l; simp
    | cons a v ih =>
      intro l
      have h1 := ih (addP l (placeS q a))
      have h2 : (addP l (placeS q a)).length ≤ l.length + 1 := by
        unfold addP
        split
        · split <;> simp
        · simp
      simp only [List.foldl_cons, List.length_cons]
      omega
  simpa [placesS] using this v []
theorem vars_short (q : List TItem) (xs : List TExpr) : (varsS q xs).length = (placesS q (eachVs xs)).length := (sortI_perm _).length_eq
theorem norm_Place_run (q : TQuery) (p : TPred) (H : Heap) (h1 : (eachV p.L).length ≤ 100000) (h2 : (eachV p.R).length ≤ 100000) : Run tab (.fn n_norm_Place) [.agg (queryC q), .agg (predC p)] H (i64D (placeN q.items.l p)) H := by
  refine cK.run (cK_fn o_norm_Place t_norm_Place (Nat.le_of_ble_eq_true rfl) (by decide) ?_)
  have hq5 : (queryC q).take 5 = queryC q := List.take_of_length_le (by rw [queryC_len]; exact Nat.le_refl _)
  have hp := fun (v : List ByteArray) => places_short q.items.l v
  have m1 : (placesS q.items.l (eachV p.L)).length ≤ 1000000 := Nat.le_trans (hp _) (by omega)
  have m2 : (placesS q.items.l (eachV p.R)).length ≤ 1000000 := Nat.le_trans (hp _) (by omega)
  have v1 := vars_short q.items.l [p.L]
  have v2 := vars_short q.items.l [p.R]
  simp only [eachVs, List.append_nil] at v1 v2
  have s1 : (varsS q.items.l [p.L]).length ≤ 1000000 := by omega
  have s2 : (varsS q.items.l [p.R]).length ≤ 1000000 := by omega
  simp [hq5]
  refine cK.mono (check_Vars_cold q p.L p.okL _ (by simp) m1) fun d1 H1 f1 => ?_
  obtain ⟨i1, n1, l1, g1⟩ := f1.is
  simp at i1 n1 l1 g1
  have e1 : H1.get H.next = some (.cells (queryC q)) := by rw [g1 _ (by omega)]; simp
  have e2 : H1.get (H.next + 1) = some (.cells (predC p)) := by rw [g1 _ (by omega)]; simp
  have hnx : H.next + 1 < H1.next := by omega
  simp [hq5, e1, e2, l1]
  refine cK.mono (check_Vars_cold q p.R p.okR _ (by simp; omega) m2) fun d2 H2 f2 => ?_
  obtain ⟨i2, n2, l2, g2⟩ := f2.is
  simp at i2 n2 l2 g2
  have hlen : ∀ x : List Int, x.length ≤ 1000000 → x.length ≤ 10000000 := fun x h => by omega
  refine app_ints (b := H.next) (i1.mono (by omega) n2 g2) i2.j (by omega) (by omega) (by omega) _ fun d3 H3 i3 n3 l3 g3 => ?_
  refine app_ints (b := H.next) (i3.mono (Nat.le_refl _) (by simp) fun k hk => ?_) (l2 := [0]) (.inr ⟨by simp, H3.next, some 1, by simp, by simp, by simp⟩) (by simp; omega) (by simpa using l3) (by simp; omega) _ fun d4 H4 i4 n4 l4 g4 => ?_
  · have : (k = H3.next) = False := by simp; omega
    simp [this]
  rcases i4 with ⟨h, -⟩ | ⟨h, r, rfl, b4, r4, c4⟩
  · simp at h
  · have hm := (Max_run _ h (by simp [big]; omega) none H4 c4 r4).cK
    simp only [hm]
    rw [finX_data l4 rfl]
    exact ⟨rfl, rfl⟩
end Go.Proofs.YthdkeggdipogoaaGreatDoor.Tz
