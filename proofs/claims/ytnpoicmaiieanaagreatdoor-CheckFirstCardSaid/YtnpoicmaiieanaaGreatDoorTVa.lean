/-
The walk of CheckFirst. Conditions: none.
-/
import Derived.Test.YtnpoicmaiieanaaGreatDoorTV7
import Derived.Test.YtnpoicmaiieanaaGreatDoorGT
import Derived.Test.YtnpoicmaiieanaaGreatDoorGU
import Derived.Test.YtnpoicmaiieanaaGreatDoorGS
namespace Go.Proofs.YtnpoicmaiieanaaGreatDoor.Tz
open Go.Aug Go.Aug.Api
set_option maxRecDepth 100000

/-- An item's cells, its names in a block. -/
def cellI (p : TItem × Nat) : List D := [bD p.1.not, .rs p.2 0 1 (some 1) 1, strD p.1.var, i64D p.1.mode]
theorem cellI_len (p : TItem × Nat) : (cellI p).length = 4 := rfl

/-- The law's own items, that many so far. -/
def OwnI (H : Heap) (b : Nat) (s : ByteArray) (pre : List TItem) (I : D) : Prop :=
  (pre = [] ∧ I = .v (.slice none 0 0)) ∨ (pre ≠ [] ∧ ∃ (r : Nat) (ps : List (TItem × Nat)), I = .rs r 0 pre.length none 4 ∧ b ≤ r ∧ r < H.next ∧ H.get r = some (.cells (ps.flatMap cellI)) ∧ ps.map (·.1) = pre ∧ ∀ p ∈ ps, b ≤ p.2 ∧ p.2 ≠ r ∧ p.2 < H.next ∧ H.get p.2 = some (.cells [strD s]))

theorem frzL_app (f : D → Option D) : ∀ (a b x y : List D), frzL f a = some x → frzL f b = some y → frzL f (a ++ b) = some (x ++ y)
  | [], b, x, y, h1, h2 => by
    cases h1
    exact h2
  | d :: a, b, x, y, h1, h2 => by
    simp only [frzL] at h1
    cases hd : f d with
    | none => rw [hd] at h1; cases h1
    | some d' =>
      rw [hd] at h1
      cases ha : frzL f a with
      | none => rw [ha] at h1; cases h1
      | some a' =>
        rw [ha] at h1
        cases h1
        exact frzL_two f d (a ++ b) d' (a' ++ y) hd (frzL_app f a b a' y ha h2)

theorem frz_items (s : ByteArray) (hs : s.size ≤ big) (H : Heap) (n : Nat) : ∀ ps : List (TItem × Nat), (∀ p ∈ ps, H.get p.2 = some (.cells [strD s])) → frzL (frz2 H 0 (n + 2)) (ps.flatMap cellI) = some ((ps.map fun p => ren s hs p.1).flatMap itemC)
  | [], _ => rfl
  | p :: ps, h => by
    rw [List.flatMap_cons, List.map_cons, List.flatMap_cons]
    refine frzL_app _ _ _ _ _ ?_ (frz_items s hs H n ps fun p hp => h p (List.mem_cons_of_mem _ hp))
    have h1 := frz2_row H n p.2 1 (some 1) 1 [strD s] (h p (List.mem_cons_self ..)) rfl rfl
    exact frzL_two _ _ _ _ _ (frz2_under _ _ _ _ rfl) (frzL_two _ _ _ _ _ h1 (frzL_two _ _ _ _ _ (frz2_under _ _ _ _ rfl) (frzL_two _ _ _ _ _ (frz2_under _ _ _ _ rfl) (frzL_none _))))

/-- The law's own query, as it is handed on. -/
theorem frz_query {H : Heap} {b0 : Nat} {s : ByteArray} (hs : s.size ≤ big) {q : TQuery} {I : D} (hI : OwnI H b0 s q.items.l I) (h0 : q.items.l ≠ []) (b : ByteArray) (hb : b.size ≤ big) :
    D.under 0 I = false ∧ frz2 H 0 64 (.agg [I, .v (.slice none 0 0), i64D q.within, strD b, i64D q.pick]) = some (.agg (queryC (qF q s hs b hb))) := by
  rcases hI with ⟨h1, -⟩ | ⟨-, r, ps, rfl, hr1, hr2, hg, hm, hp⟩
  · exact absurd h1 h0
  · refine ⟨rfl, ?_⟩
    have hlen : q.items.l.length = ps.length := by rw [← hm]; simp
    have hfl : (ps.flatMap cellI).length = q.items.l.length * 4 := by rw [flatMap_length cellI_len, hlen]
    have hi := frz_items s hs H 60 ps fun p hp' => (hp p hp').2.2.2
    have hrs : frz2 H 0 63 (.rs r 0 q.items.l.length none 4) = some (slD (some none) q.items.l.length ((q.items.l.map (ren s hs)).flatMap itemC)) := by
      rw [frz2_rs H 62 r 0 _ none 4 _ hg, if_pos (by omega), List.drop_zero, List.take_of_length_le (by omega), hi]
      rw [show (ps.map fun p => ren s hs p.1) = q.items.l.map (ren s hs) by rw [← hm, List.map_map]; rfl]
      rfl
    rw [frz2_agg H 63 _ (by simp only [under_cons]; rfl)]
    rw [frzL_two _ _ _ _ _ hrs (frzL_two _ _ _ _ _ (frz2_under _ _ _ _ rfl) (frzL_two _ _ _ _ _ (frz2_under _ _ _ _ rfl) (frzL_two _ _ _ _ _ (frz2_under _ _ _ _ rfl) (frzL_two _ _ _ _ _ (frz2_under _ _ _ _ rfl) (frzL_none _)))))]
    simp only [Option.map_some, queryC, qF, Sl.enc, List.length_map]
    rfl

/-- One schema, in the law's own memory. -/
def sOne (s : TSchema) : Sl TSchema := ⟨some (some 1), [s], by simp [big]⟩
theorem frz_sOne {H : Heap} {r : Nat} {s : TSchema} (hg : H.get r = some (.cells (schemaC s))) : frz2 H 0 64 (.rs r 0 1 (some 1) 2) = some ((sOne s).enc schemaC) := by
  have h1 := frz2_row H 62 r 1 (some 1) 2 (schemaC s) hg rfl (by simp)
  rw [h1]
  simp [sOne, Sl.enc, slD]

theorem great_sOne {s : TSchema} {g : Bool} (hg : Run tab (.fn n_augurylaw05_GreatSchemas) [(sOne s).enc schemaC] H0 (bD g) H0) {H : Heap} {r : Nat} (hr : H.get r = some (.cells (schemaC s))) (k : D → Heap → Prop) :
    cK tabL (.fn n_augurylaw05_GreatSchemas) [.rs r 0 1 (some 1) 2] H k = k (bD g) H :=
  (cK.run (cK_frozen oL_GreatSchemas (by simp only [under_cons]; rfl) (frzL_two _ _ _ _ _ (frz_sOne hr) (frzL_none _)) hg rfl ⟨rfl, rfl⟩)).cK k

theorem right_own {H : Heap} {b0 : Nat} {s : ByteArray} (hs : s.size ≤ big) {q : TQuery} {I : D} (hI : OwnI H b0 s q.items.l I) (h0 : q.items.l ≠ []) (b : ByteArray) (hb : b.size ≤ big) (k : D → Heap → Prop) :
    cK tabL (.fn n_auguryref08_Right) [.agg [I, .v (.slice none 0 0), i64D q.within, strD b, i64D q.pick]] H k = k (bD (rightQ (qF q s hs b hb))) H := by
  obtain ⟨hu, hf⟩ := frz_query hs hI h0 b hb
  exact (cK.run (cK_frozen oL_Right (by simp only [under_cons, under_agg, hu]; rfl) (frzL_two _ _ _ _ _ hf (frzL_none _)) (ref08_Right_run (qF q s hs b hb) H0) rfl ⟨rfl, rfl⟩)).cK k

theorem check_own1 {H : Heap} {b0 r : Nat} {s : TSchema} (hr : H.get r = some (.cells (schemaC s))) (hs : s.name.size ≤ big) {q : TQuery} {I : D} (hI : OwnI H b0 s.name q.items.l I) (h0 : q.items.l ≠ []) (b : ByteArray) (hb : b.size ≤ big) (k : D → Heap → Prop) :
    cK tabL (.fn n_check_Check) [.rs r 0 1 (some 1) 2, .agg [I, .v (.slice none 0 0), i64D q.within, strD b, i64D q.pick]] H k = k (pairD (checkR [s] (qF q s.name hs b hb))) H := by
  obtain ⟨hu, hf⟩ := frz_query hs hI h0 b hb
  exact (cK.run (cK_frozen oL_Check (by simp only [under_cons, under_agg, hu]; rfl) (frzL_two _ _ _ _ _ (frz_sOne hr) (frzL_two _ _ _ _ _ hf (frzL_none _))) (check_Check_run (sOne s) (qF q s.name hs b hb) H0) rfl ⟨rfl, rfl⟩)).cK k

theorem check_own0 {H : Heap} {b0 : Nat} {s : ByteArray} (hs : s.size ≤ big) {q : TQuery} {I : D} (hI : OwnI H b0 s q.items.l I) (h0 : q.items.l ≠ []) (b : ByteArray) (hb : b.size ≤ big) (k : D → Heap → Prop) :
    cK tabL (.fn n_check_Check) [.v (.slice none 0 0), .agg [I, .v (.slice none 0 0), i64D q.within, strD b, i64D q.pick]] H k = k (pairD (checkR [] (qF q s hs b hb))) H := by
  obtain ⟨hu, hf⟩ := frz_query hs hI h0 b hb
  exact (cK.run (cK_frozen oL_Check (by simp only [under_cons, under_agg, hu]; rfl) (frzL_two _ _ _ _ _ (frz2_under _ _ _ _ rfl) (frzL_two _ _ _ _ _ hf (frzL_none _))) (check_Check_run .nil (qF q s hs b hb) H0) rfl ⟨rfl, rfl⟩)).cK k

theorem own_set {H : Heap} {b : Nat} {s : ByteArray} {pre : List TItem} {I : D} (h : OwnI H b s pre I) {x : Nat} (hx : x < b) (o : O) : OwnI (H.set x o) b s pre I := by
  rcases h with h | ⟨h0, r, ps, h1, h2, h3, h4, h5, h6⟩
  · exact .inl h
  · have e : ∀ k, b ≤ k → (k = x) = False := fun k hk => by simp; omega
    exact .inr ⟨h0, r, ps, h1, h2, h3, by rw [get_set]; simp only [e r h2, false_and, if_false]; exact h4, h5, fun p hp => by
      obtain ⟨a1, a2, a3, a4⟩ := h6 p hp
      exact ⟨a1, a2, a3, by rw [get_set]; simp only [e _ a1, false_and, if_false]; exact a4⟩⟩

theorem own_next {Hn H2 : Heap} {b : Nat} {s : ByteArray} {pre : List TItem} {I : D} (h : OwnI Hn b s pre I) (hx : ∀ k, k < Hn.next → b ≤ k → H2.get k = Hn.get k) (x : TItem) (r1 r2 : Nat) (h1 : Hn.next ≤ r1) (h1' : r1 < H2.next) (hb : b ≤ Hn.next)
    (g1 : H2.get r1 = some (.cells [strD s])) (g2 : H2.get r2 = some (.cells (cellI (x, r1)))) (hl : pre.length ≤ 6) (hlow : H2.low ≤ b) :
    ∃ H3, evApp H2 false 4 56 I (.rs r2 0 1 (some 1) 4) = some (.rs H2.next 0 (pre.length + 1) none 4, H3) ∧ OwnI H3 b s (pre ++ [x]) (.rs H2.next 0 (pre.length + 1) none 4) ∧ H3.next = H2.next + 1 ∧ (∀ k, k < b → H3.get k = H2.get k) ∧ H3.low = H2.low := by
  have hf : firstD H2 false 4 (.rs r2 0 1 (some 1) 4) = some (1, cellI (x, r1)) := by simp [firstD, g2, cellI]
  have hroom : ∀ k, k ≤ 7 → roomOk 56 k = true := fun k hk => by simp [roomOk]; omega
  rcases h with ⟨rfl, rfl⟩ | ⟨h0, r, ps, rfl, h2, h3, h4, h5, h6⟩
  · refine ⟨H2.add (.cells (cellI (x, r1))), ?_, .inr ⟨by simp, H2.next, [(x, r1)], by simp, by omega, by simp, by simp, rfl, fun p hp => ?_⟩, rfl, fun k hk => ?_, rfl⟩
    · unfold evApp
      rw [hf]
      simp [hroom 1 (by omega)]
    · simp at hp
      subst hp
      have : (r1 = H2.next) = False := by simp; omega
      exact ⟨by omega, by simp; omega, by simp; omega, by simp [this, g1]⟩
    · have : (k = H2.next) = False := by simp; omega
      simp [this]
  · have hlen : (ps.flatMap cellI).length = pre.length * 4 := by rw [flatMap_length cellI_len, ← h5]; simp
    have hg := hx r h3 h2
    have hn : r < H2.next := by omega
    refine ⟨(H2.del r).add (.cells (ps.flatMap cellI ++ cellI (x, r1))), ?_, .inr ⟨by simp, H2.next, ps ++ [(x, r1)], by simp, by omega, by simp, ?_, by simp [h5], fun p hp => ?_⟩, rfl, fun k hk => ?_, ?_⟩
    · unfold evApp
      rw [hf]
      simp [hg, h4, hlen, hroom (pre.length + 1) (by omega)]
    · simp [next_del]
    · rcases List.mem_append.1 hp with hp | hp
      · obtain ⟨a1, a2, a3, a4⟩ := h6 p hp
        have e1 : (p.2 = H2.next) = False := by simp; omega
        refine ⟨a1, by omega, by simp [next_del]; omega, ?_⟩
        simp [next_del, e1, get_del, a2]
        rw [hx p.2 a3 a1, a4]
      · simp at hp
        subst hp
        have e1 : (r1 = H2.next) = False := by simp; omega
        have e2 : ¬ r1 = r := by omega
        refine ⟨by show b ≤ r1; omega, by show r1 ≠ _; omega, by simp [next_del]; omega, ?_⟩
        simp [next_del, e1, get_del, e2, g1]
    · have e1 : (k = H2.next) = False := by simp; omega
      have e2 : ¬ k = r := by omega
      simp [next_del, e1, get_del, e2]
    · simp [low_del]
      omega

theorem setAll_query (z : List D) (q : TQuery) (h : z.length = 5) : setAll z 0 (queryC q) = queryC q := setAll_full z _ (by rw [h]; rfl)

theorem first_items (s : TSchema) (q : TQuery) (hq6 : q.items.l.length ≤ 6) (H : Heap) (Q : PostX) (E0 : Fr) (H1 : Heap)
    (h1 : ∀ E H' I, E 2 = E0 2 → E 3 = .rf H.next 0 → E 7 = E0 7 → E 8 = .rf (H.next + 3) 0 → H'.get H.next = some (.cells (schemaC s)) → H'.get (H.next + 3) = some (.cells [I, .v (.slice none 0 0), i64D q.within, strD ⟨#[]⟩, i64D q.pick]) → OwnI H' (H.next + 4) s.name q.items.l I → H'.low = H.next → H.next + 4 ≤ H'.next → Q (.exit 0) E H')
    (e3 : E0 3 = .rf H.next 0) (e4 : E0 4 = .rf (H.next + 1) 0) (e8 : E0 8 = .rf (H.next + 3) 0) (e9 : E0 9 = i64D 0)
    (g0 : H1.get H.next = some (.cells (schemaC s))) (g1 : H1.get (H.next + 1) = some (.cells (queryC q))) (g2 : H1.get (H.next + 3) = some (.cells [.v (.slice none 0 0), .v (.slice none 0 0), i64D q.within, strD ⟨#[]⟩, i64D q.pick])) (g3 : H1.low = H.next) (g4 : H.next + 4 ≤ H1.next) :
    LR (WR 164 tabL none F_augurylaw09_CheckFirst.l14) E0 H1 Q := by
  refine LR_rule (WR_mono _) (fun j E H' => ∃ pre suf I, q.items.l = pre ++ suf ∧ j = suf.length ∧ E 2 = E0 2 ∧ E 3 = .rf H.next 0 ∧ E 4 = .rf (H.next + 1) 0 ∧ E 7 = E0 7 ∧ E 8 = .rf (H.next + 3) 0 ∧ E 9 = i64D pre.length ∧
    H'.get H.next = some (.cells (schemaC s)) ∧ H'.get (H.next + 1) = some (.cells (queryC q)) ∧ H'.get (H.next + 3) = some (.cells [I, .v (.slice none 0 0), i64D q.within, strD ⟨#[]⟩, i64D q.pick]) ∧ OwnI H' (H.next + 4) s.name pre I ∧ H'.low = H.next ∧ H.next + 4 ≤ H'.next) ?_ (j := q.items.l.length)
    ⟨[], q.items.l, _, by simp, rfl, rfl, e3, e4, rfl, e8, e9, g0, g1, g2, .inl ⟨rfl, rfl⟩, g3, g4⟩
  rintro j E H' ⟨pre, suf, I, hl, rfl, e2, e3, e4, e7, e8, e9, hs, hg, hp, ho, hlow, hnx⟩
  have hok := q.items.ok
  have hg' := hg
  simp only [queryC, Sl.enc] at hg'
  cases suf with
  | nil =>
    simp at hl
    have hlt' : ((pre.length : Int) < (q.items.l.length : Int)) = False := by simp [hl]
    simp [e4, e9, hg', hlt']
    exact h1 _ _ I (by simp [e2]) (by simp [e3]) (by simp [e7]) (by simp [e8]) hs hp (hl ▸ ho) hlow hnx
  | cons x suf =>
    have hlt : pre.length < q.items.l.length := by simp [hl]
    have hlt' : ((pre.length : Int) < (q.items.l.length : Int)) = True := by simp; omega
    have hw := wrap_more hlt hok
    have ea := elem_at itemC_len q.items.rep q.items.l .i64 pre.length x (by rw [hl]; simp)
    have n0 : ∀ a k, a < 4 → (H.next + a = H'.next + k) = False := fun a k ha => by simp; omega
    have n1 : ∀ k, (H.next = H'.next + k) = False := fun k => by simp; omega
    have n2 : (H.next = H'.next) = False := by simp; omega
    have n3 : ∀ a, a < 4 → (H.next + a = H'.next) = False := fun a ha => by simp; omega
    have n4 : ∀ a, a < 4 → (H'.next = H.next + a) = False := fun a ha => by simp; omega
    have hq1 : (H'.next < H.next) = False := by simp; omega
    have hle : H'.low ≤ H'.next := by omega
    have hle1 : H'.low ≤ H'.next + 1 := by omega
    let H2 := ((H'.add (.cells (cellI (x, H'.next + 1)))).add (.cells [strD s.name])).add (.cells (cellI (x, H'.next + 1)))
    obtain ⟨H3, ha, ho3, hn3, hk3, hl3⟩ := own_next (H2 := H2) ho (fun k hk _ => by
      have e1 : (k = H'.next) = False := by simp; omega
      have e2 : ∀ j, (k = H'.next + j) = False := fun j => by simp; omega
      simp [H2, e1, e2]) x (H'.next + 1) (H'.next + 2) (by omega) (by simp [H2]) (by omega) (by simp [H2]) (by simp [H2]) (by omega) (by simp [H2]; omega)
    have hk0 : H3.get (H.next + 3) = some (.cells [I, .v (.slice none 0 0), i64D q.within, strD ⟨#[]⟩, i64D q.pick]) := by rw [hk3 _ (by omega)]; simp [H2, n0, n1, n2, n3, hp]
    have hk1 : H3.get (H.next + 1) = some (.cells (queryC q)) := by rw [hk3 _ (by omega)]; simp [H2, n0, n1, n2, n3, hg]
    have hk2 : H3.get H.next = some (.cells (schemaC s)) := by rw [hk3 _ (by omega)]; simp [H2, n0, n1, n2, n3, hs]
    have hs0 : (schemaC s)[0]? = some (strD s.name) := rfl
    simp only [H2, cellI] at ha
    simp [Sl.enc, e3, e4, e8, e9, hg', hlt', ea, load_elem _ _ _ _ (itemC_len x), setAll_item, hle, hle1, hs, hp, n0, n1, n2, n3, n4, hs0]
    simp [itemC]
    simp [ha, hk0, hk1, hk2, get_set, hw, hn3, hl3, hlow]
    have hl2 : H2.low = H.next := hlow
    have hn2 : H2.next = H'.next + 3 := rfl
    exact ⟨suf.length, by omega, pre ++ [x], suf, by simp [hl], rfl, e2, e7, by simp, own_set ho3 (by omega) _, by rw [hl2, if_neg (by omega)], by omega⟩

theorem own_add {H : Heap} {b : Nat} {s : ByteArray} {pre : List TItem} {I : D} (h : OwnI H b s pre I) (o : O) : OwnI (H.add o) b s pre I := by
  rcases h with h | ⟨h0, r, ps, h1, h2, h3, h4, h5, h6⟩
  · exact .inl h
  · have e : ∀ k, k < H.next → (k = H.next) = False := fun k hk => by simp; omega
    exact .inr ⟨h0, r, ps, h1, h2, by simp; omega, by rw [get_add]; simp only [e r h3, if_false]; exact h4, h5, fun p hp => by
      obtain ⟨a1, a2, a3, a4⟩ := h6 p hp
      exact ⟨a1, a2, by simp; omega, by rw [get_add]; simp only [e _ a3, if_false]; exact a4⟩⟩

theorem first_fields (s : TSchema) (b : ByteArray) (r : Nat) (H : Heap) (hs : H.get r = some (.cells (schemaC s))) (Q : PostX) (E0 : Fr)
    (h1 : ∀ E, E 3 = E0 3 → E 7 = E0 7 → E 8 = E0 8 → E 11 = E0 11 → E 13 = E0 13 → E 14 = E0 14 → E 15 = bD (there s b) → Q (.exit 2) E H) (e2 : E0 2 = strD b) (e3 : E0 3 = .rf r 0) (e15 : E0 15 = bD false) (e16 : E0 16 = i64D 0) :
    LR (WR 164 tabL none F_augurylaw09_CheckFirst.l27) E0 H Q := by
  refine LR_rule (WR_mono _) (fun j E H' => H' = H ∧ ∃ pre suf, s.fields.l = pre ++ suf ∧ j = suf.length ∧ E 2 = strD b ∧ E 3 = .rf r 0 ∧ E 7 = E0 7 ∧ E 8 = E0 8 ∧ E 11 = E0 11 ∧ E 13 = E0 13 ∧ E 14 = E0 14 ∧ E 15 = bD (pre.any fun f => decide (f.name = b) && !decide (f.kind = 0)) ∧ E 16 = i64D pre.length) ?_ (j := s.fields.l.length)
    ⟨rfl, [], s.fields.l, by simp, rfl, e2, e3, rfl, rfl, rfl, rfl, rfl, e15, e16⟩
  rintro j E H' ⟨rfl, pre, suf, hl, rfl, e2, e3', e7, e8, e11, e13, e14, e15, e16⟩
  have hok := s.fields.ok
  have hs' := hs
  simp only [schemaC, Sl.enc] at hs'
  cases suf with
  | nil =>
    simp at hl
    have hlt' : ((pre.length : Int) < (s.fields.l.length : Int)) = False := by simp [hl]
    simp [e3', e16, hs', hlt']
    exact h1 _ (by simp [e3', e3]) (by simp [e7]) (by simp [e8]) (by simp [e11]) (by simp [e13]) (by simp [e14]) (by simp [-List.any_eq_true, e15, there, hl])
  | cons f suf =>
    have hlt : pre.length < s.fields.l.length := by simp [hl]
    have hlt' : ((pre.length : Int) < (s.fields.l.length : Int)) = True := by simp; omega
    have hw := wrap_more hlt hok
    have ea := elem_at fieldC_len s.fields.rep s.fields.l .i64 pre.length f (by rw [hl]; simp)
    simp only [fieldC] at ea
    simp at ea
    have ha : ((pre ++ [f]).any fun f => decide (f.name = b) && !decide (f.kind = 0)) = ((pre.any fun f => decide (f.name = b) && !decide (f.kind = 0)) || (decide (f.name = b) && !decide (f.kind = 0))) := by rw [List.any_append]; simp only [List.any_cons, List.any_nil, Bool.or_false]
    cases hA : (pre.any fun f => decide (f.name = b) && !decide (f.kind = 0)) with
    | true =>
      rw [hA] at e15 ha
      simp [-List.any_eq_true, -List.any_eq_false, e2, e3', e7, e8, e11, e13, e14, e15, e16, hs', hlt', hw]
      exact ⟨suf.length, by omega, pre ++ [f], suf, by simp [hl], rfl, by rw [ha]; simp, by simp⟩
    | false =>
      rw [hA] at e15 ha
      by_cases k1 : f.name = b
      · by_cases k2 : f.kind = 0
        · simp [-List.any_eq_true, -List.any_eq_false, e2, e3', e7, e8, e11, e13, e14, e15, e16, hs', hlt', hw, ea, k1, k2]
          exact ⟨suf.length, by omega, pre ++ [f], suf, by simp [hl], rfl, by rw [ha]; simp [k1, k2], by simp⟩
        · simp [-List.any_eq_true, -List.any_eq_false, e2, e3', e7, e8, e11, e13, e14, e15, e16, hs', hlt', hw, ea, k1, k2]
          exact ⟨suf.length, by omega, pre ++ [f], suf, by simp [hl], rfl, by rw [ha]; simp [k1, k2], by simp⟩
      · simp [-List.any_eq_true, -List.any_eq_false, e2, e3', e7, e8, e11, e13, e14, e15, e16, hs', hlt', hw, ea, k1]
        exact ⟨suf.length, by omega, pre ++ [f], suf, by simp [hl], rfl, by rw [ha]; simp [k1], by simp⟩

theorem oL_CheckFirst : tabL.orc n_augurylaw09_CheckFirst = none := by kernel_rfl

set_option maxHeartbeats 4000000 in
theorem first_walk (s : TSchema) (hs : s.name.size ≤ big) (q : TQuery) (b : ByteArray) (H : Heap) :
    cK tabL (.fn n_augurylaw09_CheckFirst) [.agg (schemaC s), .agg (queryC q), strD b] H fun d H' => d = bD true ∧ H' = H := by
  refine cK_fn oL_CheckFirst (tL t_augurylaw09_CheckFirst) (Nat.le_of_ble_eq_true rfl) (by decide) ?_
  obtain ⟨g1, hg1⟩ := (GreatSchemas_run (sOne s) H0).run
  obtain ⟨g2, hg2⟩ := (Great_run q H0).run
  have c1 := @great_sOne s g1 hg1
  have c2 := fun H => (runL oL_Great (by simp) hg2 H).cK
  have c3 := fun H => (runL oL_Right (by simp) (ref08_Right_run q H0) H).cK
  have hq5 : ∀ q : TQuery, (queryC q).take 5 = queryC q := fun q => List.take_of_length_le (by rw [queryC_len]; exact Nat.le_refl _)
  have hs2 : ∀ s : TSchema, (schemaC s).take 2 = schemaC s := fun q => List.take_of_length_le (Nat.le_refl _)
  have set2 : ∀ s : TSchema, setAll [.v (.string ⟨#[]⟩), .v (.slice none 0 0)] 0 (schemaC s) = schemaC s := fun s => rfl
  cases g1 with
  | true => simp [(head_run _).cK, hs2, set2, c1]
  | false =>
  cases g2 with
  | true => simp [(head_run _).cK, hs2, set2, c1, c2, hq5]
  | false =>
  cases hr : rightQ q with
  | false => simp [(head_run _).cK, hs2, set2, c1, c2, c3, hq5, hr]
  | true =>
  by_cases hb : 1000 < b.size
  · have hb' : (1000 : Int) < b.size := by omega
    simp [(head_run _).cK, hs2, set2, c1, c2, c3, hq5, hr, hb']
  have hb' : ¬ (1000 : Int) < b.size := by omega
  have hbb : b.size ≤ big := Nat.le_trans (by omega) (by decide : 1000 ≤ big)
  have h16 := rightQ_items hr
  have h0 : q.items.l ≠ [] := fun e => by rw [e] at h16; simp at h16
  simp [(head_run _).cK, hs2, set2, c1, c2, c3, hq5, hr, hb', setAll_query]
  refine first_items s q h16.2 H _ _ _ (fun E H' I e2 e3 e7 e8 hgs hgp ho hlow hnx => ?_) (by simp) (by simp) (by simp) (by simp) (by simp) (by simp) (by simp [queryC]) (by simp) (by simp)
  simp at e2 e7
  have n0 : (H.next = H'.next) = False := by simp; omega
  have n1 : ∀ k, (H.next = H'.next + k) = False := fun k => by simp; omega
  have n3 : (H.next + 3 = H'.next) = False := by simp; omega
  have n4 : ∀ k, (H.next + 3 = H'.next + k) = False := fun k => by simp; omega
  have n5 : (H'.next = H.next + 3) = False := by simp; omega
  have n6 : ∀ k, (H'.next + k = H.next + 3) = False := fun k => by simp; omega
  have hle : H'.low ≤ H'.next := by omega
  have hbe : (emptyS : ByteArray).size ≤ big := by decide
  -- what is called
  have r1 := right_own hs ho h0 emptyS hbe
  let Ha := H'.add (.cells (schemaC s))
  have k1 := check_own1 (H := Ha) (r := H'.next) (by simp [Ha]) hs (own_add ho _) h0 emptyS hbe
  have k2 := check_own0 (H := Ha) hs (own_add ho _) h0 emptyS hbe
  let Hb := (H'.add (.cells (schemaC s))).set (H.next + 3) (.cells [I, .v (.slice none 0 0), i64D q.within, strD b, i64D q.pick])
  have hob : OwnI Hb (H.next + 4) s.name q.items.l I := own_set (own_add ho _) (by omega) _
  have r2 := right_own hs hob h0 b hbb
  let Hc := Hb.add (.cells (schemaC s))
  have k3 := check_own1 (H := Hc) (r := H'.next + 1) (by simp [Hc, Hb]) hs (own_add hob _) h0 b hbb
  have he : (emptyS : ByteArray) = ⟨#[]⟩ := rfl
  cases p1 : rightQ (qF q s.name hs emptyS hbe) with
  | false =>
    rw [p1] at r1
    simp only [he] at r1
    simp [e7, e8, hgp, r1, hlow]
  | true =>
    rw [check_bare p1] at k1
    rw [check_none p1] at k2
    rw [p1] at r1
    simp only [he, Ha, pairD] at r1 k1 k2
    cases p2 : rightQ (qF q s.name hs b hbb) with
    | false =>
      rw [p2] at r2
      simp only [Hb] at r2
      simp [e2, e3, e7, e8, hgp, hgs, r1, k1, k2, r2, hlow, hs2, set2, n0, n1, n3, n4, n5, n6, hle, get_set]
    | true =>
      rw [p2] at r2
      simp only [Hb] at r2
      by_cases hbe : b = ⟨#[]⟩
      · subst hbe
        simp [e2, e3, e7, e8, hgp, hgs, r1, k1, k2, r2, hlow, hs2, set2, n0, n1, n3, n4, n5, n6, hle, get_set]
      · simp [e2, e3, e7, e8, hgp, hgs, r1, k1, k2, r2, hlow, hs2, set2, n0, n1, n3, n4, n5, n6, hle, get_set, hbe]
        refine first_fields s b H.next _ (by simp [get_set, n0, hgs]) _ _ (fun E' f3 f7 f8 f11 f13 f14 f15 => ?_) (by simp [e2]) (by simp [e3]) (by simp) (by simp)
        simp [e3, e7, e8] at f3 f7 f8 f11 f13 f14
        simp only [Hc, Hb, pairD] at k3
        rcases check_by p2 hbe with ⟨h1, h2⟩ | h1
        · rw [h1] at k3
          rw [h2] at f15
          simp [f3, f7, f8, f11, f13, f14, f15, hgs, hgp, hs2, set2, get_set, n0, n1, n3, n4, n5, n6, k3, hlow]
        · rw [h1] at k3
          simp [f3, f7, f8, f11, f13, f14, f15, hgs, hgp, hs2, set2, get_set, n0, n1, n3, n4, n5, n6, k3, hlow]

end Go.Proofs.YtnpoicmaiieanaaGreatDoor.Tz
