/-
A right query's text says its items, its time, what parts it and its pick. Conditions: none; plain.
-/
import Derived.Test.YtmfhanoibbmnlaaGreatDoorTSc
namespace Go.Aug.Api
open Go.Aug
def noSp (t : List UInt8) : Prop := ∀ c ∈ t, c ≠ 32
theorem noSp_append {a b : List UInt8} (h : noSp a) (h' : noSp b) : noSp (a ++ b) := fun c hc => by
  rcases List.mem_append.1 hc with hc | hc
  · exact h c hc
  · exact h' c hc
theorem last_split : ∀ {x y a b : List UInt8}, noSp a → noSp b → x ++ 32 :: a = y ++ 32 :: b → x = y ∧ a = b
  | [], [], a, b, _, _, h => by simpa using h
  | [], c :: y, a, b, ha, _, h => by
    exfalso
    simp only [List.nil_append, List.cons_append, List.cons.injEq] at h
    exact ha 32 (by rw [h.2]; simp) rfl
  | c :: x, [], a, b, _, hb, h => by
    exfalso
    simp only [List.nil_append, List.cons_append, List.cons.injEq] at h
    exact hb 32 (by rw [← h.2]; simp) rfl
  | c :: x, d :: y, a, b, ha, hb, h => by
    simp only [List.cons_append, List.cons.injEq] at h
    obtain ⟨h1, h2⟩ := last_split ha hb h.2
    exact ⟨by rw [h.1, h1], h2⟩
def whereL : List UInt8 := [119, 104, 101, 114, 101]
def withinL : List UInt8 := [119, 105, 116, 104, 105, 110]
def byL' : List UInt8 := [98, 121]
def pickkL : List UInt8 := [112, 105, 99, 107]
def seqL : List UInt8 := [115, 101, 113]
def thenL : List UInt8 := [116, 104, 101, 110]
def orL : List UInt8 := [111, 114]
def notL : List UInt8 := [110, 111, 116]
theorem name_noSp {s : ByteArray} (h : nameS s = true) : noSp s.data.toList := fun c hc e => by
  have := (name_parts h).1 c hc
  rw [e] at this
  exact absurd this (by decide)
theorem itoa_noSp (n : Int) : noSp (Lib.itoa n) := fun c hc e => by
  have := (itoa_chars n).1 c hc
  rw [e] at this
  exact absurd this (by decide)
theorem name_key {s : ByteArray} (h : nameS s = true) {k : ByteArray} (hk : k ∈ keysL) : s.data.toList ≠ k.data.toList := fun e => by
  have h1 := (name_parts h).2.2
  unfold keyS at h1
  rw [List.any_eq_false] at h1
  exact h1 k hk (by simpa using (bytes_eq e).symm)
def tailL (N by_ pk : List UInt8) : List UInt8 := 32 :: (withinL ++ 32 :: (N ++ ((if by_ = [] then [] else 32 :: (byL' ++ 32 :: by_)) ++ 32 :: (pickkL ++ 32 :: pk))))
theorem kw_noSp {l : List UInt8} (hl : (l.all fun c => decide (c ≠ 32)) = true) : noSp l := fun c hc => by
  have := List.all_eq_true.1 hl c hc
  simpa using this
theorem tail_unique {x y N N' b b' pk pk' : List UInt8} (hN : noSp N) (hN' : noSp N') (hb : noSp b) (hb' : noSp b') (hp : noSp pk) (hp' : noSp pk')
    (n1 : b ≠ [] → b ≠ N') (n2 : b' ≠ [] → b' ≠ N) (h : x ++ tailL N b pk = y ++ tailL N' b' pk') : x = y ∧ N = N' ∧ b = b' ∧ pk = pk' := by
  have kp : noSp pickkL := kw_noSp (by decide)
  have kw : noSp withinL := kw_noSp (by decide)
  have kb : noSp byL' := kw_noSp (by decide)
  have e : ∀ x N b pk, x ++ tailL N b pk = ((((x ++ 32 :: withinL) ++ 32 :: N) ++ (if b = [] then [] else 32 :: (byL' ++ 32 :: b))) ++ 32 :: pickkL) ++ 32 :: pk := fun x N b pk => by
    unfold tailL
    simp
  rw [e, e] at h
  obtain ⟨h1, h2⟩ := last_split hp hp' h
  obtain ⟨h3, -⟩ := last_split kp kp h1
  by_cases c1 : b = []
  · by_cases c2 : b' = []
    · rw [if_pos c1, if_pos c2, List.append_nil, List.append_nil] at h3
      obtain ⟨h4, h5⟩ := last_split hN hN' h3
      obtain ⟨h6, -⟩ := last_split kw kw h4
      exact ⟨h6, h5, by rw [c1, c2], h2⟩
    · exfalso
      rw [if_pos c1, if_neg c2, List.append_nil] at h3
      have h' : ((x ++ 32 :: withinL) ++ 32 :: N) = (((y ++ 32 :: withinL) ++ 32 :: N') ++ 32 :: byL') ++ 32 :: b' := by rw [h3]; simp
      exact n2 c2 (last_split hN hb' h').2.symm
  · by_cases c2 : b' = []
    · exfalso
      rw [if_neg c1, if_pos c2, List.append_nil] at h3
      have h' : (((x ++ 32 :: withinL) ++ 32 :: N) ++ 32 :: byL') ++ 32 :: b = ((y ++ 32 :: withinL) ++ 32 :: N') := by rw [← h3]; simp
      exact n1 c1 (last_split hb hN' h').2
    · rw [if_neg c1, if_neg c2] at h3
      have h' : (((x ++ 32 :: withinL) ++ 32 :: N) ++ 32 :: byL') ++ 32 :: b = (((y ++ 32 :: withinL) ++ 32 :: N') ++ 32 :: byL') ++ 32 :: b' := by simpa using h3
      obtain ⟨h4, h5⟩ := last_split hb hb' h'
      obtain ⟨h6, -⟩ := last_split kb kb h4
      obtain ⟨h7, h8⟩ := last_split hN hN' h6
      obtain ⟨h9, -⟩ := last_split kw kw h7
      exact ⟨h9, h8, h5, h2⟩
def spL (ts : List (List UInt8)) : List UInt8 := ts.flatMap fun t => 32 :: t
def tokOk (t : List UInt8) : Prop := noSp t ∧ t ≠ whereL
def EndW (R : List UInt8) : Prop := R = [] ∨ ∃ u, R = 32 :: (whereL ++ 32 :: u)
theorem spL_append (a b : List (List UInt8)) : spL (a ++ b) = spL a ++ spL b := by simp [spL]
theorem toks_unique : ∀ (A B : List (List UInt8)) (R S : List UInt8), (∀ t ∈ A, tokOk t) → (∀ t ∈ B, tokOk t) → EndW R → EndW S → spL A ++ R = spL B ++ S → A = B ∧ R = S := by
  have endsR : ∀ (ts : List (List UInt8)) (R : List UInt8), EndW R → Ends (fun c => decide (c ≠ 32)) (spL ts ++ R) := fun ts R hR => by
    cases ts with
    | nil =>
      rcases hR with rfl | ⟨u, rfl⟩
      · exact .inl rfl
      · exact .inr ⟨32, _, rfl, by decide⟩
    | cons t ts => exact .inr ⟨32, t ++ (spL ts ++ R), by simp [spL], by decide⟩
  have ch : ∀ {t : List UInt8}, noSp t → ∀ c ∈ t, (decide (c ≠ 32)) = true := fun h c hc => by simpa using h c hc
  have wh : noSp whereL := fun c hc e => by subst e; exact absurd hc (by decide)
  intro A
  induction A with
  | nil =>
    intro B R S _ hB hR hS h
    cases B with
    | nil => exact ⟨rfl, by simpa [spL] using h⟩
    | cons t B =>
      exfalso
      simp only [spL, List.flatMap_nil, List.nil_append, List.flatMap_cons, List.cons_append, List.append_assoc] at h
      rcases hR with rfl | ⟨u, rfl⟩
      · simp at h
      · simp only [List.cons.injEq, true_and] at h
        have := (span_unique _ whereL t (32 :: u) (spL B ++ S) (ch wh) (ch (hB t (by simp)).1) (.inr ⟨32, u, rfl, by decide⟩) (endsR B S hS) h).1
        exact (hB t (by simp)).2 this.symm
  | cons t A ih =>
    intro B R S hA hB hR hS h
    cases B with
    | nil =>
      exfalso
      simp only [spL, List.flatMap_nil, List.nil_append, List.flatMap_cons, List.cons_append, List.append_assoc] at h
      rcases hS with rfl | ⟨u, rfl⟩
      · simp at h
      · simp only [List.cons.injEq, true_and] at h
        have := (span_unique _ t whereL (spL A ++ R) (32 :: u) (ch (hA t (by simp)).1) (ch wh) (endsR A R hR) (.inr ⟨32, u, rfl, by decide⟩) h).1
        exact (hA t (by simp)).2 this
    | cons t' B =>
      simp only [spL, List.flatMap_cons, List.cons_append, List.append_assoc, List.cons.injEq, true_and] at h
      obtain ⟨h1, h2⟩ := span_unique _ t t' (spL A ++ R) (spL B ++ S) (ch (hA t (by simp)).1) (ch (hB t' (by simp)).1) (endsR A R hR) (endsR B S hS) h
      obtain ⟨h3, h4⟩ := ih B R S (fun t ht => hA t (by simp [ht])) (fun t ht => hB t (by simp [ht])) hR hS h2
      exact ⟨by rw [h1, h3], h4⟩
def modeL (m : Int) : List UInt8 := if m = 2 then [43] else if m = 3 then [63] else []
def sepTok (w : List UInt8) : List (List UInt8) → List (List UInt8)
  | [] => []
  | a :: r => a :: r.flatMap fun t => [w, t]
def itemTok (x : TItem) : List (List UInt8) := (if x.not = true then [notL] else []) ++ (sepTok orL (x.names.l.map fun s => s.data.toList) ++ [x.var.data.toList ++ modeL x.mode])
def itemsTok : List TItem → List (List UInt8)
  | [] => [seqL]
  | x :: r => seqL :: (itemTok x ++ r.flatMap fun y => thenL :: itemTok y)
theorem join_sep (w : List UInt8) : ∀ (ls : List (List UInt8)), ls ≠ [] → 32 :: Lib.join ls (32 :: (w ++ [32])) = spL (sepTok w ls)
  | [], h => absurd rfl h
  | a :: r, _ => by
    rw [Lib.join_cons]
    simp only [spL, sepTok, List.flatMap_cons, List.cons_append, List.cons.injEq, true_and]
    congr 1
    have aux : ∀ r : List (List UInt8), Lib.joinTail (32 :: (w ++ [32])) r = (r.flatMap fun t => [w, t]).flatMap fun t => 32 :: t := fun r => by
      unfold Lib.joinTail
      induction r with
      | nil => rfl
      | cons b r ih =>
        rw [List.map_cons, List.flatten_cons, ih]
        simp
    exact aux r
theorem mem_sepTok {w : List UInt8} {ls : List (List UInt8)} {t : List UInt8} (h : t ∈ sepTok w ls) : t = w ∨ t ∈ ls := by
  cases ls with
  | nil => simp [sepTok] at h
  | cons a r =>
    simp only [sepTok, List.mem_cons, List.mem_flatMap] at h
    rcases h with rfl | ⟨x, hx, h⟩
    · exact .inr (by simp)
    · simp at h
      rcases h with rfl | rfl
      · exact .inl rfl
      · exact .inr (by simp [hx])
def itemOk (x : TItem) : Prop := x.names.l ≠ [] ∧ (∀ s ∈ x.names.l, nameS s = true) ∧ nameS x.var = true
theorem not_key (w : ByteArray) (hw : w ∈ keysL) {x : TItem} (h : itemOk x) (hm : ∀ c, w.data.toList.getLast? ≠ some c ∨ (c ≠ 43 ∧ c ≠ 63)) : x.var.data.toList ++ modeL x.mode ≠ w.data.toList := fun e => by
  unfold modeL at e
  split at e
  · rcases hm 43 with h1 | h1
    · exact h1 (by rw [← e]; simp)
    · exact h1.1 rfl
  · split at e
    · rcases hm 63 with h1 | h1
      · exact h1 (by rw [← e]; simp)
      · exact h1.2 rfl
    · rw [List.append_nil] at e
      exact name_key h.2.2 hw e
theorem itemTok_ok {x : TItem} (h : itemOk x) : ∀ t ∈ itemTok x, tokOk t := fun t ht => by
  unfold itemTok at ht
  rcases List.mem_append.1 ht with ht | ht
  · split at ht
    · rw [List.mem_singleton.1 ht]; exact ⟨kw_noSp (by decide), by decide⟩
    · simp at ht
  · rcases List.mem_append.1 ht with ht | ht
    · rcases mem_sepTok ht with rfl | ht
      · exact ⟨kw_noSp (by decide), by decide⟩
      · obtain ⟨s, hs, rfl⟩ := List.mem_map.1 ht
        exact ⟨name_noSp (h.2.1 s hs), name_key (h.2.1 s hs) (k := ⟨#[119, 104, 101, 114, 101]⟩) (by simp [keysL])⟩
    · rw [List.mem_singleton.1 ht]
      refine ⟨noSp_append (name_noSp h.2.2) ?_, not_key ⟨#[119, 104, 101, 114, 101]⟩ (by simp [keysL]) h fun c => ?_⟩
      · unfold modeL
        split
        · exact kw_noSp (by decide)
        · split
          · exact kw_noSp (by decide)
          · exact kw_noSp (by decide)
      · by_cases hc : c = 101
        · subst hc; exact .inr (by decide)
        · exact .inl fun e => hc (by simpa using e.symm)
theorem itemsTok_ok {l : List TItem} (h : ∀ x ∈ l, itemOk x) : ∀ t ∈ itemsTok l, tokOk t := fun t ht => by
  have hs : tokOk seqL := ⟨kw_noSp (by decide), by decide⟩
  have hth : tokOk thenL := ⟨kw_noSp (by decide), by decide⟩
  cases l with
  | nil => rw [List.mem_singleton.1 ht]; exact hs
  | cons x r =>
    simp only [itemsTok, List.mem_cons, List.mem_append, List.mem_flatMap] at ht
    rcases ht with rfl | ht | ⟨y, hy, rfl | ht⟩
    · exact hs
    · exact itemTok_ok (h x (by simp)) t ht
    · exact hth
    · exact itemTok_ok (h y (by simp [hy])) t ht
theorem not_tok {l : List TItem} (h : ∀ x ∈ l, itemOk x) : notL ∈ itemsTok l ↔ (l.any fun x => x.not) = true := by
  have one : ∀ x, itemOk x → (notL ∈ itemTok x ↔ x.not = true) := fun x hx => by
    unfold itemTok
    constructor
    · intro ht
      rcases List.mem_append.1 ht with ht | ht
      · split at ht
        · assumption
        · simp at ht
      · exfalso
        rcases List.mem_append.1 ht with ht | ht
        · rcases mem_sepTok ht with ht | ht
          · exact absurd ht (by decide)
          · obtain ⟨s, hs, e⟩ := List.mem_map.1 ht
            exact name_key (hx.2.1 s hs) (k := ⟨#[110, 111, 116]⟩) (by simp [keysL]) e
        · refine not_key ⟨#[110, 111, 116]⟩ (by simp [keysL]) hx (fun c => ?_) (List.mem_singleton.1 ht).symm
          by_cases hc : c = 116
          · subst hc; exact .inr (by decide)
          · exact .inl fun e => hc (by simpa using e.symm)
    · intro hn
      rw [if_pos hn]
      simp
  have hseq : notL ≠ seqL := by decide
  have hth : notL ≠ thenL := by decide
  rw [List.any_eq_true]
  cases l with
  | nil => simp [itemsTok, hseq]
  | cons x r =>
    simp only [itemsTok, List.mem_cons, List.mem_append, List.mem_flatMap, hseq, hth, false_or]
    constructor
    · rintro (ht | ⟨y, hy, ht⟩)
      · exact ⟨x, .inl rfl, (one x (h x (by simp))).1 ht⟩
      · exact ⟨y, .inr hy, (one y (h y (by simp [hy]))).1 ht⟩
    · rintro ⟨y, rfl | hy, hn⟩
      · exact .inl ((one y (h y (by simp))).2 hn)
      · exact .inr ⟨y, hy, (one y (h y (by simp [hy]))).2 hn⟩
end Go.Aug.Api
