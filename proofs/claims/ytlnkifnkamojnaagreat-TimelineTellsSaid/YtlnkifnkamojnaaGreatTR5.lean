/-
Own rows of a kind of data: an element read, written; a row cut; its end set to zero. Conditions: none.
-/
import Derived.Test.YtlnkifnkamojnaaGreatGR
namespace Go.Aug
theorem finX_old {fz : Bool} {H : Heap} {d : D} {H' : Heap} {R : D → Heap → Prop} (h1 : H.next ≤ H'.low) (h2 : d.under H.next = true) : finX fz H d H' R = R d H := by
  have plain : leave H d H' = (d, H) := by
    unfold leave
    simp [h1, h2]
  unfold finX leaveF
  cases fz with
  | false => simp only [plain]
  | true => simp only [h1, if_true, frz_under0 H' H.next 63 d h2]
theorem finX_new {H : Heap} {d : D} {H' : Heap} {R : D → Heap → Prop} (h : d.under H.next = false) : finX false H d H' R = R d (relow H' (if H.low < H'.low then H.low else H'.low)) := by
  unfold finX leaveF leave
  simp [h, relow]
theorem frz_fresh {H : Heap} {lo r n : Nat} {cap : Option Nat} {s : Nat} {L rest : List D} (hr : lo ≤ r) (hg : H.get r = some (.cells (L ++ rest))) (hL : L.length = n * s) (hp : D.under.underAll 0 L = true) : frz H lo 64 (.rs r 0 n cap s) = some (.sl n L cap) := by
  have hz : ∀ l : List D, D.under.underAll 0 l = true → frzL (frz H lo 63) l = some l := by
    intro l
    induction l with
    | nil => intro _; rfl
    | cons d l ih =>
      intro h
      simp only [D.under.underAll, Bool.and_eq_true] at h
      simp only [frzL, frz_under0 H lo 62 d (under_zero lo d h.1), ih h.2]
  unfold frz
  have hu : ¬ (D.rs r 0 n cap s).under lo = true := by simp [D.under]; omega
  have hlt : ¬ r < lo := by omega
  rw [if_neg hu]
  simp only [if_neg hlt, hg, Nat.zero_add, List.length_append, List.drop_zero]
  rw [if_pos (by omega), List.take_left' hL, hz L hp]
  rfl
theorem setAll_part : ∀ (c z pre suf : List D), c.length = z.length → setAll (pre ++ (z ++ suf)) pre.length c = pre ++ (c ++ suf)
  | [], [], pre, suf, _ => by simp [setAll]
  | d :: c, y :: z, pre, suf, h => by
    have e : (pre ++ (y :: z ++ suf)).set pre.length d = (pre ++ [d]) ++ (z ++ suf) := by simp
    have e2 : pre.length + 1 = (pre ++ [d]).length := by simp
    rw [setAll, e, e2, setAll_part c z (pre ++ [d]) suf (by simpa using h)]
    simp
variable {α : Type} {c : α → List D} {s : Nat}
theorem own_load (hc : ∀ x, (c x).length = s) {rows pre suf : List α} {x : α} (h : rows = pre ++ x :: suf) {H : Heap} {r : Nat} (hg : H.get r = some (.cells (rows.flatMap c))) : evLoad H (some s) (.rf r (pre.length * s)) = some (.agg (c x)) := by
  subst h
  have hd := drop_zip hc pre (x :: suf)
  simp only [evLoad, cellsAt, hg, hd, pickL]
  rw [List.flatMap_cons, if_pos (by simp [hc]), List.take_left' (hc x)]
theorem own_store (hc : ∀ x, (c x).length = s) {rows pre suf : List α} {x : α} (h : rows = pre ++ x :: suf) (y : α) {H : Heap} {r : Nat} (hg : H.get r = some (.cells (rows.flatMap c))) : evStore H s (.rf r (pre.length * s)) (.agg (c y)) = some (H.set r (.cells ((pre ++ y :: suf).flatMap c))) := by
  subst h
  have hl := flatMap_length hc pre
  have := setAll_part (c y) (c x) (pre.flatMap c) (suf.flatMap c) (by rw [hc, hc])
  rw [hl] at this
  have hle : pre.length * s + s ≤ (pre.length + (suf.length + 1)) * s := by
    simp only [Nat.add_mul, Nat.one_mul]
    omega
  have hlen := flatMap_length hc (pre ++ x :: suf)
  simp only [evStore, hg, cellsOf, hc, hlen]
  rw [if_pos (by simpa using hle)]
  simp only [List.flatMap_append, List.flatMap_cons, this]
theorem own_hi (r n : Nat) (cap : Option Nat) (k : Nat) (h : k ≤ n) : sliceX s (.rs r 0 n cap s) none (some (i64D k)) none false = some (.rs r 0 k cap s) := by
  have e : cap.map (· - 0) = cap := by cases cap <;> rfl
  have e2 : (0 : Int) ≤ (k : Int) ∧ (k : Int) ≤ (n : Int) := ⟨by omega, by omega⟩
  simp [sliceX, e, e2]
theorem own_lo (r n : Nat) (cap : Option Nat) (k : Nat) (h : k < n) : sliceX s (.rs r 0 n cap s) (some (i64D k)) none none false = some (.rs r (k * s) (n - k) (cap.map (· - k)) s) := by
  have e2 : (0 : Int) ≤ (k : Int) ∧ (k : Int) ≤ (n : Int) := ⟨by omega, by omega⟩
  simp [sliceX, e2, h]
theorem flatten_replicate (n : Nat) (z : List D) : (List.replicate n z).flatten.length = n * z.length := by simp
theorem own_clr (hc : ∀ x, (c x).length = s) {rows pre suf : List α} (h : rows = pre ++ suf) (hs : suf ≠ []) (z : List D) (hz : z.length = s) (cap : Option Nat) {H : Heap} {r : Nat} (hg : H.get r = some (.cells (rows.flatMap c))) :
    evClr H s z (.rs r (pre.length * s) suf.length cap s) = some (H.set r (.cells (pre.flatMap c ++ (List.replicate suf.length z).flatten))) := by
  subst h
  have hl := flatMap_length hc pre
  have hl2 := flatMap_length hc suf
  have hn : suf.length ≠ 0 := fun e => hs (List.length_eq_zero_iff.1 e)
  have := setAll_part (List.replicate suf.length z).flatten (suf.flatMap c) (pre.flatMap c) [] (by rw [flatten_replicate, hl2, hz])
  rw [hl, List.append_nil, List.append_nil] at this
  simp only [evClr, if_neg hn, hg, List.flatMap_append, List.length_append, hl, hl2]
  rw [if_pos (Nat.le_refl _), this]
structure RowPost (H : Heap) (r : Nat) (L : List D) (H' : Heap) : Prop where
  next : H.next ≤ H'.next
  row : H'.get r = some (.cells L)
  old : ∀ k, k < H.next → k ≠ r → H'.get k = H.get k
  low : (H.low ≤ H'.low ∨ r ≤ H'.low) 
  low' : H'.low ≤ H'.next
structure RowIn (H : Heap) (r : Nat) (L : List D) (H' : Heap) : Prop where
  next : H.next ≤ H'.next
  row : H'.get r = some (.cells L)
  old : ∀ k, k < H.next → k ≠ r → H'.get k = H.get k
  low : r ≤ H'.low
  low' : H'.low ≤ H'.next
theorem RowIn.fin {H H' : Heap} {r : Nat} {L : List D} {d : D} {fz : Bool} {R : D → Heap → Prop} (hr : r < H.next) (hlow : H.low ≤ H.next) (hd : d.under H.next = true) (p : RowIn H r L H') (hk : ∀ H'', RowPost H r L H'' → R d H'') (hsame : H.next ≤ H'.low → H'.get r = H.get r) : finX fz H d H' R := by
  by_cases h : H.next ≤ H'.low
  · rw [finX_old h hd]
    exact hk H ⟨Nat.le_refl _, by rw [← hsame h]; exact p.row, fun _ _ _ => rfl, .inl (Nat.le_refl _), hlow⟩
  · rw [finX_loud (by omega)]
    refine hk _ ⟨by simp [p.next], by simp [p.row], fun k h1 h2 => by simp [p.old k h1 h2], ?_, ?_⟩
    · simp only [low_relow]
      split
      · exact .inl (Nat.le_refl _)
      · exact .inr p.low
    · have := p.next
      have := p.low'
      simp only [low_relow, next_relow]
      split <;> omega
theorem RowIn.add {H H' : Heap} {r : Nat} {L : List D} (p : RowIn H r L H') (hr : r < H.next) (o : O) : RowIn H r L (H'.add o) := by
  have := p.next
  have := p.low'
  refine ⟨by simp; omega, ?_, fun k h1 h2 => ?_, by simpa using p.low, by simp; omega⟩
  · rw [get_add, if_neg (by omega), p.row]
  · rw [get_add, if_neg (by omega), p.old k h1 h2]
theorem RowIn.setNew {H H' : Heap} {r : Nat} {L : List D} (p : RowIn H r L H') (hr : r < H.next) (q : Nat) (hq : H.next ≤ q) (o : O) : RowIn H r L (H'.set q o) := by
  have := p.next
  have := p.low'
  have := p.low
  refine ⟨by simp; omega, ?_, fun k h1 h2 => ?_, ?_, ?_⟩
  · rw [get_set, if_neg (by omega), p.row]
  · rw [get_set, if_neg (by omega), p.old k h1 h2]
  · rw [low_set]; split <;> omega
  · rw [low_set, next_set]; split <;> omega
theorem RowIn.setRow {H H' : Heap} {r : Nat} {L : List D} (p : RowIn H r L H') (L' : List D) : RowIn H r L' (H'.set r (.cells L')) := by
  have := p.next
  have := p.low'
  have := p.low
  refine ⟨by simp; omega, ?_, fun k h1 h2 => ?_, ?_, ?_⟩
  · rw [get_set, if_pos ⟨rfl, by rw [p.row]; rfl⟩]
  · rw [get_set, if_neg (by omega), p.old k h1 h2]
  · rw [low_set]; split <;> omega
  · rw [low_set, next_set]; split <;> omega
theorem RowIn.start {H : Heap} {r : Nat} {L : List D} (hr : r < H.next) (hg : H.get r = some (.cells L)) : RowIn H r L (low0 H) :=
  ⟨Nat.le_refl _, by simpa using hg, fun _ _ _ => rfl, by simp; omega, by simp⟩
def DelInv (c : α → List D) (s : Nat) (p : α → Bool) (l : List α) (cap : Option Nat) (r : Nat) (f : D) (H : Heap) (j : Nat) (E : Fr) (H' : Heap) : Prop :=
  ∃ (kept junk suf : List α) (m : Nat), m = kept.length + junk.length ∧ l.length = m + suf.length ∧ junk ≠ [] ∧ j = suf.length ∧ (l.filter fun x => !p x) = kept ++ suf.filter (fun x => !p x) ∧ (∀ x ∈ suf, x ∈ l) ∧
    E 0 = .rs r 0 l.length cap s ∧ E 1 = f ∧ E 5 = i64D kept.length ∧ E 6 = i64D m ∧ RowIn H r ((kept ++ junk ++ suf).flatMap c) H' ∧ (H.next ≤ H'.low → H'.get r = H.get r)
end Go.Aug
