/-
The walks of items' and predicates' texts, joined. Conditions: none.
-/
import Derived.Test.YtmfhanoibbmnlaaGreatDoorTWt
namespace Go.Aug.Api
open Go.Aug
def orB : ByteArray := ⟨#[32, 111, 114, 32]⟩
def modeS (m : Int) : ByteArray := if m = 2 then ⟨#[43]⟩ else if m = 3 then ⟨#[63]⟩ else ⟨#[]⟩
def bareW (x : TItem) : ByteArray := ⟨(joinB x.names.l orB).toArray⟩ ++ ⟨#[32]⟩ ++ x.var ++ modeS x.mode
def itemW (x : TItem) : ByteArray := if x.not = true then ⟨#[110, 111, 116, 32]⟩ ++ bareW x else bareW x
theorem join_size (xs : List ByteArray) (sep : ByteArray) (m : Nat) (h : ∀ x ∈ xs, x.size ≤ m) : (joinB xs sep).length ≤ xs.length * (m + sep.size) := by
  have hd : ∀ b : ByteArray, b.data.toList.length = b.size := fun b => (size_list b).symm
  unfold joinB
  match xs, h with
  | [], _ => simp [Lib.join_nil]
  | x :: r, h =>
    rw [List.map_cons, Lib.join_cons, List.length_append, Lib.joinTail_length, hd, hd]
    have hl : Lib.lens (r.map (·.data.toList)) ≤ r.length * m := by
      have : ∀ r : List ByteArray, (∀ x ∈ r, x.size ≤ m) → Lib.lens (r.map (·.data.toList)) ≤ r.length * m := by
        intro r
        induction r with
        | nil => intro _; simp [Lib.lens]
        | cons y r ih =>
          intro h
          have h1 := ih fun x hx => h x (List.mem_cons_of_mem _ hx)
          have h2 := h y (List.mem_cons_self ..)
          simp only [Lib.lens, List.map_cons, List.sum_cons, hd, List.length_cons, Nat.add_mul] at h1 ⊢
          omega
      exact this r fun x hx => h x (List.mem_cons_of_mem _ hx)
    have hx := h x (List.mem_cons_self ..)
    simp only [List.length_map, List.length_cons, Nat.add_mul, Nat.mul_add, Nat.one_mul]
    rw [Nat.mul_comm sep.size r.length]
    omega
theorem names_ok {l pre : List ByteArray} (h : namesOk pre l = true) : ∀ s ∈ l, nameS s = true := by
  induction l generalizing pre with
  | nil => intro s hs; simp at hs
  | cons a l ih =>
    simp only [namesOk, Bool.and_eq_true, Bool.not_eq_true', Bool.or_eq_true] at h
    intro s hs
    rcases List.mem_cons.1 hs with rfl | hs
    · exact h.1.1
    · exact ih h.2 s hs
end Go.Aug.Api
namespace Go.Proofs.YtmfhanoibbmnlaaGreatDoor.Tz
open Go.Aug Go.Aug.Api
set_option maxRecDepth 100000
theorem textsL_map : ∀ l : List ByteArray, textsL (l.map strD) = some l
  | [] => rfl
  | a :: l => by simp [textsL, textsL_map l]
theorem flat_str : ∀ l : List ByteArray, l.flatMap strC = l.map strD
  | [] => rfl
  | a :: l => by simp [List.flatMap_cons, strC, flat_str l]
theorem Join_run (xs : List ByteArray) (sep : ByteArray) (x : D) (H : Heap) (n : Nat) (hx : firstD H false 1 x = some (n, xs.map strD)) (h1 : xs.length ≤ 1000000) (h2 : (joinB xs sep).length ≤ 1000000) : Run tab (.fn n_q107) [x, strD sep] H (strD ⟨(joinB xs sep).toArray⟩) H := by
  refine cK.run (cK_orc o_q107 ⟨(strD ⟨(joinB xs sep).toArray⟩, H), ?_, rfl, rfl⟩)
  simp only [orcJoin, hx, textsL_map]
  rw [if_pos ⟨by omega, by omega⟩]
theorem rightItem_parts {x : TItem} {b : Bool} (h : rightItem x b = true) : nameS x.var = true ∧ x.names.l.length ≤ 3 ∧ 1 ≤ x.mode ∧ x.mode ≤ 3 ∧ ∀ s ∈ x.names.l, nameS s = true := by
  unfold rightItem at h
  split at h
  · cases h
  · rename_i h1
    split at h
    · cases h
    · rename_i h2
      have h2' : namesOk [] x.names.l = true := by
        cases hn : namesOk [] x.names.l with
        | true => rfl
        | false => exact absurd hn h2
      have hv : nameS x.var = true := by
        cases hn : nameS x.var with
        | true => rfl
        | false => exact absurd (.inl hn) h1
      exact ⟨hv, by omega, by omega, by omega, names_ok h2'⟩
theorem item_sizes {x : TItem} {b : Bool} (h : rightItem x b = true) : (joinB x.names.l orB).length ≤ 60 ∧ (bareW x).size ≤ 78 ∧ (itemW x).size ≤ 82 := by
  obtain ⟨h1, h2, h3, h4, h5⟩ := rightItem_parts h
  have hj := join_size x.names.l orB 16 fun s hs => name_size (h5 s hs)
  have ho : orB.size = 4 := rfl
  have e1 : ∀ b : UInt8, (⟨#[b]⟩ : ByteArray).size = 1 := fun _ => rfl
  have e4 : (⟨#[110, 111, 116, 32]⟩ : ByteArray).size = 4 := rfl
  rw [ho] at hj
  have hj' : (joinB x.names.l orB).length ≤ 60 := by
    refine Nat.le_trans hj ?_
    have := Nat.mul_le_mul_right (16 + 4) h2
    omega
  have hv := name_size h1
  have hm : (modeS x.mode).size ≤ 1 := by unfold modeS; split <;> (try split) <;> decide
  have hb : (bareW x).size ≤ 78 := by
    unfold bareW
    have : (⟨(joinB x.names.l orB).toArray⟩ : ByteArray).size = (joinB x.names.l orB).length := by
      show (joinB x.names.l orB).toArray.size = _
      simp
    simp only [ByteArray.size_append, e1, this]
    omega
  refine ⟨hj', hb, ?_⟩
  unfold itemW
  split
  · simp only [ByteArray.size_append, e4]; omega
  · omega
theorem Print_1_run (x : TItem) (b : Bool) (hr : rightItem x b = true) (H : Heap) : Run tab (.fn n_q109) [.agg (itemC x)] H (strD (itemW x)) H := by
  refine cK.run (cK_fn o_q109 t_q109 (Nat.le_of_ble_eq_true rfl) (by decide) ?_)
  obtain ⟨h1, h2, h3, h4, h5⟩ := rightItem_parts hr
  obtain ⟨s1, s2, s3⟩ := item_sizes hr
  have hv := name_size h1
  have hJ : ∀ H, Run tab (.fn n_q107) [slD x.names.rep x.names.l.length (x.names.l.flatMap strC), strD orB] H (strD ⟨(joinB x.names.l orB).toArray⟩) H := fun H =>
    Join_run x.names.l orB _ H x.names.l.length (by rw [sl_first H 1 x.names.rep x.names.l.length _ (by rw [flatMap_length strC_len]), flat_str]) (by omega) (by omega)
  have hJ' := fun H => (hJ H).cK
  have hm : x.mode = 1 ∨ x.mode = 2 ∨ x.mode = 3 := by omega
  have e1 : ∀ b : UInt8, (⟨#[b]⟩ : ByteArray).size = 1 := fun _ => rfl
  have e4 : (⟨#[110, 111, 116, 32]⟩ : ByteArray).size = 4 := rfl
  have hs : (⟨(joinB x.names.l orB).toArray⟩ : ByteArray).size = (joinB x.names.l orB).length := by
    show (joinB x.names.l orB).toArray.size = _
    simp
  have hms : (modeS x.mode).size ≤ 1 := by unfold modeS; split <;> (try split) <;> decide
  unfold itemW bareW
  generalize (⟨(joinB x.names.l orB).toArray⟩ : ByteArray) = J at *
  have a1 := bin_addS J ⟨#[32]⟩ (by rw [e1]; omega)
  have a2 := bin_addS (J ++ ⟨#[32]⟩) x.var (by simp only [ByteArray.size_append, e1]; omega)
  have a3 := bin_addS (J ++ ⟨#[32]⟩ ++ x.var) (modeS x.mode) (by simp only [ByteArray.size_append, e1]; omega)
  have a4 := bin_addS ⟨#[110, 111, 116, 32]⟩ (J ++ ⟨#[32]⟩ ++ x.var ++ modeS x.mode) (by simp only [ByteArray.size_append, e1, e4]; omega)
  simp only [orB] at hJ'
  rcases hm with hm | hm | hm <;> rw [hm] at a3 a4 ⊢ <;> simp only [modeS] at a3 a4 ⊢ <;> simp at a3 a4 ⊢ <;> cases hn : x.not <;> simp [itemC, Sl.enc, hJ', hm, hn, a1, a2, a3, a4]
theorem roomOk_of {bytes n : Nat} (h : n ≤ 200000) (hb : bytes ≤ 100000) : roomOk bytes n = true := by
  unfold roomOk
  simp only [Bool.and_eq_true, decide_eq_true_eq]
  refine ⟨⟨?_, by omega⟩, by omega⟩
  calc n * bytes ≤ 200000 * 100000 := Nat.mul_le_mul h hb
    _ ≤ 2 ^ 47 := by decide
theorem first_one {H : Heap} {size r2 : Nat} {c : Option Nat} {X : List D} (hX : X.length = size) (h2 : H.get r2 = some (.cells X)) : firstD H false size (.rs r2 0 1 c size) = some (1, X) := by
  have : X.take size = X := List.take_of_length_le (by omega)
  simp [firstD, h2, hX, this]
theorem app_first {H : Heap} {size bytes r2 : Nat} {c : Option Nat} {X : List D} (hX : X.length = size) (hb : bytes ≤ 100000) (h2 : H.get r2 = some (.cells X)) :
    evApp H false size bytes (.v (.slice none 0 0)) (.rs r2 0 1 c size) = some (.rs H.next 0 1 none size, H.add (.cells X)) := by
  have h1 : ((1 : Nat) == 0) = false := rfl
  simp only [evApp, first_one hX h2, h1, roomOk_of (n := 1) (by decide) hb, if_true, Bool.false_eq_true, if_false]
theorem app_next {H : Heap} {size bytes r r2 n : Nat} {c : Option Nat} {L X : List D} (hX : X.length = size) (hL : L.length = n * size) (hn : n ≤ 100000) (hb : bytes ≤ 100000) (h2 : H.get r2 = some (.cells X)) (h : H.get r = some (.cells L)) :
    evApp H false size bytes (.rs r 0 n none size) (.rs r2 0 1 c size) = some (.rs H.next 0 (n + 1) none size, (H.del r).add (.cells (L ++ X))) := by
  have h1 : ((1 : Nat) == 0) = false := rfl
  have h0 : ((0 : Nat) == 0) = true := rfl
  have hs : (n * size == L.length) = true := by rw [hL]; simp
  simp only [evApp, first_one hX h2, h1, h0, h, hs, beq_self_eq_true, roomOk_of (n := n + 1) (by omega) hb, if_true, Bool.and_self, Bool.false_eq_true, if_false]
def Own (L : List D) (n size b : Nat) (H : Heap) (d : D) : Prop :=
  (n = 0 ∧ L = [] ∧ d = .v (.slice none 0 0)) ∨ (0 < n ∧ ∃ r, d = .rs r 0 n none size ∧ b ≤ r ∧ r < H.next ∧ H.get r = some (.cells L))
theorem own_app {L X : List D} {n size bytes b lo r2 : Nat} {c : Option Nat} {H : Heap} {d : D} (ho : Own L n size b H d) (hX : X.length = size) (hL : L.length = n * size) (hn : n ≤ 100000) (hb : bytes ≤ 100000) (h2 : H.get r2 = some (.cells X)) (hlow : lo ≤ H.low) (hln : H.low ≤ H.next) (hbn : b ≤ H.next) (hlb : lo ≤ b) (k : D × Heap → Prop)
    (hk : ∀ d' H', Own (L ++ X) (n + 1) size b H' d' → H'.next = H.next + 1 → lo ≤ H'.low → H'.low ≤ H'.next → (∀ q, q < b → H'.get q = H.get q) → k (d', H')) : oK (evApp H false size bytes d (.rs r2 0 1 c size)) k := by
  rcases ho with ⟨rfl, rfl, rfl⟩ | ⟨hpos, r, rfl, hr1, hr2, hg⟩
  · refine ⟨_, app_first hX hb h2, hk _ _ (.inr ⟨by omega, H.next, by simp, hbn, by simp, by simp⟩) (by simp) (by simpa using hlow) (by simp; omega) fun q hq => ?_⟩
    have : (q = H.next) = False := by simp; omega
    simp [this]
  · refine ⟨_, app_next hX hL hn hb h2 hg, hk _ _ (.inr ⟨by omega, H.next, by simp, hbn, by simp, by simp⟩) (by simp) (by simp; split <;> omega) (by simp; split <;> omega) fun q hq => ?_⟩
    have e1 : (q = H.next) = False := by simp; omega
    have e2 : (q = r) = False := by simp; omega
    simp [e1, get_del, e2]
theorem Own.mono {L : List D} {n size b : Nat} {H H' : Heap} {d : D} (ho : Own L n size b H d) (hn : H.next ≤ H'.next) (hg : ∀ q, b ≤ q → q < H.next → H'.get q = H.get q) : Own L n size b H' d := by
  rcases ho with h | ⟨h1, r, h2, h3, h4, h5⟩
  · exact .inl h
  · exact .inr ⟨h1, r, h2, h3, by omega, by rw [hg r h3 h4]; exact h5⟩
theorem joined_Item_run (l : Sl TItem) (hl : l.l.length ≤ 6) (hr : ∀ x ∈ l.l, ∃ b, rightItem x b = true) (H : Heap) : Run tab (.fn n_q115) [l.enc itemC, strD ⟨#[32, 116, 104, 101, 110, 32]⟩, .fn (.func n_q109) [] []] H (strD ⟨(joinB (l.l.map itemW) ⟨#[32, 116, 104, 101, 110, 32]⟩).toArray⟩) H := by
  refine cK.run (cK_fn o_q115 t_q115 (Nat.le_of_ble_eq_true rfl) (by decide) ?_)
  have hsz : ∀ x ∈ l.l.map itemW, x.size ≤ 82 := fun x hx => by
    obtain ⟨y, hy, rfl⟩ := List.mem_map.1 hx
    obtain ⟨b, hb⟩ := hr y hy
    exact (item_sizes hb).2.2
  have hj := join_size (l.l.map itemW) ⟨#[32, 116, 104, 101, 110, 32]⟩ 82 hsz
  have h6 : (⟨#[32, 116, 104, 101, 110, 32]⟩ : ByteArray).size = 6 := rfl
  rw [h6, List.length_map] at hj
  have hj' : (joinB (l.l.map itemW) ⟨#[32, 116, 104, 101, 110, 32]⟩).length ≤ 1000000 := by omega
  simp [Sl.enc]
  refine LR_rule (WR_mono _) (fun j E H' => ∃ pre suf, l.l = pre ++ suf ∧ j = suf.length ∧ E 1 = strD ⟨#[32, 116, 104, 101, 110, 32]⟩ ∧ E 2 = .fn (.func n_q109) [] [] ∧ Own ((pre.map itemW).map strD) pre.length 1 H.next H' (E 7) ∧ E 10 = l.enc itemC ∧ E 11 = i64D l.l.length ∧ E 12 = i64D pre.length ∧ H.next ≤ H'.low ∧ H'.low ≤ H'.next ∧ H.next ≤ H'.next) ?_ (j := l.l.length) ⟨[], l.l, rfl, rfl, by simp, by simp, .inl ⟨rfl, rfl, by simp⟩, by simp [Sl.enc], by simp, by simp, by simp, by simp, by simp⟩
  rintro j E H' ⟨pre, suf, h0, rfl, e1, e2, ho, e10, e11, e12, w1, w2, w3⟩
  cases suf with
  | nil =>
    simp at h0
    have hlt' : ((pre.length : Int) < (l.l.length : Int)) = False := by simp [h0]
    have hf : firstD H' false 1 (E 7) = some (pre.length, (pre.map itemW).map strD) := by
      rcases ho with ⟨h1, h2, h3⟩ | ⟨h1, r, h2, -, -, h3⟩
      · rw [h3, h1, h2]; rfl
      · rw [h2]
        have : ((pre.map itemW).map strD).take pre.length = (pre.map itemW).map strD := List.take_of_length_le (by simp)
        simp only [firstD, h3, List.length_map, Nat.mul_one, Nat.zero_add, Nat.le_refl, if_true, List.drop_zero, this]
    rw [← h0] at hf
    have hJ := (Join_run (l.l.map itemW) ⟨#[32, 116, 104, 101, 110, 32]⟩ (E 7) H' _ hf (by simp; omega) hj').cK
    simp [e1, e11, e12, hlt', hJ, w1]
  | cons x suf =>
    have hlt : pre.length < l.l.length := by simp [h0]
    have hlt' : ((pre.length : Int) < (l.l.length : Int)) = True := by simp; omega
    have ea := elem_at itemC_len l.rep l.l .i64 pre.length x (by rw [h0]; simp)
    obtain ⟨b, hb⟩ := hr x (by rw [h0]; simp)
    have hP := fun H => (Print_1_run x b hb H).cK
    have hw : IntKind.i64.wrap ((pre.length : Int) + 1) = (pre.length : Int) + 1 := wrap64 (by omega) (by omega)
    have hx4 : (itemC x).take 4 = itemC x := List.take_of_length_le (by rw [itemC_len]; exact Nat.le_refl _)
    simp [Sl.enc, e1, e2, e10, e11, e12, hlt', ea, load_elem _ _ _ _ (itemC_len x), setAll_item, w2, hx4, hP]
    refine own_app (b := H.next) (lo := H.next) (L := (pre.map itemW).map strD) (X := [strD (itemW x)]) (ho.mono (by simp) fun q h1 h2 => ?_) rfl (by simp) (by omega) (by decide) (by simp) (by simpa using w1) (by simp; omega) (by simp; omega) (Nat.le_refl _) _ fun d' H2 o2 n2 l2 l3 g2 => ?_
    · have q1 : (q = H'.next) = False := by simp; omega
      have q2 : (q = H'.next + 1) = False := by simp; omega
      simp [q1, q2]
    · simp [e1, e2, e10, e11, e12, hw]
      refine ⟨suf.length, by omega, pre ++ [x], suf, by simp [h0], rfl, by simpa using o2, by simp [Sl.enc], l2, l3, by simp at n2; omega⟩
theorem joined_Pred_run (p : TPred) (hp : predX p = true) (H : Heap) : Run tab (.fn n_q116) [.sl 1 (predC p) (some 1), strD ⟨#[32, 97, 110, 100, 32]⟩, .fn (.func n_q110) [] []] H (strD (predS p)) H := by
  refine cK.run (cK_fn o_q116 t_q116 (Nat.le_of_ble_eq_true rfl) (by decide) ?_)
  have hP := fun H => (Print_2_run p hp H).cK
  have hs := pred_size hp
  simp
  refine LR_rule (WR_mono _) (fun j E H' => E 1 = strD ⟨#[32, 97, 110, 100, 32]⟩ ∧ E 2 = .fn (.func n_q110) [] [] ∧ E 10 = .sl 1 (predC p) (some 1) ∧ E 11 = i64D 1 ∧ H.next ≤ H'.low ∧ H'.low ≤ H'.next ∧ H.next ≤ H'.next ∧ ((j = 1 ∧ E 7 = .v (.slice none 0 0) ∧ E 12 = i64D 0) ∨ (j = 0 ∧ Own [strD (predS p)] 1 1 H.next H' (E 7) ∧ E 12 = i64D 1))) ?_ (j := 1) ⟨by simp, by simp, by simp, by simp, by simp, by simp, by simp, .inl ⟨rfl, by simp, by simp⟩⟩
  rintro j E H' ⟨e1, e2, e10, e11, w1, w2, w3, h⟩
  rcases h with ⟨rfl, e7, e12⟩ | ⟨rfl, ho, e12⟩
  · have hw : IntKind.i64.wrap 1 = 1 := by decide
    simp [e1, e2, e7, e10, e11, e12, setAll_full, w2, hP]
    refine own_app (b := H.next) (lo := H.next) (L := []) (n := 0) (X := [strD (predS p)]) (.inl ⟨rfl, rfl, rfl⟩) rfl rfl (by decide) (by decide) (by simp) (by simpa using w1) (by simp; omega) (by simp; omega) (Nat.le_refl _) _ fun d' H2 o2 n2 l2 l3 g2 => ?_
    simp [e1, e2, e10, e11, e12, hw]
    exact ⟨l2, l3, by simp at n2; omega, by simpa using o2⟩
  · have hf : firstD H' false 1 (E 7) = some (1, [predS p].map strD) := by
      rcases ho with ⟨h1, h2, h3⟩ | ⟨h1, r, h2, -, -, h3⟩
      · cases h1
      · rw [h2]
        simp [firstD, h3]
    have hone : joinB [predS p] ⟨#[32, 97, 110, 100, 32]⟩ = (predS p).data.toList := by simp [joinB, Lib.join_one]
    have hJ := (Join_run [predS p] ⟨#[32, 97, 110, 100, 32]⟩ (E 7) H' _ hf (by simp) (by rw [hone, ← size_list]; omega)).cK
    rw [hone] at hJ
    simp at hJ
    simp [e1, e11, e12, hJ, w1]
end Go.Proofs.YtmfhanoibbmnlaaGreatDoor.Tz
