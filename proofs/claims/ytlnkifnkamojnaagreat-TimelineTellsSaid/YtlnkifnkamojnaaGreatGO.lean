/-
Functions that are not walked: what they are said to do. Conditions: none; definitions alone.
-/
import Derived.Test.YtlnkifnkamojnaaGreatGE
import Derived.Lib.SlKeysI
import Derived.Maps.Own
import Derived.Maps.OwnSet
namespace Go.Aug
def insI (x : Int) : List Int → List Int
  | [] => [x]
  | y :: l => if x ≤ y then x :: y :: l else y :: insI x l
def sortI : List Int → List Int
  | [] => []
  | x :: l => insI x (sortI l)
def keysI : List (D × D) → Option (List Int)
  | [] => some []
  | e :: l => match e.1, keysI l with
    | .v (.int .i64 n), some r => if -9223372036854775808 ≤ n ∧ n ≤ 9223372036854775807 then some (n :: r) else none
    | _, _ => none
def freshI (x : Int) : List Int → Bool
  | [] => true
  | y :: l => if x = y then false else freshI x l
def apartI : List Int → Bool
  | [] => true
  | x :: l => freshI x l && apartI l
def orcSorted (N : Nat) (it : FuncId) : List D → Heap → Option (D × Heap)
  | [.fn (.func g) [] [.rf q 0]], H => if g == it then match H.get q with
    | some (.cells [.mp r]) => match H.get r with
      | some (.map es) => match keysI es with
        | some ks => if ks.length ≤ N && apartI ks then (match ks with
          | [] => some (.v (.slice none 0 0), H)
          | _ => some (.rs H.next 0 ks.length none 1, H.add (.cells ((sortI ks).map fun n => .v (.int .i64 n))))) else none
        | none => none
      | _ => none
    | _ => none
    else none
  | _, _ => none
end Go.Aug
namespace Go.Aug
open Go.RowKit Go.MapKept
open Go.WideElems (Fit rd rg)
variable {P : Program} {ρ : Ren} {Im : Nat → Prop} {H : Heap} {w w' : World}
theorem Post.adopt (h : Sim P ρ Im H w) (p : Post P ρ Im H w ρ Im H w') {g : Nat} {o : O} {x : Obj} (hg : w.heap.size ≤ g) (hx : w'.heap[g]? = some x) (ho : RelO P ρ Im w' o x) (hi : ¬ Im g) :
    Post P ρ Im H w (renAdd ρ H.next g) Im (H.add o) w' ∧ renAdd ρ H.next g H.next = some g := by
  have hold : ∀ r b, ρ r = some b → renAdd ρ H.next g r = some b := fun r b e => by
    have := lt_of_fresh p.sim.fresh e
    simp [renAdd, Nat.ne_of_lt this, e]
  have hl : Later ρ Im w' (renAdd ρ H.next g) Im w' := ⟨hold, fun _ h => h, fun _ _ => rfl, fun b cs e f hb => ⟨cs, f, hb, rfl⟩⟩
  have hsim : Sim P (renAdd ρ H.next g) Im (H.add o) w' := by
    refine ⟨fun r o' hr => ?_, fun r r' o1 o2 b e1 e2 f1 f2 => ?_, fun r hr => ?_, p.sim.imlt, Nat.le_succ_of_le h.low, p.sim.glob.later hl⟩
    · rw [Heap.get_add] at hr
      by_cases hrn : r = H.next
      · rw [if_pos hrn] at hr
        cases hr
        exact ⟨g, x, by simp [renAdd, hrn], hi, hx, ho.mono hl⟩
      · rw [if_neg hrn] at hr
        obtain ⟨b, y, a1, a2, a3, a4⟩ := p.sim.obj r o' hr
        exact ⟨b, y, hold r b a1, a2, a3, a4.mono hl⟩
    · rw [Heap.get_add] at e1 e2
      by_cases hr : r = H.next
      · by_cases hr' : r' = H.next
        · omega
        · rw [if_neg hr'] at e2
          simp only [renAdd, hr', if_false] at f2
          simp only [renAdd, hr, if_true, Option.some.injEq] at f1
          have := h.lt e2 f2
          omega
      · rw [if_neg hr] at e1
        simp only [renAdd, hr, if_false] at f1
        by_cases hr' : r' = H.next
        · simp only [renAdd, hr', if_true, Option.some.injEq] at f2
          have := h.lt e1 f1
          omega
        · rw [if_neg hr'] at e2
          simp only [renAdd, hr', if_false] at f2
          exact h.inj r r' o1 o2 b e1 e2 f1 f2
    · have hr' : H.next + 1 ≤ r := hr
      have : r ≠ H.next := by omega
      simp only [renAdd, this, if_false]
      exact h.fresh r (by omega)
  refine ⟨{ later := p.later.trans hl, calm := p.calm, sim := hsim, size := p.size, foot := p.foot, imfoot := p.imfoot, live := fun r o' b hr e => ?_, old := fun r hr => by simp [renAdd, Nat.ne_of_lt hr], next := Nat.le_succ _, keep := ⟨Nat.le_refl _, fun r hr => ?_⟩, sub := fun r o' hr hg' => ?_ }, by simp [renAdd]⟩
  · rw [Heap.get_add] at hr
    by_cases hrn : r = H.next
    · simp only [renAdd, hrn, if_true, Option.some.injEq] at e
      exact .inl (by omega)
    · rw [if_neg hrn] at hr
      simp only [renAdd, hrn, if_false] at e
      exact .inr ⟨r, o', hr, e⟩
  · have hr' : r < H.low := hr
    have := h.low
    rw [Heap.get_add, if_neg (by omega)]
  · rw [Heap.get_add, if_neg (Nat.ne_of_lt hr)] at hg'
    exact ⟨o', hg'⟩
theorem insI_perm (x : Int) : ∀ l, (insI x l).Perm (x :: l)
  | [] => .refl _
  | y :: l => by
    simp only [insI]
    split
    · exact .refl _
    · exact ((insI_perm x l).cons y).trans (.swap x y l)
theorem sortI_perm : ∀ l, (sortI l).Perm l
  | [] => .refl _
  | x :: l => (insI_perm x (sortI l)).trans ((sortI_perm l).cons x)
theorem insI_sorted (x : Int) : ∀ l, l.Pairwise (· ≤ ·) → (insI x l).Pairwise (· ≤ ·)
  | [], _ => by simp [insI]
  | y :: l, h => by
    obtain ⟨h1, h2⟩ := List.pairwise_cons.1 h
    simp only [insI]
    split
    · rename_i hxy
      refine List.pairwise_cons.2 ⟨fun z hz => ?_, h⟩
      rcases List.mem_cons.1 hz with rfl | hz
      · exact hxy
      · exact Int.le_trans hxy (h1 z hz)
    · rename_i hxy
      refine List.pairwise_cons.2 ⟨fun z hz => ?_, insI_sorted x l h2⟩
      rcases List.mem_cons.1 ((insI_perm x l).mem_iff.1 hz) with rfl | hz
      · omega
      · exact h1 z hz
theorem sortI_sorted : ∀ l, (sortI l).Pairwise (· ≤ ·)
  | [] => by simp [sortI]
  | x :: l => insI_sorted x _ (sortI_sorted l)
theorem sortI_eq {ss ks : List Int} (h : ss.Perm ks) : ss.mergeSort (fun x y => decide (x ≤ y)) = sortI ks := by
  have tr : ∀ a b c : Int, decide (a ≤ b) = true → decide (b ≤ c) = true → decide (a ≤ c) = true := fun a b c h1 h2 => by simp only [decide_eq_true_eq] at *; omega
  have to : ∀ a b : Int, (decide (a ≤ b) || decide (b ≤ a)) = true := fun a b => by simp only [Bool.or_eq_true, decide_eq_true_eq]; omega
  have h1 := List.pairwise_mergeSort (le := fun x y : Int => decide (x ≤ y)) tr to ss
  refine List.Perm.eq_of_pairwise (le := fun a b : Int => a ≤ b) (fun a b _ _ h1 h2 => by omega) (h1.imp (by simp)) (sortI_sorted ks) (((List.mergeSort_perm ss _).trans h).trans (sortI_perm ks).symm)
theorem freshI_iff (x : Int) : ∀ l, freshI x l = true ↔ x ∉ l
  | [] => by simp [freshI]
  | y :: l => by
    simp only [freshI, List.mem_cons, not_or]
    split
    · rename_i h; simp [h]
    · rename_i h; simp [h, freshI_iff x l]
theorem apartI_iff : ∀ l, apartI l = true ↔ l.Nodup
  | [] => by simp [apartI]
  | x :: l => by simp [apartI, freshI_iff, apartI_iff l]
theorem keysI_get : ∀ (es : List (D × D)) (ks : List Int), keysI es = some ks → ks.length = es.length ∧ ∀ (i : Nat) (e : D × D), es[i]? = some e → ∃ n, ks[i]? = some n ∧ e.1 = .v (.int .i64 n) ∧ -9223372036854775808 ≤ n ∧ n ≤ 9223372036854775807
  | [], ks, h => by
    simp only [keysI, Option.some.injEq] at h
    subst h
    exact ⟨rfl, fun i e he => by simp at he⟩
  | e :: es, ks, h => by
    simp only [keysI] at h
    split at h
    · rename_i n r he hr
      split at h
      · rename_i hn
        cases h
        obtain ⟨h1, h2⟩ := keysI_get es r hr
        refine ⟨by simp [h1], fun i e' he' => ?_⟩
        cases i with
        | zero => simp at he'; subst he'; exact ⟨n, rfl, he, hn⟩
        | succ i => exact h2 i e' (by simpa using he')
      · cases h
    · cases h
structure KeysSorted (P : Program) (N : Nat) (so it : FuncId) (K : TypeId) : Prop where
  most : N ≤ 1000000
  enter : ∀ args W, (callFunc so args).run P W = .ok (.enter so args) W
  key : P.underlying K = some (.int .i64)
  calls : ∀ (b mb nn : Nat) (D0 : DataW Unit) (R : Value → Option (DataW Unit × List MemPlace)) (W : World), b < W.heap.size → W.cell? ⟨b, 0, none⟩ = some (.map (some mb)) → W.ownsMap P K R mb nn D0 → Maps.size D0 ≤ N →
    Calls P so #[.func (.func it) #[] #[.pointer (some ⟨b, 0, none⟩)]] W fun e w' => ∃ (v : Value) (ss : List Int), e = .returned v ∧ ss.Perm (intKeys D0) ∧
      w'.ownsRow W.heap.size K 1 v ss.length ((ss.mergeSort (fun x y => decide (x ≤ y))).map fun n => .int .i64 n) ∧ (v = .slice none 0 0 ↔ ss = []) ∧ Below W.heap.size W w'
theorem arr_one {a : Array Value} (h : a.size = 1) : a = #[gv a 0] := by
  apply Array.ext
  · simpa using h
  · intro i h1 h2
    have : i = 0 := by simp at h2; omega
    subst this
    simp [gv, h1]
theorem sorted_ok {N : Nat} {so it : FuncId} {K : TypeId} (hK : KeysSorted P N so it K) : OrcOk P so (orcSorted N it) := by
  intro args H r H' hg ρ Im w vs hs hr
  unfold orcSorted at hg
  split at hg
  · rename_i _ g q
    split at hg
    · rename_i hgit
      split at hg
      · rename_i rr hq
        split at hg
        · rename_i es hm
          split at hg
          · rename_i ks hks
            split at hg
            · rename_i hok
              simp only [Bool.and_eq_true, decide_eq_true_eq] at hok
              have hmost := hK.most
              have hgit' : g = it := by simpa using hgit
              subst hgit'
              -- the argument
              obtain ⟨hl, hrel⟩ := hr
              have h0 := hrel 0 _ rfl
              rw [arr_one (a := vs) (by simpa using hl.symm)]
              generalize gv vs 0 = v0 at h0
              cases h0 with
              | fn hx hrx hy hry =>
                rename_i xs ys
                have hxs : xs = #[] := by
                  have : xs.size = 0 := by simpa using hx.symm
                  exact Array.eq_empty_of_size_eq_zero this
                subst hxs
                have h1 := hry 0 _ rfl
                rw [arr_one (a := ys) (by simpa using hy.symm)]
                generalize gv ys 0 = p0 at h1
                cases h1 with
                | rf hb =>
                  rename_i b
                  -- the cell that holds the map
                  obtain ⟨b', x', a1, a2, a3, a4⟩ := hs.obj q _ hq
                  obtain rfl : b' = b := by rw [hb] at a1; exact (Option.some.inj a1).symm
                  cases a4 with
                  | cells c1 c2 c3 =>
                    rename_i cs te
                    have h2 := c3 0 _ rfl
                    have hcell : w.cell? ⟨b', 0, none⟩ = some (gv cs 0) := by
                      have : 0 < cs.size := by simp at c1; omega
                      simp [World.cell?, a3, gv, this]
                    generalize gv cs 0 = m0 at h2 hcell
                    cases h2 with
                    | mp hmb =>
                      rename_i mb
                      obtain ⟨ms, m1, m2, m3, m4⟩ := hs.mapAt hm hmb
                      obtain ⟨k1, k2⟩ := keysI_get es ks hks
                      -- the keys
                      have hkey : ∀ (i : Nat) (m : MapEntry), ms.toList[i]? = some m → ∃ n, ks[i]? = some n ∧ m.key = .int .i64 n ∧ -9223372036854775808 ≤ n ∧ n ≤ 9223372036854775807 := by
                        intro i m hi
                        have hil : i < es.length := by
                          have := (List.getElem?_eq_some_iff.1 hi).1
                          simp at this
                          omega
                        obtain ⟨m', e1, e2, e3⟩ := m3.2 i es[i] (List.getElem?_eq_getElem hil)
                        rw [hi] at e1
                        cases e1
                        obtain ⟨n, f1, f2, f3⟩ := k2 i es[i] (List.getElem?_eq_getElem hil)
                        rw [f2] at e2
                        exact ⟨n, f1, e2.v_inv, f3⟩
                      have hlen : ms.toList.length = ks.length := by simp; omega
                      have hmap : ms.toList.map (·.key) = ks.map fun n => Value.int .i64 n := by
                        refine List.ext_getElem? fun i => ?_
                        rw [List.getElem?_map, List.getElem?_map]
                        cases hi : ms.toList[i]? with
                        | none =>
                          have : ks[i]? = none := List.getElem?_eq_none_iff.2 (by have := List.getElem?_eq_none_iff.1 hi; omega)
                          simp [this]
                        | some m =>
                          obtain ⟨n, f1, f2, _⟩ := hkey i m hi
                          simp [f1, f2]
                      have hrd : ∀ (i : Nat) (m : MapEntry), ms.toList[i]? = some m → ∃ n, ks[i]? = some n ∧ rd P K (fun _ => some ((.nil : DataW Unit), [])) m = some (.int .i64 n, .nil) := by
                        intro i m hi
                        obtain ⟨n, f1, f2, f3, f4⟩ := hkey i m hi
                        refine ⟨n, f1, ?_⟩
                        have hw : (Lit.int .i64 n).wf = true := by
                          simp only [Lit.wf, IntKind.min, IntKind.max, IntKind.signed, IntKind.bits, Bool.and_eq_true, decide_eq_true_eq]
                          constructor <;> simp <;> omega
                        simp only [rd, f2, Go.Maps.keyOf_int_mk hK.key hw]
                        rfl
                      have hfit : Fit P K (fun _ => some ((.nil : DataW Unit), [])) ms ms.size := by
                        refine ⟨?_, ⟨fun x hx => ?_, ?_, ?_⟩, fun x hx => ?_⟩
                        · have : ms.size = ks.length := by simpa using hlen
                          simp only [maxLen]
                          omega
                        · obtain ⟨i, hi⟩ := List.getElem?_of_mem hx
                          have hil : i < es.length := by
                            have := (List.getElem?_eq_some_iff.1 hi).1
                            simp at this
                            omega
                          rw [m4 i x hil (by simpa using hi)]
                          omega
                        · have : ms.toList.map (·.born) = List.range ms.size := by
                            refine List.ext_getElem? fun i => ?_
                            rw [List.getElem?_map]
                            by_cases hil : i < ms.size
                            · have hi : ms.toList[i]? = some ms[i] := by simp [hil]
                              rw [hi, Option.map_some, m4 i _ (by omega) (by simp [hil])]
                              simp [hil]
                            · have : ms.toList[i]? = none := by simp; omega
                              rw [this]
                              simp [hil]
                          rw [this]
                          exact List.nodup_range
                        · rw [hmap]
                          exact List.Pairwise.map _ (fun a b h e => h (by injection e)) ((apartI_iff ks).1 hok.2)
                        · obtain ⟨i, hi⟩ := List.getElem?_of_mem hx
                          obtain ⟨n, _, h3⟩ := hrd i x hi
                          exact ⟨_, h3⟩
                      have hrg : ms.toList.map (rg P K (fun _ => some ((.nil : DataW Unit), []))) = ks.map fun n => (Lit.int .i64 n, .nil) := by
                        refine List.ext_getElem? fun i => ?_
                        rw [List.getElem?_map, List.getElem?_map]
                        cases hi : ms.toList[i]? with
                        | none =>
                          have : ks[i]? = none := List.getElem?_eq_none_iff.2 (by have := List.getElem?_eq_none_iff.1 hi; omega)
                          simp [this]
                        | some m =>
                          obtain ⟨n, f1, f2⟩ := hrd i m hi
                          simp [f1, rg, f2]
                      have hown : w.ownsMap P K (fun _ => some ((.nil : DataW Unit), [])) mb ms.size (.map ((ks.map fun n => (Lit.int .i64 n, (.nil : DataW Unit))).foldr DataW.insert [])) :=
                        ⟨ms, ms.size, m1, hfit, Nat.le_refl _, by rw [hrg]⟩
                      have hperm : (intKeys (.map ((ks.map fun n => (Lit.int .i64 n, (.nil : DataW Unit))).foldr DataW.insert []))).Perm ks := by
                        have h1 := (Go.WideShapes.sorted_perm (ks.map fun n => (Lit.int .i64 n, (.nil : DataW Unit)))).map fun p => intOf p.1
                        have h2 : (ks.map fun n => (Lit.int .i64 n, (.nil : DataW Unit))).map (fun p => intOf p.1) = ks := by
                          rw [List.map_map]
                          have : ((fun p : Lit × DataW Unit => intOf p.1) ∘ fun n => (Lit.int .i64 n, (.nil : DataW Unit))) = id := by
                            funext n; rfl
                          rw [this, List.map_id]
                        rw [h2] at h1
                        exact h1
                      have hsize : Maps.size (DataW.map ((ks.map fun n => (Lit.int .i64 n, (.nil : DataW Unit))).foldr DataW.insert [])) ≤ N := by
                        have h3 := hown.size_le
                        have : ms.size = ks.length := by simpa using hlen
                        omega
                      have hcalls := hK.calls b' mb ms.size _ _ w (Array.getElem?_eq_some_iff.1 a3).1 hcell hown hsize
                      refine .inl ⟨hK.enter _ w, fun n => (callsIn_wide.2 hcalls).mono ?_⟩
                      rintro e w' ⟨v, ss, rfl, hss, hrow, hnil, hbel⟩
                      have hsk := hss.trans hperm
                      have hq := Post.quiet (w' := w') hs hbel.size hbel.block (fun _ h => h) (fun _ _ h => h) (fun b hb => Nat.lt_of_lt_of_le (hs.imlt b hb) hbel.size) ⟨hbel.os, hbel.tape, hbel.output⟩
                      have hlenk := hsk.length_eq
                      rw [sortI_eq hsk] at hrow
                      cases hkk : ks with
                      | nil =>
                        rw [hkk] at hg hlenk
                        simp only [Option.some.injEq, Prod.mk.injEq] at hg
                        obtain ⟨rfl, rfl⟩ := hg
                        have : v = .slice none 0 0 := hnil.2 (List.eq_nil_of_length_eq_zero (by simpa using hlenk))
                        subst this
                        exact ⟨_, ρ, Im, rfl, hq, .v _⟩
                      | cons k0 kt =>
                        rw [hkk] at hg
                        simp only [Option.some.injEq, Prod.mk.injEq] at hg
                        obtain ⟨rfl, rfl⟩ := hg
                        rw [← hkk]
                        rcases hrow.2 with ⟨_, h0⟩ | ⟨g', cap, cur, rfl, hge, hblk, hcap, hmax, hsz, htake⟩
                        · rw [hkk] at hlenk
                          simp at hlenk
                          omega
                        · have hcur : ∀ i, i < (sortI ks).length → gv cur i = .int .i64 ((sortI ks)[i]?.getD 0) := by
                            intro i hi
                            have h5 : (cur.toList.take (ss.length * 1))[i]? = ((sortI ks).map fun n => Value.int .i64 n)[i]? := by rw [htake]
                            have hi' : i < ss.length := by
                              have := (sortI_perm ks).length_eq
                              omega
                            rw [List.getElem?_take, if_pos (by omega), List.getElem?_map, List.getElem?_eq_getElem hi] at h5
                            simp only [Option.map_some] at h5
                            unfold gv
                            rw [← Array.getElem?_toList, h5]
                            simp [hi]
                          have hsl := (sortI_perm ks).length_eq
                          have hobj : RelO P ρ Im w' (.cells ((sortI ks).map fun n => .v (.int .i64 n))) (.cells cur K (0, 0)) := by
                            refine .cells (by simp; omega) (fun i hi => ?_) fun i d hd => ?_
                            · rw [hcur i (by simpa using hi)]
                              rfl
                            · have hi : i < (sortI ks).length := by
                                have := (List.getElem?_eq_some_iff.1 hd).1
                                simpa using this
                              rw [List.getElem?_map, List.getElem?_eq_getElem hi] at hd
                              simp only [Option.map_some, Option.some.injEq] at hd
                              subst hd
                              rw [hcur i hi]
                              simp only [List.getElem?_eq_getElem hi, Option.getD_some]
                              exact .v _
                          obtain ⟨q1, q2⟩ := Post.adopt hs hq hge hblk hobj (fun hi => by have := hs.imlt _ hi; omega)
                          refine ⟨_, _, Im, rfl, q1, ?_⟩
                          rw [hlenk]
                          exact .rs q2 (by omega) (fun k hk => by cases hk) ⟨cur, K, (0, 0), hblk, by omega⟩
            · cases hg
          · cases hg
        · cases hg
      · cases hg
    · cases hg
  · cases hg
end Go.Aug
