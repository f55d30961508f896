/-
The operations that read memory, and those that make a block. Conditions: none.
-/
import Derived.Maps.RangeRun
import Derived.Test.YtlnkifnkamojnaaGreatGB
import Derived.Laws.BytesString
import Derived.Deep.AppendSrc
import Derived.Laws.CopyRow
import Derived.Deep.Upon
namespace Go.Aug
variable {P : Program} {ρ : Ren} {Im : Nat → Prop} {H : Heap} {w : World} {e : Env} {a : Act}
def Has (P : Program) (ρ : Ren) (Im : Nat → Prop) (H : Heap) (w : World) : Prop :=
  ∀ r o, H.get r = some o → ∃ b x, ρ r = some b ∧ w.heap[b]? = some x ∧ RelO P ρ Im w o x
theorem Sim.has (h : Sim P ρ Im H w) : Has P ρ Im H w := fun r o hg => let ⟨b, x, h1, _, h3, h4⟩ := h.obj r o hg; ⟨b, x, h1, h3, h4⟩
theorem cellsAt_ok {x : D} {vx : Value} {l : List D} (hh : Has P ρ Im H w) (hx : Rel ρ Im w x vx) (h : cellsAt H x = some l) :
    ∃ b o, vx = .pointer (some ⟨b, o, none⟩) ∧ ∃ cs : Nat → Value, (∀ i, i < l.length → w.cell? ⟨b, o + i, none⟩ = some (cs i) ∧ (cs i).oneCell' = true) ∧ ∀ (i : Nat) (d : D), l[i]? = some d → Rel ρ Im w d (cs i) := by
  unfold cellsAt at h
  split at h
  · cases h
    cases hx with
    | cp cs hi hr => exact ⟨_, _, rfl, cs, fun i h => (hi i h).2, hr⟩
  · rename_i r off
    split at h
    · rename_i l0 hg
      cases h
      cases hx with
      | rf hren =>
      rename_i b
      obtain ⟨b', x', h1, h2, h3⟩ := hh r _ hg
      obtain rfl : b' = b := by rw [hren] at h1; exact (Option.some.inj h1).symm
      cases h3 with
      | cells hl hone hr =>
      rename_i cs te
      refine ⟨b', off, rfl, fun i => gv cs (off + i), fun i hi => ?_, fun i d hd => ?_⟩
      · rw [List.length_drop] at hi
        refine ⟨?_, hone _ (by omega)⟩
        simp only [World.cell?, h2]
        exact gv_lt (by omega)
      · rw [List.getElem?_drop] at hd
        exact hr _ d hd
    · cases h
  · cases h
theorem run_load_kind {t : TypeId} {k : Option Nat} {b o : Nat} {l : List D} {cs : Nat → Value} {d : D} (hk : kindOf P t = some k)
    (hc : ∀ i, i < l.length → w.cell? ⟨b, o + i, none⟩ = some (cs i) ∧ (cs i).oneCell' = true) (hr : ∀ (i : Nat) (d : D), l[i]? = some d → Rel ρ Im w d (cs i))
    (h : pickL k l = some d) :
    ∃ v, (loadVar t ⟨b, o, none⟩).run P w = .ok v w ∧ Rel ρ Im w d v := by
  cases k with
  | none =>
    simp only [pickL] at h
    obtain ⟨td, hu, hn1, hn2⟩ := kindOf_none hk
    have hlt := (List.getElem?_eq_some_iff.1 h).1
    refine ⟨cs 0, ?_, hr 0 d h⟩
    have h0 := (hc 0 hlt).1
    simp only [Nat.add_zero] at h0
    simp [loadVar, isAgg_scalar hu hn1 hn2, h0]
  | some n =>
    simp only [pickL] at h
    split at h
    · rename_i hle
      cases h
      obtain ⟨hsz, hu⟩ := kindOf_some hk
      have hagg : (isAgg t).run P w = .ok true w := by
        rcases hu with ⟨fs, hu⟩ | ⟨m, e, hu⟩
        · exact isAgg_struct hu
        · exact isAgg_array hu
      have hl : ((List.range n).map cs).length = n := by simp
      have hload := run_loadCells_list (P := P) w ⟨b, o, none⟩ ((List.range n).map cs) (fun j v hv => by
        rw [List.getElem?_map] at hv
        cases hj : (List.range n)[j]? with
        | none => simp [hj] at hv
        | some q =>
          obtain ⟨h1, h2⟩ := List.getElem?_eq_some_iff.1 hj
          simp only [List.length_range] at h1
          simp only [List.getElem_range] at h2
          subst h2
          simp only [hj, Option.map_some, Option.some.injEq] at hv
          subst hv
          rw [add_none]
          exact (hc j (by omega)).1)
      rw [hl] at hload
      refine ⟨.agg ((List.range n).map cs).toArray, ?_, .agg ?_ (fun i hi => ?_) (fun i d hd => ?_)⟩
      · simp only [loadVar, Sem.run_bind, hagg, Result.andThen_ok, if_true, sizeAt_run hsz, hload, Sem.run_pure]
      · simp; omega
      · have hin : i < n := by simpa using hi
        have : gv ((List.range n).map cs).toArray i = cs i := by simp [gv, hin]
        rw [this]
        exact (hc i (by omega)).2
      · rw [List.getElem?_take] at hd
        split at hd
        · rename_i hin
          have : gv ((List.range n).map cs).toArray i = cs i := by simp [gv, hin]
          rw [this]
          exact hr i d hd
        · cases hd
    · cases h
def KeyAt (P : Program) (t : TypeId) (ck : CK) : Prop :=
  match ck with
  | .int => ∃ q, P.underlying t = some (.int q)
  | .text => P.underlying t = some .string
  | .bool => P.underlying t = some .bool
  | .row ks => kindsOf P 2 t = some (ks.map K0.ck) ∧ ∃ fs : Array Field, P.underlying t = some (.struct fs) ∧ rowKs P fs.toList.length fs.toList = some ks
def KeyVal (ck : CK) (v : Value) : Prop :=
  match ck with
  | .row ks => ∃ cs : Array Value, v = .agg cs ∧ cs.size = ks.length
  | _ => True
theorem keyKind_at {t : TypeId} {ck : CK} (h : keyKind P t = some ck) : KeyAt P t ck := by
  unfold keyKind at h
  split at h
  · rename_i q hu; cases h; exact ⟨q, hu⟩
  · rename_i hu; cases h; exact hu
  · rename_i hu; cases h; exact hu
  · rename_i fs hu
    split at h
    · rename_i ks hks
      split at h
      · rename_i hk
        cases h
        exact ⟨hk, fs, hu, hks⟩
      · cases h
    · cases h
  · cases h
theorem rowKs_length : ∀ {n : Nat} {fs : List Field} {ks : List K0}, rowKs P n fs = some ks → ks.length = fs.length
  | _, [], ks, h => by
    simp only [rowKs, Option.some.injEq] at h
    subst h
    rfl
  | n, f :: fs, ks, h => by
    simp only [rowKs] at h
    split at h
    · split at h <;> first
        | (rename_i h1 h2; cases h; simp [rowKs_length h2]; done)
        | cases h
    · cases h
theorem rowOk_length : ∀ {ks : List K0} {l : List D}, rowOk ks l = true → l.length = ks.length
  | [], [], _ => rfl
  | [], _ :: _, h => by simp [rowOk] at h
  | _ :: _, [], h => by simp [rowOk] at h
  | k :: ks, d :: l, h => by
    simp only [rowOk] at h
    split at h <;> first
      | (simp [rowOk_length h]; done)
      | cases h
theorem keyVal_of {ck : CK} {k : D} {v : Value} (h : keyOk ck k = true) (hr : Rel ρ Im w k v) : KeyVal ck v := by
  cases ck with
  | row ks =>
    unfold keyOk at h
    split at h
    · simp_all
    · simp_all
    · simp_all
    · rename_i ks' l heq
      cases heq
      obtain ⟨cs, rfl, hl, -⟩ := hr.agg_inv
      exact ⟨cs, rfl, by rw [← hl]; exact rowOk_length h⟩
    · cases h
  | _ => trivial
theorem KeyAt.td {t : TypeId} {ck : CK} (h : KeyAt P t ck) (hn : ∀ ks, ck ≠ .row ks) : ∃ td, P.underlying t = some td ∧ (td = .string ∨ td = .bool ∨ ∃ q, td = .int q) := by
  cases ck with
  | row ks => exact absurd rfl (hn ks)
  | int => obtain ⟨q, h⟩ : ∃ q, P.underlying t = some (.int q) := h; exact ⟨_, h, .inr (.inr ⟨q, rfl⟩)⟩
  | text => exact ⟨_, h, .inl rfl⟩
  | bool => exact ⟨_, h, .inr (.inl rfl)⟩
theorem KeyAt.und {t : TypeId} {ck : CK} (h : KeyAt P t ck) : ∃ td, P.underlying t = some td := by
  cases ck with
  | row ks => obtain ⟨-, fs, hu, -⟩ := h; exact ⟨_, hu⟩
  | int => obtain ⟨q, h⟩ : ∃ q, P.underlying t = some (.int q) := h; exact ⟨_, h⟩
  | text => exact ⟨_, h⟩
  | bool => exact ⟨_, h⟩
theorem run_checkKey {t : TypeId} {ck : CK} (h : KeyAt P t ck) (em : Bool) (n : Nat) (v : Value) (hv : KeyVal ck v) : (Instr.checkKey em (n + 1 + 1) t v).run P w = .ok () w := by
  by_cases hr : ∃ ks, ck = .row ks
  · obtain ⟨ks, rfl⟩ := hr
    obtain ⟨-, fs, hu, hks⟩ := h
    obtain ⟨cs, rfl, hsz⟩ := hv
    rw [Instr.checkKey]
    simp only [Sem.run_bind, run_underlying hu, Result.andThen_ok]
    rw [← Array.forIn_toList]
    have hn : fs.toList.length = cs.size := by rw [hsz, rowKs_length hks]
    rw [hn] at hks
    clear hu hsz hn
    generalize fs.toList = L at hks
    induction L generalizing ks with
    | nil => simp
    | cons f L ih =>
      simp only [rowKs] at hks
      split at hks
      · rename_i hoff
        have step : ∀ td ks', P.underlying f.type = some td → (td = .bool ∨ td = .string ∨ ∃ q, td = .int q) → rowKs P cs.size L = some ks' → (part f.type cs f.offset).run P w = .ok (gv cs f.offset) w ∧ (Instr.checkKey em (n + 1) f.type (gv cs f.offset)).run P w = .ok () w := fun td ks' htd hc hl => by
          refine ⟨run_part_one (P := P) (w := w) (off := f.offset) (cs := cs) htd (by rcases hc with rfl | rfl | ⟨q, rfl⟩ <;> simp) (by rcases hc with rfl | rfl | ⟨q, rfl⟩ <;> simp) hoff, ?_⟩
          rw [Instr.checkKey]
          simp only [Sem.run_bind, run_underlying htd, Result.andThen_ok]
          rcases hc with rfl | rfl | ⟨q, rfl⟩ <;> rfl
        obtain ⟨td, ks', htd, hc, hl⟩ : ∃ td ks', P.underlying f.type = some td ∧ (td = .bool ∨ td = .string ∨ ∃ q, td = .int q) ∧ rowKs P cs.size L = some ks' := by
          split at hks
          · rename_i h1 h2; exact ⟨_, _, h1, .inl rfl, h2⟩
          · rename_i h1 h2; exact ⟨_, _, h1, .inr (.inr ⟨_, rfl⟩), h2⟩
          · rename_i h1 h2; exact ⟨_, _, h1, .inr (.inl rfl), h2⟩
          · cases hks
        obtain ⟨p1, p2⟩ := step td ks' htd hc hl
        have h2 := ih ks' hl
        by_cases hnm : f.name = "_"
        · simp only [List.forIn_cons, Sem.run_bind, hnm, ne_eq, not_true_eq_false, if_false, Result.andThen_ok, Sem.run_pure]
          exact h2
        · simp only [List.forIn_cons, Sem.run_bind, hnm, ne_eq, not_false_eq_true, if_true, Result.andThen_ok, p1, p2, Sem.run_pure]
          exact h2
      · cases hks
  · have hn : ∀ ks, ck ≠ .row ks := fun ks e => hr ⟨ks, e⟩
    obtain ⟨td, hu, hk⟩ := h.td hn
    unfold Instr.checkKey
    rw [Sem.run_bind, run_underlying hu]
    simp only [Result.andThen_ok]
    rcases hk with rfl | rfl | ⟨q, rfl⟩ <;> rfl
theorem bytes_eq {a b : ByteArray} (h : (a.toList == b.toList) = true) : a = b := by
  have h := eq_of_beq h
  rw [ByteArray.toList_eq, ByteArray.toList_eq] at h
  obtain ⟨x⟩ := a
  obtain ⟨y⟩ := b
  simp only at h
  rw [Array.toList_inj] at h
  rw [h]
theorem eqK_same {t : TypeId} {td : TypeDesc} {ck : CK} {k k' : D} {v v' : Value} {b : Bool} (ht : KeyAt P t ck) (hu : P.underlying t = some td) (h : eqK ck k k' = some b) (hr : Rel ρ Im w k v) (hr' : Rel ρ Im w k' v') :
    Instr.sameNow td v v' = some b ∧ (b = true → v = v') := by
  cases ck with
  | row ks => simp [eqK] at h
  | int =>
    obtain ⟨q, hq⟩ : ∃ q, P.underlying t = some (.int q) := ht
    rw [hu] at hq; cases hq
    simp only [eqK] at h
    split at h
    · obtain rfl := hr.v_inv; obtain rfl := hr'.v_inv
      split at h
      · rename_i hkk; cases h; subst hkk; exact ⟨by simp [Instr.sameNow], fun hb => by simp at hb; rw [hb]⟩
      · cases h
    · cases h
  | text =>
    have hq : P.underlying t = some .string := ht
    rw [hu] at hq; cases hq
    simp only [eqK] at h
    split at h
    · obtain rfl := hr.v_inv; obtain rfl := hr'.v_inv
      cases h
      refine ⟨by simp [Instr.sameNow, beq_toListBytes], fun hb => ?_⟩
      rw [bytes_eq hb]
    · cases h
  | bool =>
    have hq : P.underlying t = some .bool := ht
    rw [hu] at hq; cases hq
    simp only [eqK] at h
    split at h
    · obtain rfl := hr.v_inv; obtain rfl := hr'.v_inv
      cases h; exact ⟨by simp [Instr.sameNow], fun hb => by simp at hb; rw [hb]⟩
    · cases h
def Ents (ρ : Ren) (Im : Nat → Prop) (w : World) (es : List (D × D)) (ms : List MapEntry) : Prop :=
  es.length = ms.length ∧ ∀ (i : Nat) (e : D × D), es[i]? = some e → ∃ m, ms[i]? = some m ∧ Rel ρ Im w e.1 m.key ∧ Rel ρ Im w e.2 m.val
theorem Ents.tail {e : D × D} {es : List (D × D)} {m : MapEntry} {ms : List MapEntry} (h : Ents ρ Im w (e :: es) (m :: ms)) : Rel ρ Im w e.1 m.key ∧ Rel ρ Im w e.2 m.val ∧ Ents ρ Im w es ms := by
  obtain ⟨m', h1, h2, h3⟩ := h.2 0 e rfl
  simp only [List.getElem?_cons_zero, Option.some.injEq] at h1
  subst h1
  exact ⟨h2, h3, by simpa using h.1, fun i e he => by simpa using h.2 (i + 1) e (by simpa using he)⟩
theorem eqM_plain {ck : CK} (hn : ∀ ks, ck ≠ .row ks) (x y : D) : eqM ck x y = eqK ck x y := by
  cases ck with
  | row ks => exact absurd rfl (hn ks)
  | _ => rfl
theorem find_ok {t : TypeId} {td : TypeDesc} {ck : CK} {k : D} {v : Value} (hn : ∀ ks, ck ≠ .row ks) (ht : KeyAt P t ck) (hu : P.underlying t = some td) (hr : Rel ρ Im w k v) : ∀ (es : List (D × D)) (ms : List MapEntry) (i : Nat) (r : Option Nat),
    Ents ρ Im w es ms → findD ck k es i = some r →
      (r = none ∧ Instr.findNow td v ms i = some none) ∨
      ∃ j e m, r = some (i + j) ∧ es[j]? = some e ∧ ms[j]? = some m ∧ Instr.findNow td v ms i = some (some (i + j, m.val)) ∧ m.key = v ∧ Rel ρ Im w e.2 m.val
  | [], ms, i, r, he, h => by
    obtain rfl : ms = [] := by cases ms <;> simp_all [Ents]
    simp only [findD, Option.some.injEq] at h
    exact .inl ⟨h.symm, rfl⟩
  | e :: es, ms, i, r, he, h => by
    cases ms with
    | nil => simp [Ents] at he
    | cons m ms =>
      obtain ⟨h1, h2, h3⟩ := he.tail
      simp only [findD] at h
      split at h
      · rename_i hk
        cases h
        rw [eqM_plain hn] at hk
        obtain ⟨hs, hv⟩ := eqK_same ht hu hk hr h1
        exact .inr ⟨0, e, m, rfl, rfl, rfl, by simp [Instr.findNow, hs], (hv rfl).symm, h2⟩
      · rename_i hk
        rw [eqM_plain hn] at hk
        obtain ⟨hs, _⟩ := eqK_same ht hu hk hr h1
        rcases find_ok hn ht hu hr es ms (i + 1) r h3 h with ⟨hn, hf⟩ | ⟨j, e', m', hj, he', hm', hf, hkey, hrel⟩
        · exact .inl ⟨hn, by simp [Instr.findNow, hs, hf]⟩
        · refine .inr ⟨j + 1, e', m', by rw [hj]; congr 1; omega, he', hm', ?_, hkey, hrel⟩
          simp only [Instr.findNow, hs, hf]
          congr 3
          omega
      · cases h
theorem eqL_cells : ∀ (ks : List K0) (x y : List D), x.length = ks.length → y.length = ks.length → eqL (ks.map K0.ck) x y = some true → ∀ (i : Nat) (d d' : D), x[i]? = some d → y[i]? = some d' → ∃ u, d = .v u ∧ d' = .v u
  | [], [], [], _, _, _, i, d, d', h, _ => by simp at h
  | k :: ks, a :: x, b :: y, hx, hy, h, i, d, d', h1, h2 => by
    simp only [List.map_cons, eqL] at h
    split at h
    · rename_i hk
      cases i with
      | succ i => exact eqL_cells ks x y (by simpa using hx) (by simpa using hy) h i d d' (by simpa using h1) (by simpa using h2)
      | zero =>
        simp only [List.getElem?_cons_zero, Option.some.injEq] at h1 h2
        subst h1 h2
        cases k with
        | bool =>
          simp only [K0.ck, eqK] at hk
          split at hk
          · simp only [Option.some.injEq, beq_iff_eq] at hk
            exact ⟨_, rfl, by rw [hk]⟩
          · cases hk
        | int =>
          simp only [K0.ck, eqK] at hk
          split at hk
          · split at hk
            · rename_i hkk
              simp only [Option.some.injEq, beq_iff_eq] at hk
              exact ⟨_, rfl, by rw [hkk, hk]⟩
            · cases hk
          · cases hk
        | text =>
          simp only [K0.ck, eqK] at hk
          split at hk
          · simp only [Option.some.injEq] at hk
            exact ⟨_, rfl, by rw [bytes_eq hk]⟩
          · cases hk
    · cases h
    · cases h
theorem eqM_same {t : TypeId} {ks : List K0} {k k' : D} {v v' : Value} {b : Bool} (ht : KeyAt P t (.row ks)) (h : eqM (.row ks) k k' = some b) (hr : Rel ρ Im w k v) (hr' : Rel ρ Im w k' v') :
    (Op.equal t v v').run P w = .ok b w ∧ (b = true → v = v') := by
  obtain ⟨hks, fs, hu, -⟩ := ht
  simp only [eqM] at h
  split at h
  · rename_i a c
    split at h
    · rename_i hl
      simp only [Bool.and_eq_true, beq_iff_eq] at hl
      obtain ⟨xs, rfl, hx1, -, hx2⟩ := hr.agg_inv
      obtain ⟨ys, rfl, hy1, -, hy2⟩ := hr'.agg_inv
      have told : ∀ {l : List D} {cs : Array Value}, l.length = cs.size → (∀ (i : Nat) (d : D), l[i]? = some d → Rel ρ Im w d (gv cs i)) → Told ρ Im w (ks.map K0.ck).length l cs := fun h1 h2 i hi d hd => ⟨by
        have := (List.getElem?_eq_some_iff.1 hd).1
        omega, h2 i d hd⟩
      refine ⟨?_, fun hb => ?_⟩
      · have := kindsOf_run (P := P) (ρ := ρ) (Im := Im) (w := w) 2 t (ks.map K0.ck) hks 9998 a c xs ys b (told hx1 hx2) (told hy1 hy2) h
        simp only [ofCells, hu] at this
        exact this
      · subst hb
        congr 1
        apply Array.ext
        · omega
        · intro i h1 h2
          obtain ⟨d, hd⟩ : ∃ d, a[i]? = some d := ⟨_, List.getElem?_eq_getElem (by omega)⟩
          obtain ⟨d', hd'⟩ : ∃ d, c[i]? = some d := ⟨_, List.getElem?_eq_getElem (by omega)⟩
          obtain ⟨u, rfl, rfl⟩ := eqL_cells ks a c hl.1 hl.2 h i d d' hd hd'
          have e1 := (hx2 i _ hd).v_inv
          have e2 := (hy2 i _ hd').v_inv
          simp only [gv, Array.getElem?_eq_getElem h1, Array.getElem?_eq_getElem h2, Option.getD_some] at e1 e2
          rw [e1, e2]
    · cases h
  · cases h
theorem findAsk_ok {t : TypeId} {ks : List K0} {k : D} {v : Value} (ht : KeyAt P t (.row ks)) (hr : Rel ρ Im w k v) : ∀ (es : List (D × D)) (ms : List MapEntry) (i : Nat) (r : Option Nat),
    Ents ρ Im w es ms → findD (.row ks) k es i = some r →
      (r = none ∧ (Instr.findAsking t v ms i).run P w = .ok none w) ∨
      ∃ j e m, r = some (i + j) ∧ es[j]? = some e ∧ ms[j]? = some m ∧ (Instr.findAsking t v ms i).run P w = .ok (some (i + j, m.val)) w ∧ m.key = v ∧ Rel ρ Im w e.2 m.val
  | [], ms, i, r, he, h => by
    obtain rfl : ms = [] := by cases ms <;> simp_all [Ents]
    simp only [findD, Option.some.injEq] at h
    exact .inl ⟨h.symm, by simp [Instr.findAsking]⟩
  | e :: es, ms, i, r, he, h => by
    cases ms with
    | nil => simp [Ents] at he
    | cons m ms =>
      obtain ⟨h1, h2, h3⟩ := he.tail
      simp only [findD] at h
      split at h
      · rename_i hk
        cases h
        obtain ⟨hs, hv⟩ := eqM_same ht hk hr h1
        exact .inr ⟨0, e, m, rfl, rfl, rfl, by simp [Instr.findAsking, hs], (hv rfl).symm, h2⟩
      · rename_i hk
        obtain ⟨hs, _⟩ := eqM_same ht hk hr h1
        rcases findAsk_ok ht hr es ms (i + 1) r h3 h with ⟨hn, hf⟩ | ⟨j, e', m', hj, he', hm', hf, hkey, hrel⟩
        · exact .inl ⟨hn, by simp [Instr.findAsking, hs, hf]⟩
        · refine .inr ⟨j + 1, e', m', by rw [hj]; congr 1; omega, he', hm', ?_, hkey, hrel⟩
          simp only [Instr.findAsking, Sem.run_bind, hs, Result.andThen_ok, Bool.false_eq_true, if_false, hf]
          congr 3
          omega
      · cases h
theorem run_findKey {t : TypeId} {ck : CK} {k : D} {v : Value} {es : List (D × D)} {ms : List MapEntry} {r : Option Nat} (ht : KeyAt P t ck) (hr : Rel ρ Im w k v) (he : Ents ρ Im w es ms) (h : findD ck k es 0 = some r) :
    (r = none ∧ (Instr.findKey t v ms).run P w = .ok none w) ∨
      ∃ j e m, r = some j ∧ es[j]? = some e ∧ ms[j]? = some m ∧ (Instr.findKey t v ms).run P w = .ok (some (j, m.val)) w ∧ m.key = v ∧ Rel ρ Im w e.2 m.val := by
  by_cases hrow : ∃ ks, ck = .row ks
  · obtain ⟨ks, rfl⟩ := hrow
    obtain ⟨fs, hu⟩ : ∃ fs : Array Field, P.underlying t = some (.struct fs) := let ⟨_, fs, hu, _⟩ := ht; ⟨fs, hu⟩
    have hask : (Instr.findKey t v ms).run P w = (Instr.findAsking t v ms 0).run P w := by
      cases ms with
      | nil => simp [Instr.findKey, Instr.findNow, Instr.findAsking, run_underlying hu]
      | cons m ms => simp [Instr.findKey, Instr.findNow, Instr.sameNow, run_underlying hu]
    rw [hask]
    rcases findAsk_ok ht hr es ms 0 r he h with ⟨hn, hf⟩ | ⟨j, e, m, hj, he', hm', hf, hkey, hrel⟩
    · exact .inl ⟨hn, hf⟩
    · simp only [Nat.zero_add] at hj hf
      exact .inr ⟨j, e, m, hj, he', hm', hf, hkey, hrel⟩
  have hn : ∀ ks, ck ≠ .row ks := fun ks e => hrow ⟨ks, e⟩
  obtain ⟨td, hu, _⟩ := ht.td hn
  rcases find_ok hn ht hu hr es ms 0 r he h with ⟨hn, hf⟩ | ⟨j, e, m, hj, he', hm', hf, hkey, hrel⟩
  · exact .inl ⟨hn, by simp [Instr.findKey, run_underlying hu, hf]⟩
  · simp only [Nat.zero_add] at hj hf
    exact .inr ⟨j, e, m, hj, he', hm', by simp [Instr.findKey, run_underlying hu, hf], hkey, hrel⟩
theorem mapAt_ok {x : D} {vx : Value} {es : List (D × D)} (hh : Has P ρ Im H w) (hx : Rel ρ Im w x vx) (h : mapAt H x = some es) :
    (vx = .map none ∧ es = []) ∨ ∃ b ms, vx = .map (some b) ∧ w.heap[b]? = some (.map ms ms.size) ∧ Ents ρ Im w es ms.toList := by
  unfold mapAt at h
  split at h
  · obtain rfl := hx.v_inv; cases h; exact .inl ⟨rfl, rfl⟩
  · rename_i r
    split at h
    · rename_i es' hg
      cases h
      cases hx with
      | mp hren =>
      rename_i b
      obtain ⟨b', x', h1, h2, h3⟩ := hh r _ hg
      obtain rfl : b' = b := by rw [hren] at h1; exact (Option.some.inj h1).symm
      cases h3 with
      | map hl hr =>
      rename_i ms
      exact .inr ⟨b', ms, rfl, h2, by simpa using hl, fun i e he => let ⟨m, a, _, c, d⟩ := hr i e he; ⟨m, by simpa using a, c, d⟩⟩
    · cases h
  · cases h
theorem rel_zeroD {t : TypeId} {z : D} (h : zeroD P t = some z) : ∃ v, (∀ w' : World, (zeroValue t).run P w' = .ok v w') ∧ Rel ρ Im w z v := by
  unfold zeroD at h
  split at h
  · rename_i i hi
    simp only [Option.map_eq_some_iff] at h
    obtain ⟨v, hv, rfl⟩ := h
    exact ⟨v, fun w' => by simp [zeroValue, typeInfo, hi, hv], rel_ofV v⟩
  · cases h
theorem run_mlook {t key elem : TypeId} {ck : CK} {z : D} {ok : Bool} {m k d : D} {vm vk : Value} (hu : P.underlying t = some (.map key elem)) (hz : zeroD P elem = some z) (hck : keyKind P key = some ck)
    (hh : Has P ρ Im H w) (hm : Rel ρ Im w m vm) (hk : Rel ρ Im w k vk) (h : evMlook H ck z ok m k = some d) :
    ∃ v, (Instr.lookup t vm vk ok).run P w = .ok v w ∧ Rel ρ Im w d v := by
  have hat := keyKind_at hck
  obtain ⟨zv, hzr, hzrel⟩ := rel_zeroD (ρ := ρ) (Im := Im) (w := w) hz
  have two : ∀ {x : D} {v : Value} (b : Bool), Rel ρ Im w x v → Rel ρ Im w (.tup [x, .v (.bool b)]) (.tuple #[v, .bool b]) := by
    intro x v b hx
    refine .tup rfl fun i d hd => ?_
    match i, hd with
    | 0, hd => simp at hd; subst hd; simpa [gv] using hx
    | 1, hd => simp at hd; subst hd; exact .v _
    | i + 2, hd => simp at hd
  unfold evMlook at h
  split at h
  · cases h
  · rename_i es hes
    split at h
    · rename_i hko
      have hchk : ∀ em w', (Instr.checkKey em 10000 key vk).run P w' = .ok () w' := fun em w' => run_checkKey hat em 9998 vk (keyVal_of hko hk)
      split at h
      · cases h
      · rename_i hf
        cases h
        rcases mapAt_ok hh hm hes with ⟨rfl, rfl⟩ | ⟨b, ms, rfl, hb, hents⟩
        · cases ok
          · exact ⟨zv, by simp [Instr.lookup, run_underlying hu, hchk, Instr.findKey, Instr.findNow, run_underlying hat.und.choose_spec, hzr], hzrel⟩
          · exact ⟨_, by simp [Instr.lookup, run_underlying hu, hchk, Instr.findKey, Instr.findNow, run_underlying hat.und.choose_spec, hzr], two false hzrel⟩
        · have hget : ∀ w', w'.heap[b]? = some (Obj.map ms ms.size) → (getObj b).run P w' = .ok (.map ms ms.size) w' := fun w' h => by simp [getObj, Sem.run, h]
          rcases run_findKey hat hk hents hf with ⟨_, hr⟩ | ⟨j, e, m', hj, _⟩
          · cases ok
            · exact ⟨zv, by simp [Instr.lookup, run_underlying hu, hget w hb, hchk, hr, hzr], hzrel⟩
            · exact ⟨_, by simp [Instr.lookup, run_underlying hu, hget w hb, hchk, hr, hzr], two false hzrel⟩
          · cases hj
      · rename_i i hf
        split at h
        · rename_i e he
          cases h
          rcases mapAt_ok hh hm hes with ⟨rfl, rfl⟩ | ⟨b, ms, rfl, hb, hents⟩
          · simp at he
          · have hget : ∀ w', w'.heap[b]? = some (Obj.map ms ms.size) → (getObj b).run P w' = .ok (.map ms ms.size) w' := fun w' h => by simp [getObj, Sem.run, h]
            rcases run_findKey hat hk hents hf with ⟨hn, _⟩ | ⟨j, e', m', hj, he', hm', hr, hkey, hrel⟩
            · cases hn
            · cases hj
              rw [he] at he'
              cases he'
              cases ok
              · exact ⟨m'.val, by simp [Instr.lookup, run_underlying hu, hget w hb, hchk, hr], hrel⟩
              · exact ⟨_, by simp [Instr.lookup, run_underlying hu, hget w hb, hchk, hr], two true hrel⟩
        · cases h
    · cases h
theorem run_mlen {t key elem : TypeId} {at_ : Array TypeId} {ty : TypeId} {m d : D} {vm : Value} {vs : Array Value} (h0 : at_[0]? = some t) (hu : P.underlying t = some (.map key elem))
    (hh : Has P ρ Im H w) (hm : Rel ρ Im w m vm) (h : evMlen H m = some d) (hvs : vs[0]? = some vm) : ∃ v, (Builtin.len_ at_ ty vs).run P w = .ok v w ∧ Rel ρ Im w d v := by
  unfold evMlen at h
  split at h
  · rename_i es hes
    cases h
    rcases mapAt_ok hh hm hes with ⟨rfl, rfl⟩ | ⟨b, ms, rfl, hb, hents⟩
    · exact ⟨_, by simp [Builtin.len_, h0, hvs, run_underlying hu, goInt], .v _⟩
    · have hget : (getObj b).run P w = .ok (.map ms ms.size) w := by simp [getObj, Sem.run, hb]
      have hl : ms.size = es.length := by have := hents.1; simp at this; omega
      exact ⟨_, by simp [Builtin.len_, h0, hvs, run_underlying hu, hget, goInt, hl], .v _⟩
  · cases h
theorem rel_pair {x y : D} {u v : Value} (hx : Rel ρ Im w x u) (hy : Rel ρ Im w y v) : Rel ρ Im w (.tup [x, y]) (.tuple #[u, v]) := by
  refine .tup rfl fun i d hd => ?_
  match i, hd with
  | 0, hd => simp at hd; subst hd; simpa [gv] using hx
  | 1, hd => simp at hd; subst hd; simpa [gv] using hy
  | i + 2, hd => simp at hd
theorem iter_at {r m since clk : Nat} {seen : List Nat} {es : List (D × D)} {v : Value} (hh : Has P ρ Im H w) (hx : Rel ρ Im w (.rf r 0) v) (hg : H.get r = some (.iter m since clk seen)) (hm : H.get m = some (.map es)) :
    ∃ b bm sa ms, v = .pointer (some ⟨b, 0, none⟩) ∧ ρ r = some b ∧ ρ m = some bm ∧ w.heap[b]? = some (.mapIter (some bm) since sa clk) ∧ sa.toList = seen ∧ w.heap[bm]? = some (.map ms ms.size) ∧ es.length = ms.size ∧
      ∀ (i : Nat) (e : D × D), es[i]? = some e → ∃ m, ms[i]? = some m ∧ m.born = i ∧ Rel ρ Im w e.1 m.key ∧ Rel ρ Im w e.2 m.val := by
  cases hx with
  | rf hren =>
  rename_i b
  obtain ⟨b', x', h1, h2, h3⟩ := hh r _ hg
  obtain rfl : b' = b := by rw [hren] at h1; exact (Option.some.inj h1).symm
  cases h3 with
  | iter hbm hsa =>
  rename_i bm sa
  obtain ⟨b2, x2, g1, g2, g3⟩ := hh m _ hm
  obtain rfl : b2 = bm := by rw [hbm] at g1; exact (Option.some.inj g1).symm
  cases g3 with
  | map hl hr =>
  rename_i ms
  exact ⟨b', b2, sa, ms, rfl, hren, hbm, h2, hsa, g2, hl, hr⟩
theorem born_nodup {es : List (D × D)} {ms : Array MapEntry} (hl : es.length = ms.size) (hr : ∀ (i : Nat) (e : D × D), es[i]? = some e → ∃ m, ms[i]? = some m ∧ m.born = i ∧ Rel ρ Im w e.1 m.key ∧ Rel ρ Im w e.2 m.val) : ms.toList.map (·.born) = List.range ms.size := by
  apply List.ext_getElem
  · simp
  · intro i h1 h2
    have hi : i < es.length := by simp at h2; omega
    obtain ⟨m, a1, a2, -⟩ := hr i es[i] (List.getElem?_eq_getElem hi)
    have hi2 : i < ms.size := by omega
    rw [Array.getElem?_eq_getElem hi2] at a1
    cases a1
    simp [a2]
theorem run_mcur {it d : D} {vit : Value} (hh : Has P ρ Im H w) (hx : Rel ρ Im w it vit) (h : evMcur H it = some d) : ∃ v, (Instr.entry vit).run P w = .ok v w ∧ Rel ρ Im w d v := by
  unfold evMcur at h
  split at h
  · rename_i r
    split at h
    · rename_i m since clk seen hg
      split at h
      · rename_i es i hm hlast
        split at h
        · rename_i hlen
          split at h
          · rename_i e he
            cases h
            obtain ⟨b, bm, sa, ms, rfl, -, -, h1, h2, h3, h4, h5⟩ := iter_at hh hx hg hm
            obtain ⟨m', a1, a2, a3, a4⟩ := h5 i e he
            obtain ⟨sa', rfl⟩ : ∃ sa' : Array Nat, sa = sa'.push i := by
              obtain ⟨l, hl⟩ : ∃ l, seen = l ++ [i] := List.getLast?_eq_some_iff.1 hlast
              refine ⟨l.toArray, ?_⟩
              apply Array.toList_inj.1
              rw [h2, hl]
              simp
            have hmem : m' ∈ ms.toList := by
              rw [Array.mem_toList_iff]
              exact Array.mem_of_getElem? a1
            have hnd : (ms.toList.map (·.born)).Nodup := by rw [born_nodup h4 h5]; exact List.nodup_range
            have hclk : clk = ms.size := by omega
            rw [← a2, hclk] at h1
            exact ⟨_, run_entry_at (P := P) w b bm since sa' ms ms.size m' h1 h3 hmem hnd, rel_pair a3 a4⟩
          · cases h
        · cases h
      · cases h
    · cases h
  · cases h
theorem bytesL_inv : ∀ {l : List D} {bs : List UInt8}, bytesL l = some bs → ∃ ns : List Int, l = ns.map (fun n => .v (.int .u8 n)) ∧ bs = ns.map fun n => UInt8.ofNat n.toNat
  | [], bs, h => by
    cases h
    exact ⟨[], rfl, rfl⟩
  | d :: l, bs, h => by
    unfold bytesL at h
    split at h
    · rename_i heq; cases heq
    · rename_i n l' heq
      cases heq
      split at h
      · rename_i bs' hb
        cases h
        obtain ⟨ns, h1, h2⟩ := bytesL_inv hb
        exact ⟨n :: ns, by rw [h1]; rfl, by rw [h2]; rfl⟩
      · cases h
    · cases h
theorem push_bytes : ∀ (ns : List Int) (pre : List UInt8), ns.foldl (fun (r : ByteArray) n => r.push (UInt8.ofNat n.toNat)) ⟨pre.toArray⟩ = ⟨(pre ++ ns.map fun n => UInt8.ofNat n.toNat).toArray⟩
  | [], pre => by simp
  | n :: ns, pre => by
    have h1 : (ByteArray.push ⟨pre.toArray⟩ (UInt8.ofNat n.toNat)) = ⟨(pre ++ [UInt8.ofNat n.toNat]).toArray⟩ := by simp [ByteArray.push]
    rw [List.foldl_cons, h1, push_bytes ns (pre ++ [UInt8.ofNat n.toNat])]
    simp
theorem run_bytesD {b o c : Nat} {l : List D} {bs : List UInt8} (hb : bytesL l = some bs) (cs : Nat → Value) (hc : ∀ i, i < l.length → w.cell? ⟨b, o + i, none⟩ = some (cs i)) (hr : ∀ (i : Nat) (d : D), l[i]? = some d → Rel ρ Im w d (cs i)) :
    (Conv.bytesToString (.slice (some ⟨b, o, none⟩) l.length c)).run P w = .ok (.string ⟨bs.toArray⟩) w := by
  obtain ⟨ns, rfl, rfl⟩ := bytesL_inv hb
  have hcs : ∀ i (hi : i < ns.length), cs i = .int .u8 ns[i] := fun i hi => (hr i (.v (.int .u8 ns[i])) (by simp [hi])).v_inv
  have hl := run_loadCells_list (P := P) w ⟨b, o, none⟩ (ns.map (Value.int .u8)) (fun j v hv => by
    rw [List.getElem?_map] at hv
    cases hj : ns[j]? with
    | none => simp [hj] at hv
    | some n =>
      obtain ⟨h1, h2⟩ := List.getElem?_eq_some_iff.1 hj
      simp only [hj, Option.map_some, Option.some.injEq] at hv
      subst hv
      rw [add_none, hc j (by simpa using h1), hcs j h1, h2])
  rw [List.length_map] at hl ⊢
  rw [run_bytesToString w ⟨b, o, none⟩ ns.length c ns hl]
  have := push_bytes ns []
  rw [List.nil_append] at this
  rw [← this]
  rfl
theorem run_convB {s t e : TypeId} {x d : D} {vx : Value} (hs : P.underlying s = some (.slice e)) (he : P.underlying e = some (.int .u8)) (ht : P.underlying t = some .string) (hh : Has P ρ Im H w) (hx : Rel ρ Im w x vx) (h : evConvB H x = some d) :
    ∃ v, (convert s t vx).run P w = .ok v w ∧ Rel ρ Im w d v := by
  unfold evConvB at h
  split at h
  · rename_i n l hf
    split at h
    · rename_i bs hb
      cases h
      refine ⟨.string ⟨bs.toArray⟩, ?_, .v _⟩
      unfold firstD at hf
      simp only at hf
      split at hf
      · cases hf
        obtain rfl := hx.v_inv
        rw [run_convert_bytes_string w s t e none 0 0 hs he ht]
        cases hb
        simp [Conv.bytesToString]
        rfl
      · rename_i m l' cap
        split at hf
        · rename_i hl
          simp only [beq_iff_eq] at hl
          cases hf
          cases hx with
          | sz hc =>
            rename_i a c
            obtain ⟨ab, ao, ap⟩ := a
            rw [run_convert_bytes_string w s t e _ _ _ hs he ht]
            cases hb
            have hl0 := run_loadCells_list (P := P) w ⟨ab, ao, ap⟩ [] (fun j v hv => by simp at hv)
            have := run_bytesToString w ⟨ab, ao, ap⟩ 0 c [] hl0
            rw [this]
            rfl
          | sl cs hn hc hi hr =>
            rename_i b o c
            rw [run_convert_bytes_string w s t e _ _ _ hs he ht]
            have := run_bytesD (P := P) (c := c) hb cs (fun i h => (hi i h).2.1) hr
            rw [hl, Nat.mul_one] at this
            exact this
        · cases hf
      · rename_i r off m cap sz
        split at hf
        · rename_i l' hg
          split at hf
          · rename_i hfit
            cases hf
            cases hx with
            | rs hren hn hc hblk =>
            rename_i b c
            obtain ⟨b', x', h1, h2, h3⟩ := hh r _ hg
            obtain rfl : b' = b := by rw [hren] at h1; exact (Option.some.inj h1).symm
            cases h3 with
            | cells hl hone hr =>
            rename_i cs te
            rw [run_convert_bytes_string w s t e _ _ _ hs he ht]
            have hlen : ((l'.drop off).take (n * 1)).length = n := by simp; omega
            have := run_bytesD (P := P) (w := w) (b := b') (o := off) (c := c) hb (fun i => gv cs (off + i)) (fun i hi => by
              have hi' : i < n := by rw [hlen] at hi; exact hi
              have hlt : off + i < cs.size := by omega
              simp only [World.cell?, h2]
              exact gv_lt hlt) (fun i d hd => by
                rw [List.getElem?_take] at hd
                split at hd
                · rw [List.getElem?_drop] at hd
                  exact hr _ d hd
                · cases hd)
            rw [hlen] at this
            exact this
          · cases hf
        · cases hf
      · cases hf
    · cases h
  · cases h
theorem reads_ok {o : Oper} {aop : AOp} {call : CallF} {H' : Heap} {d : D} (hc : compOp P o.op = (aop, .reads)) (he : evOp call e H aop = some (d, H')) (hr : RelL ρ Im w e a.tmps) (hh : Has P ρ Im H w) :
    H' = H ∧ ∃ v, (execOp a.eval o).run P w = .ok (.value v) w ∧ Rel ρ Im w d v := by
  cases ho : o.op with
  | load t x =>
    simp only [ho, compOp, Prod.mk.injEq, and_true] at hc; subst hc
    split at he
    · rename_i k hk
      refine map_ok (s := Instr.loadAt t (a.eval x)) he (by simp [execOp, ho]) (fun hx => ?_)
      unfold evLoad at hx
      split at hx
      · cases hx
      · rename_i l hl
        obtain ⟨b, q, hv, cs, h1, h2⟩ := cellsAt_ok hh (rel_eval hr x) hl
        obtain ⟨v, hv', hrel⟩ := run_load_kind (P := P) hk h1 h2 hx
        exact ⟨v, by rw [hv]; simp [Instr.loadAt, Instr.sureAddr, hv'], hrel⟩
    · cases he
  | convert s t x =>
    simp only [ho, compOp, Prod.mk.injEq, and_true] at hc; subst hc
    split at he
    · rename_i q k hs ht
      refine map_ok (s := convert s t (a.eval x)) he (by simp [execOp, ho]) (fun hx => ?_)
      have hxr := rel_eval hr x
      unfold evConv at hx
      split at hx
      · rename_i q' n hd
        rw [hd] at hxr
        cases hx
        exact ⟨_, by rw [hxr.v_inv]; simp [convert, run_underlying hs, run_underlying ht, Conv.intToInt], .v _⟩
      · cases hx
    · rename_i q hs ht
      refine map_ok (s := convert s t (a.eval x)) he (by simp [execOp, ho]) (fun hx => ?_)
      have hxr := rel_eval hr x
      unfold evConvI at hx
      split at hx
      · rename_i q' n hd
        rw [hd] at hxr
        cases hx
        exact ⟨_, by rw [hxr.v_inv]; simp [convert, run_underlying hs, run_underlying ht, Conv.intToString], .v _⟩
      · cases hx
    · rename_i q k hs ht
      refine map_ok (s := convert s t (a.eval x)) he (by simp [execOp, ho]) (fun hx => ?_)
      have hxr := rel_eval hr x
      unfold evConvF at hx
      split at hx
      · rename_i q' n hd
        rw [hd] at hxr
        cases hx
        exact ⟨_, by rw [hxr.v_inv]; simp [convert, run_underlying hs, run_underlying ht, Conv.intToFloat], .v _⟩
      · cases hx
    · rename_i el hs ht
      split at he
      · rename_i hel
        refine map_ok (s := convert s t (a.eval x)) he (by simp [execOp, ho]) (fun hx => ?_)
        exact run_convB hs hel ht hh (rel_eval hr x) hx
      · cases he
    · cases he
  | entry it =>
    simp only [ho, compOp, Prod.mk.injEq, and_true] at hc; subst hc
    exact map_ok (s := Instr.entry (a.eval it)) he (by simp [execOp, ho]) (fun hx => run_mcur hh (rel_eval hr it) hx)
  | lookup t m k ok =>
    simp only [ho, compOp, Prod.mk.injEq, and_true] at hc; subst hc
    split at he
    · rename_i key elem hu
      split at he
      · rename_i z ck hz hck
        exact map_ok (s := Instr.lookup t (a.eval m) (a.eval k) ok) he (by simp [execOp, ho]) (fun hx => run_mlook hu hz hck hh (rel_eval hr m) (rel_eval hr k) hx)
      · cases he
    · cases he
  | makeMap t r => cases r <;> simp only [ho, compOp, Prod.mk.injEq, reduceCtorEq, and_false] at hc
  | call c =>
    simp only [ho, compOp, compCall] at hc
    split at hc
    · cases hc
    · cases hc
    · cases hc
    · rename_i b hb
      split at hc
      · rename_i t tl x xl hat hxs
        have h0 : c.argTypes[0]? = some t := by rw [← Array.getElem?_toList, hat]; rfl
        have hx0 : (c.args.map a.eval)[0]? = some (a.eval x) := by rw [Array.getElem?_map, ← Array.getElem?_toList, hxs]; rfl
        split at hc
        · cases hc
        · cases hc
        · rename_i ke el hu
          cases hc
          exact map_ok (s := Builtin.len_ c.argTypes o.type (c.args.map a.eval)) he (by simp [execOp, ho, resolve, hb, invoke, builtin]) (fun hx => run_mlen h0 hu hh (rel_eval hr x) hx hx0)
        · cases hc
      all_goals (first | cases hc | (repeat' (split at hc)) <;> cases hc)
  | _ => simp only [ho, compOp, Prod.mk.injEq, reduceCtorEq, and_false] at hc
end Go.Aug
namespace Go.Aug
variable {P : Program} {ρ : Ren} {Im : Nat → Prop} {H : Heap} {w : World} {e : Env} {a : Act}
theorem times_length (n : Nat) (z : List D) : (times n z).length = n * z.length := by
  induction n with
  | zero => simp [times]
  | succ n ih => simp [times, ih, Nat.add_mul]; omega
theorem times_get (z : List D) : ∀ (n i : Nat), i < n * z.length → (times n z)[i]? = z[i % z.length]? := by
  intro n
  induction n with
  | zero => intro i h; simp at h
  | succ n ih =>
    intro i h
    simp only [times]
    by_cases hi : i < z.length
    · rw [List.getElem?_append_left hi, Nat.mod_eq_of_lt hi]
    · have hle : z.length ≤ i := by omega
      rw [List.getElem?_append_right hle, ih (i - z.length) (by rw [Nat.add_mul] at h; omega)]
      congr 1
      rw [Nat.mod_eq_sub_mod hle]
theorem Cells.mono {ρ' : Ren} {Im' : Nat → Prop} {w' : World} {l : List D} {cs : Array Value} (h : Cells ρ Im w l cs) (hl : Later ρ Im w ρ' Im' w') : Cells ρ' Im' w' l cs :=
  ⟨h.len, h.one, fun i d hd => (h.rel i d hd).mono hl⟩
theorem Cells.obj {l : List D} {cs : Array Value} {t : TypeId} (h : Cells ρ Im w l cs) : RelO P ρ Im w (.cells l) (.cells cs t) :=
  .cells (Nat.le_of_eq h.len) (fun i hi => h.one i (by have := h.len; omega)) h.rel
theorem run_buildSlice {t elem : TypeId} {len n : Nat} {parts : Array (Nat × Value)} {cells zero : Array Value} (hu : P.underlying t = some (.slice elem)) (hsz : (sizeOf elem).run P w = .ok n w)
    (h24 : ¬ len * n > 2 ^ 24) (hz : (len * n = 0 ∧ zero = #[]) ∨ (len * n ≠ 0 ∧ ∃ zv, (zeroValue elem).run P w = .ok zv w ∧ zero = zv.cells))
    (hf : Instr.fill (fun i => some (i * n, n)) ((Array.range (len * n)).map (zero[· % zero.size]!)) parts.toList = some cells) :
    (Instr.buildSlice t len parts).run P w = .ok (.slice (some ⟨w.heap.size, 0, none⟩) len len) (w.alloc (.cells cells elem)) := by
  unfold Instr.buildSlice
  rcases hz with ⟨h0, rfl⟩ | ⟨h0, zv, hzv, rfl⟩
  · simp only [Sem.run_bind, run_underlying hu, Result.andThen_ok, hsz, h24, if_false]
    rw [if_pos h0]
    simp only [Sem.run_bind, Sem.run_pure, Result.andThen_ok, hf]
    rfl
  · simp only [Sem.run_bind, run_underlying hu, Result.andThen_ok, hsz, h24, if_false]
    rw [if_neg h0]
    simp only [Sem.run_bind, hzv, Sem.run_pure, Result.andThen_ok, hf]
    rfl
theorem times_flat (z : List D) : ∀ n : Nat, times n z = (List.replicate n z).flatten
  | 0 => rfl
  | n + 1 => by rw [times, times_flat z n, List.replicate_succ, List.flatten_cons]
theorem run_mksl {t elem : TypeId} {i : TypeInfo} {z : List D} {x d : D} {vx : Value} {H' : Heap} (hu : P.underlying t = some (.slice elem)) (hi : P.info? elem = some i) (hz : zeroOf P elem = some z) (hzl : z.length = i.size) (hpos : 0 < i.size)
    (hx : Rel ρ Im w x vx) (h : evMksl H i.size i.bytes z x = some (d, H')) :
    ∃ ob x v, H' = H.add ob ∧ (Instr.makeSlice t vx vx).run P w = .ok v (w.alloc x) ∧ RelO P ρ Im w ob x ∧ ∀ ρ' : Ren, ρ' H.next = some w.heap.size → Rel ρ' Im (w.alloc x) d v := by
  unfold evMksl at h
  split at h
  · rename_i n hn
    split at h
    · rename_i hc
      cases h
      obtain ⟨h0, hroom⟩ := hc
      simp only [roomOk, Bool.and_eq_true, decide_eq_true_eq] at hroom
      obtain ⟨⟨r1, r2⟩, r3⟩ := hroom
      obtain ⟨k, rfl⟩ := Int.eq_ofNat_of_zero_le h0
      simp only [Int.toNat_natCast] at *
      obtain ⟨i', zv, hi', hzv, hcells⟩ := zeroOf_ok (ρ := ρ) (Im := Im) (w := w) hz
      rw [hi] at hi'
      cases hi'
      have hzs : zv.cells.size = i.size := by have := hcells.len; omega
      have hvx : ∃ q, vx = .int q k := by
        unfold asI at hn
        split at hn
        · cases hn; exact ⟨_, hx.v_inv⟩
        · cases hn
      obtain ⟨q, rfl⟩ := hvx
      have hw : IntKind.i64.wrap (k : Int) = (k : Int) := by
        have : IntKind.i64.wrap (k : Int) = (k : Int) := by
          unfold IntKind.wrap
          simp [IntKind.bits, IntKind.signed]
          omega
        exact this
      have hsz : (sizeOf elem).run P w = .ok i.size w := by simp [sizeOf, typeInfo, hi]
      have hzr : (zeroValue elem).run P w = .ok zv w := by simp [zeroValue, typeInfo, hi, hzv]
      obtain ⟨Z, hZ⟩ : ∃ Z : Array Value, Z = if k * i.size = 0 then #[] else zv.cells := ⟨_, rfl⟩
      obtain ⟨C, hC⟩ : ∃ C : Array Value, C = (Array.range (k * i.size)).map (Z[· % Z.size]!) := ⟨_, rfl⟩
      refine ⟨_, .cells C elem, .slice (some ⟨w.heap.size, 0, none⟩) k k, rfl, ?_, ?_, fun ρ' h => .rs h (Nat.le_refl _) (fun j hj => by simpa using hj) ⟨C, elem, (0, 0), by show (w.heap.push _)[w.heap.size]? = _; simp, by rw [hC]; simp⟩⟩
      · have hbig : ¬ ((k : Int) < 0 ∨ (i.bytes : Int) * (k : Int) > 2 ^ 48) := by
          have : (i.bytes : Int) * (k : Int) ≤ 2 ^ 47 := by
            have h1 : i.bytes * k ≤ 2 ^ 47 := by rw [Nat.mul_comm]; exact r1
            exact_mod_cast h1
          omega
        have hb1 : ¬ (k : Int) < 0 := by omega
        have hb2 : ¬ (2 : Int) ^ 48 < (i.bytes : Int) * (k : Int) := by omega
        by_cases hk : k * i.size = 0
        · rw [if_pos hk] at hZ
          simp [Instr.makeSlice, run_underlying hu, asInt, asIntOf, typeInfo, hi, hw, hb2, newRow, sizeOf, hk, hC, hZ]
          intro hbad
          exact absurd hbad (by omega)
        · rw [if_neg hk] at hZ
          simp [Instr.makeSlice, run_underlying hu, asInt, asIntOf, typeInfo, hi, hw, hb2, newRow, sizeOf, hk, hC, hZ, zeroValue, hzv]
          intro hbad
          exact absurd hbad (by omega)
      · rw [← times_flat, hC, hZ]
        by_cases hk : k * i.size = 0
        · have hk0 : k = 0 := by
            rcases Nat.mul_eq_zero.1 hk with h | h <;> omega
          subst hk0
          exact Cells.obj ⟨by simp [times], fun j hj => by simp at hj, fun j d hd => by simp [times] at hd⟩
        · rw [if_neg hk]
          refine Cells.obj ⟨by rw [times_length, hzl]; simp, fun j hj => ?_, fun j d hd => ?_⟩
          · have hj' : j < k * i.size := by simpa using hj
            have hm : j % zv.cells.size < zv.cells.size := Nat.mod_lt _ (by omega)
            have : gv ((Array.range (k * i.size)).map (zv.cells[· % zv.cells.size]!)) j = gv zv.cells (j % zv.cells.size) := by
              simp [gv, hj', hm]
            rw [this]
            exact hcells.one _ hm
          · have hj' : j < k * i.size := by have := (List.getElem?_eq_some_iff.1 hd).1; rw [times_length, hzl] at this; exact this
            rw [times_get z k j (by rw [hzl]; exact hj')] at hd
            have hlen := hcells.len
            have hm : j % zv.cells.size < zv.cells.size := Nat.mod_lt _ (by omega)
            have : gv ((Array.range (k * i.size)).map (zv.cells[· % zv.cells.size]!)) j = gv zv.cells (j % zv.cells.size) := by
              simp [gv, hj', hm]
            rw [this]
            rw [hlen] at hd
            exact hcells.rel _ d hd
    · cases h
  · cases h
theorem news_ok {o : Oper} {aop : AOp} {call : CallF} {H' : Heap} {d : D} (hc : compOp P o.op = (aop, .news)) (he : evOp call e H aop = some (d, H')) (hr : RelL ρ Im w e a.tmps) :
    ∃ ob x v, H' = H.add ob ∧ (execOp a.eval o).run P w = .ok (.value v) (w.alloc x) ∧ RelO P ρ Im w ob x ∧ ∀ ρ' : Ren, ρ' H.next = some w.heap.size → Rel ρ' Im (w.alloc x) d v := by
  cases ho : o.op with
  | alloc t =>
    simp only [ho, compOp, Prod.mk.injEq, and_true] at hc; subst hc
    split at he
    · rename_i z hz
      simp only [evOp, Option.some.injEq, Prod.mk.injEq] at he
      obtain ⟨rfl, rfl⟩ := he
      obtain ⟨i, zv, hi, hzv, hcells⟩ := zeroOf_ok (ρ := ρ) (Im := Im) (w := w) hz
      refine ⟨_, .cells zv.cells t, .pointer (some ⟨w.heap.size, 0, none⟩), rfl, ?_, hcells.obj, fun ρ' h => .rf h⟩
      simp [execOp, ho, Instr.alloc, zeroValue, typeInfo, hi, hzv, newVar, newRow]
    · cases he
  | box t x =>
    simp only [ho, compOp, Prod.mk.injEq, and_true] at hc; subst hc
    simp only [evOp, Option.map_eq_some_iff, Prod.mk.injEq] at he
    obtain ⟨l, hl, rfl, rfl⟩ := he
    obtain ⟨e1, e2, e3⟩ := cellsOf_rel (rel_eval hr x) hl
    refine ⟨_, .cells (a.eval x).cells t, .pointer (some ⟨w.heap.size, 0, none⟩), rfl, ?_, (Cells.mk e1 e2 e3).obj, fun ρ' h => .rf h⟩
    simp [execOp, ho, Instr.box, newVar, newRow]
  | buildSlice t len parts =>
    simp only [ho, compOp, Prod.mk.injEq, and_true] at hc; subst hc
    split at he
    · rename_i elem hu
      split at he
      · rename_i n z hn hz
        split at he
        · rename_i ps hps
          split at he
          · rename_i hcond
            simp only [Bool.and_eq_true, beq_iff_eq, decide_eq_true_eq] at hcond
            obtain ⟨hzl, hsmall⟩ := hcond
            simp only [evOp, Option.map_eq_some_iff, Prod.mk.injEq] at he
            obtain ⟨l, hl, rfl, rfl⟩ := he
            obtain ⟨i, zv, hi, hzv, hcells⟩ := zeroOf_ok (ρ := ρ) (Im := Im) (w := w) hz
            have hsz : ∀ w', (sizeOf elem).run P w' = .ok n w' := fun w' => sizeAt_run hn
            have hz0 : ∀ zero : Array Value, (len * n ≠ 0 → zero = zv.cells) → Cells ρ Im w (times len z) ((Array.range (len * n)).map (zero[· % zero.size]!)) := by
              intro zero hzero
              refine ⟨by rw [times_length, hzl]; simp, fun j hj => ?_, fun j d hd => ?_⟩
              · have hj' : j < len * n := by simpa using hj
                have hz1 := hzero (by omega)
                subst hz1
                have hpos : 0 < zv.cells.size := by
                  have := hcells.len
                  rcases Nat.eq_zero_or_pos zv.cells.size with h0 | h0
                  · rw [← this, hzl] at h0; simp [h0] at hj'
                  · exact h0
                have hm : j % zv.cells.size < zv.cells.size := Nat.mod_lt _ hpos
                have : gv ((Array.range (len * n)).map (zv.cells[· % zv.cells.size]!)) j = gv zv.cells (j % zv.cells.size) := by
                  simp [gv, hj', hm]
                rw [this]
                exact hcells.one _ hm
              · have hj' : j < len * n := by have := (List.getElem?_eq_some_iff.1 hd).1; rw [times_length, hzl] at this; exact this
                have hz1 := hzero (by omega)
                subst hz1
                rw [times_get z len j (by rw [hzl]; exact hj')] at hd
                have hlen := hcells.len
                have hm : j % zv.cells.size < zv.cells.size := by
                  have := (List.getElem?_eq_some_iff.1 hd).1
                  rwa [hlen] at this
                have : gv ((Array.range (len * n)).map (zv.cells[· % zv.cells.size]!)) j = gv zv.cells (j % zv.cells.size) := by
                  simp [gv, hj', hm]
                rw [this]
                rw [hlen] at hd
                exact hcells.rel _ d hd
            have hpl : (fun i => some (i * n, n)) = (fun i => some (i * n, n)) := rfl
            by_cases h0 : len * n = 0
            · obtain ⟨cs', hf, hc'⟩ := fill_ok (place := fun i => some (i * n, n)) hr parts.toList ps (times len z) l _ hps hl (hz0 #[] (fun h => absurd h0 h))
              have hf' : Instr.fill (fun i => some (i * n, n)) ((Array.range (len * n)).map ((#[] : Array Value)[· % (#[] : Array Value).size]!)) (parts.map fun (i, x) => (i, a.eval x)).toList = some cs' := by
                rw [Array.toList_map]; exact hf
              refine ⟨_, .cells cs' elem, .slice (some ⟨w.heap.size, 0, none⟩) len len, rfl, ?_, hc'.obj, fun ρ' h => .rs h (Nat.le_refl _) (fun k hk => by simpa using hk) ⟨cs', elem, (0, 0), by show (w.heap.push _)[w.heap.size]? = _; simp, ?_⟩⟩
              · have hrun := run_buildSlice (P := P) (w := w) hu (hsz w) (by omega) (.inl ⟨h0, rfl⟩) hf'
                simp only [execOp, ho, Sem.run_bind, hrun]
                rfl
              · have := hc'.len
                have hll : l.length = len * n := by
                  have h2 := (hz0 #[] (fun h => absurd h0 h)).len
                  have h3 := fill_len hl
                  rw [h3, times_length, hzl]
                omega
            · obtain ⟨cs', hf, hc'⟩ := fill_ok (place := fun i => some (i * n, n)) hr parts.toList ps (times len z) l _ hps hl (hz0 zv.cells (fun _ => rfl))
              have hf' : Instr.fill (fun i => some (i * n, n)) ((Array.range (len * n)).map (zv.cells[· % zv.cells.size]!)) (parts.map fun (i, x) => (i, a.eval x)).toList = some cs' := by
                rw [Array.toList_map]; exact hf
              refine ⟨_, .cells cs' elem, .slice (some ⟨w.heap.size, 0, none⟩) len len, rfl, ?_, hc'.obj, fun ρ' h => .rs h (Nat.le_refl _) (fun k hk => by simpa using hk) ⟨cs', elem, (0, 0), by show (w.heap.push _)[w.heap.size]? = _; simp, ?_⟩⟩
              · have hrun := run_buildSlice (P := P) (w := w) hu (hsz w) (by omega) (.inr ⟨h0, zv, by simp [zeroValue, typeInfo, hi, hzv], rfl⟩) hf'
                simp only [execOp, ho, Sem.run_bind, hrun]
                rfl
              · have := hc'.len
                have hll : l.length = len * n := by
                  have h3 := fill_len hl
                  rw [h3, times_length, hzl]
                omega
          · cases he
        · cases he
      · cases he
    · cases he
  | makeMap t r =>
    cases r with
    | none =>
      simp only [ho, compOp, Prod.mk.injEq, and_true] at hc; subst hc
      simp only [evOp, Option.some.injEq, Prod.mk.injEq] at he
      obtain ⟨rfl, rfl⟩ := he
      refine ⟨_, .map #[] 0, .map (some w.heap.size), rfl, ?_, .map (es := []) (ms := #[]) rfl (fun i e he => by simp at he), fun ρ' h => .mp h⟩
      simp [execOp, ho, Instr.makeMap]
    | some r => simp only [ho, compOp, Prod.mk.injEq, reduceCtorEq, and_false] at hc
  | makeSlice t len cap =>
    simp only [ho, compOp, Prod.mk.injEq, and_true] at hc; subst hc
    split at he
    · rename_i elem hu
      split at he
      · rename_i i z hi hz
        split at he
        · rename_i hcond
          obtain ⟨hzl, hpos, hst⟩ := hcond
          have hlc : len = cap := by
            cases len <;> cases cap <;> simp_all [sameTmp]
          subst hlc
          obtain ⟨ob, x, v, h1, h2, h3, h4⟩ := run_mksl (P := P) (w := w) hu hi hz hzl hpos (rel_eval hr len) he
          exact ⟨ob, x, v, h1, by simp [execOp, ho, h2], h3, h4⟩
        · cases he
      · cases he
    · cases he
  | call c =>
    simp only [ho, compOp, compCall] at hc
    repeat' (split at hc)
    all_goals cases hc
  | _ => simp only [ho, compOp, Prod.mk.injEq, reduceCtorEq, and_false] at hc
end Go.Aug
namespace Go.Aug
variable {P : Program} {ρ : Ren} {Im : Nat → Prop} {H : Heap} {w : World} {e : Env} {a : Act}
def splice (cur : Array Value) (k : Nat) (vs : List Value) : Array Value := (cur.toList.take k ++ vs ++ cur.toList.drop (k + vs.length)).toArray
theorem splice_size {cur : Array Value} {k : Nat} {vs : List Value} (h : k + vs.length ≤ cur.size) : (splice cur k vs).size = cur.size := by
  simp [splice]; omega
theorem splice_gv {cur : Array Value} {k : Nat} {vs : List Value} (h : k + vs.length ≤ cur.size) (i : Nat) :
    gv (splice cur k vs) i = if k ≤ i ∧ i < k + vs.length then (vs[i - k]?).getD undef else gv cur i := by
  unfold gv splice
  simp only [List.getElem?_toArray]
  by_cases h1 : i < k
  · rw [if_neg (by omega), List.append_assoc, List.getElem?_append_left (by simp; omega), List.getElem?_take, if_pos h1]
    simp
  · by_cases h2 : i < k + vs.length
    · rw [if_pos (by omega), List.append_assoc, List.getElem?_append_right (by simp; omega), List.getElem?_append_left (by simp; omega)]
      simp only [List.length_take, Array.length_toList]
      rw [show min k cur.size = k from by omega]
    · rw [if_neg (by omega), List.getElem?_append_right (by simp; omega), List.getElem?_drop]
      simp only [List.length_append, List.length_take, Array.length_toList]
      rw [show k + vs.length + (i - (min k cur.size + vs.length)) = i from by omega]
      simp
theorem run_storeAt {t : TypeId} {n : Nat} {b o : Nat} {cur : Array Value} {te : TypeId} {v : Value} (hn : sizeAt P t = some n) (hg : w.heap[b]? = some (.cells cur te (0, 0))) (hl : o + n ≤ cur.size)
    (hv : v.cells.size = n) (h1 : ∀ i, i < v.cells.size → (gv v.cells i).oneCell' = true) :
    (storeVar t ⟨b, o, none⟩ v).run P w = .ok () (w.setRow b (splice cur o v.cells.toList)) := by
  have hst := run_storeCells_at P b o te v.cells.toList 0 cur w hg (by simp; omega) (fun u hu => by
    obtain ⟨i, hi, rfl⟩ := List.getElem_of_mem hu
    have hi' : i < v.cells.size := by simpa using hi
    have := h1 i hi'
    simpa [gv, hi'] using this)
  simp only [Nat.add_zero] at hst
  simp only [storeVar, Sem.run_bind, sizeAt_run hn, Result.andThen_ok, hv, ne_eq, not_true_eq_false, if_false]
  exact hst
theorem Sim.cells {r : Nat} {l : List D} (h : Sim P ρ Im H w) (hg : H.get r = some (.cells l)) {b : Nat} (hb : ρ r = some b) :
    ∃ cs te, w.heap[b]? = some (.cells cs te (0, 0)) ∧ l.length ≤ cs.size ∧ (∀ i, i < l.length → (gv cs i).oneCell' = true) ∧ ∀ (i : Nat) (d : D), l[i]? = some d → Rel ρ Im w d (gv cs i) := by
  obtain ⟨b', x', h1, _, h2, h3⟩ := h.obj r _ hg
  obtain rfl : b' = b := by rw [hb] at h1; exact (Option.some.inj h1).symm
  cases h3 with
  | cells hl hone hr => exact ⟨_, _, h2, hl, hone, hr⟩
theorem Post.splice {r b : Nat} {l c : List D} {cs : Array Value} {te : TypeId} {off : Nat} {vs : List Value} (h : Sim P ρ Im H w) (hg : H.get r = some (.cells l)) (hb : ρ r = some b)
    (hblk : w.heap[b]? = some (.cells cs te (0, 0))) (hl : l.length ≤ cs.size) (hone : ∀ i, i < l.length → (gv cs i).oneCell' = true) (hr : ∀ (i : Nat) (d : D), l[i]? = some d → Rel ρ Im w d (gv cs i))
    (hc : c.length = vs.length) (hfit : off + c.length ≤ l.length) (h1 : ∀ i, i < vs.length → ((vs[i]?).getD undef).oneCell' = true) (hcr : ∀ (i : Nat) (d : D), c[i]? = some d → Rel ρ Im w d ((vs[i]?).getD undef)) :
    Post P ρ Im H w ρ Im (H.set r (.cells (setAll l off c))) (w.setRow b (splice cs off vs)) := by
  have hsz : (Aug.splice cs off vs).size = cs.size := splice_size (by omega)
  refine Post.set h hg hb (x := .cells (Aug.splice cs off vs) te (0, 0)) (.cells (by rw [setAll_length, hsz]; exact hl) (fun i hi => ?_) (fun i d hd => ?_)) (setRow_heap w b cs _ te _ hblk) (fun k hk => setRow_other w b k _ hk) (by simp [World.setRow]) (fun cs0 e0 f0 h0 => ?_) ⟨rfl, rfl, rfl⟩
  · rw [setAll_length] at hi
    rw [splice_gv (by omega)]
    split
    · exact h1 _ (by omega)
    · exact hone i hi
  · rw [setAll_get c l off i hfit] at hd
    rw [splice_gv (by omega)]
    split at hd
    · rw [if_pos (by omega)]
      exact hcr _ d hd
    · rw [if_neg (by omega)]
      exact hr i d hd
  · rw [hblk] at h0
    cases h0
    exact ⟨_, _, rfl, hsz⟩
theorem run_store_ok {t : TypeId} {n : Nat} {x y : D} {vx vy : Value} {H' : Heap} (hs : Sim P ρ Im H w) (hn : sizeAt P t = some n) (hx : Rel ρ Im w x vx) (hy : Rel ρ Im w y vy) (h : evStore H n x y = some H') :
    ∃ w', (Instr.storeAt t vx vy).run P w = .ok () w' ∧ Post P ρ Im H w ρ Im H' w' := by
  unfold evStore at h
  split at h
  · rename_i r off
    split at h
    · rename_i l hg
      split at h
      · rename_i c hc
        split at h
        · rename_i hcond
          simp only [Bool.and_eq_true, beq_iff_eq, decide_eq_true_eq] at hcond
          obtain ⟨hcl, hfit⟩ := hcond
          cases h
          cases hx with
          | rf hren =>
          rename_i b
          obtain ⟨cs, te, hblk, hl, hone, hr⟩ := hs.cells hg hren
          obtain ⟨e1, e2, e3⟩ := cellsOf_rel hy hc
          refine ⟨_, ?_, Post.splice (c := c) (off := off) (vs := vy.cells.toList) hs hg hren hblk hl hone hr (by simpa using e1) (by omega) (fun i hi => ?_) (fun i d hd => ?_)⟩
          · have := run_storeAt (P := P) (o := off) (v := vy) hn hblk (by omega) (by omega) e2
            simpa [Instr.storeAt, Instr.sureAddr] using this
          · have := e2 i (by simpa using hi)
            simpa [gv] using this
          · have := e3 i d hd
            simpa [gv] using this
        · cases h
      · cases h
    · cases h
  · cases h
theorem firstD_ok {text : Bool} {size : Nat} {y : D} {vy : Value} {m : Nat} {new : List D} {tx : TypeId} (hh : Has P ρ Im H w) (hy : Rel ρ Im w y vy) (h : firstD H text size y = some (m, new))
    (htx : if text then P.underlying tx = some .string ∧ size = 1 else ∃ e', P.underlying tx = some (.slice e')) :
    ∃ news : List Value, Src P size tx vy m news w ∧ new.length = news.length ∧ (∀ i, i < news.length → ((news[i]?).getD undef).oneCell' = true) ∧ ∀ (i : Nat) (d : D), new[i]? = some d → Rel ρ Im w d ((news[i]?).getD undef) := by
  have ofFun : ∀ (cs : Nat → Value) (b o n c k : Nat), k = n * size → (∀ i, i < k → w.cell? ⟨b, o + i, none⟩ = some (cs i) ∧ (cs i).oneCell' = true) → (∃ e', P.underlying tx = some (.slice e')) →
      Src P size tx (.slice (some ⟨b, o, none⟩) n c) n ((List.range k).map cs) w ∧ ((List.range k).map cs).length = k ∧ ∀ i, i < k → ((((List.range k).map cs)[i]?).getD undef) = cs i := by
    rintro cs b o n c k rfl hc ⟨e', hk⟩
    refine ⟨Src.ofSlice w hk _ n c _ (by simp) (fun j u hu => ?_) (fun u hu => ?_), by simp, fun i hi => by simp [hi]⟩
    · rw [List.getElem?_map] at hu
      cases hj : (List.range (n * size))[j]? with
      | none => simp [hj] at hu
      | some q =>
        obtain ⟨h1, h2⟩ := List.getElem?_eq_some_iff.1 hj
        simp only [List.length_range] at h1
        simp only [List.getElem_range] at h2
        subst h2
        simp only [hj, Option.map_some, Option.some.injEq] at hu
        subst hu
        rw [add_none]
        exact (hc j h1).1
    · obtain ⟨j, hj, rfl⟩ := List.mem_map.1 hu
      exact (hc j (by simpa using hj)).2
  unfold firstD at h
  split at h
  · simp only [if_true] at htx
    obtain ⟨htx, rfl⟩ := htx
    split at h
    · rename_i s
      obtain rfl := hy.v_inv
      cases h
      have hlen : (byteCells s).length = s.size := byteCells_length s
      refine ⟨byteCells s, Src.ofString w htx s, by simp [byteCells], fun i hi => ?_, fun i d hd => ?_⟩
      · rw [List.getElem?_eq_getElem hi]
        simp [byteCells, Value.oneCell']
      · simp only [byteCells]
        rw [List.getElem?_map] at hd ⊢
        cases hb : s.data.toList[i]? with
        | none => simp [hb] at hd
        | some b => simp only [hb, Option.map_some, Option.some.injEq] at hd; subst hd; exact .v _
    · cases h
  · simp only [Bool.false_eq_true, if_false] at htx
    split at h
    · obtain rfl := hy.v_inv
      cases h
      obtain ⟨e', hk⟩ := htx
      exact ⟨[], Src.ofNil w hk 0, rfl, fun i hi => by simp at hi, fun i d hd => by simp at hd⟩
    · rename_i n l cap
      split at h
      · rename_i hl
        simp only [beq_iff_eq] at hl
        cases h
        cases hy with
        | sz hc =>
          obtain ⟨e', hk⟩ := htx
          exact ⟨[], Src.ofSlice w hk _ _ _ _ (by simp) (fun j u hu => by simp at hu) (fun u hu => by simp at hu), rfl, fun i hi => by simp at hi, fun i d hd => by simp at hd⟩
        | sl cs hn hc hi hr =>
        rename_i b o c
        obtain ⟨s1, s2, s3⟩ := ofFun cs b o m c _ hl (fun i h => (hi i h).2) htx
        refine ⟨_, s1, s2.symm, fun i hi' => ?_, fun i d hd => ?_⟩
        · rw [s2] at hi'; rw [s3 i hi']; exact (hi i hi').2.2
        · rw [s3 i (List.getElem?_eq_some_iff.1 hd).1]; exact hr i d hd
      · cases h
    · rename_i r off n cap sz
      split at h
      · rename_i l hg
        split at h
        · rename_i hfit
          cases h
          cases hy with
          | rs hren hn hc hblk =>
          rename_i b c
          obtain ⟨b', x', h1, h2, h3⟩ := hh r _ hg
          obtain rfl : b' = b := by rw [hren] at h1; exact (Option.some.inj h1).symm
          cases h3 with
          | cells hl hone hr =>
          rename_i cs te
          have hcell : ∀ i, i < m * size → w.cell? ⟨b', off + i, none⟩ = some (gv cs (off + i)) ∧ (gv cs (off + i)).oneCell' = true := fun i hi => by
            refine ⟨?_, hone _ (by omega)⟩
            simp only [World.cell?, h2]
            exact gv_lt (by omega)
          obtain ⟨s1, s2, s3⟩ := ofFun (fun i => gv cs (off + i)) b' off m c (m * size) rfl hcell htx
          refine ⟨_, s1, by rw [s2]; simp; omega, fun i hi' => ?_, fun i d hd => ?_⟩
          · rw [s2] at hi'; rw [s3 i hi']; exact (hcell i hi').2
          · rw [List.getElem?_take] at hd
            split at hd
            · rename_i hin
              rw [s3 i hin]
              rw [List.getElem?_drop] at hd
              exact hr _ d hd
            · cases hd
        · cases h
      · cases h
    · cases h
theorem roomOk_le {bytes n : Nat} (h : roomOk bytes n = true) : n * bytes ≤ 140737488355328 ∧ bytes ≤ 1048576 ∧ n ≤ 140737488355328 := by
  have : (n * bytes ≤ 140737488355328 ∧ bytes ≤ 1048576) ∧ n ≤ 140737488355328 := by simpa [roomOk] using h
  exact ⟨this.1.1, this.1.2, this.2⟩
theorem Post.grown {l news : List D} {olds vs : List Value} {z : Array Value} {te : TypeId} {n _c _size : Nat} (_h : Sim P ρ Im H w) (hl : l.length = olds.length) (hn : news.length = vs.length)
    (h1 : ∀ i, i < olds.length → ((olds[i]?).getD undef).oneCell' = true) (h2 : ∀ i, i < vs.length → ((vs[i]?).getD undef).oneCell' = true)
    (hr1 : ∀ (i : Nat) (d : D), l[i]? = some d → Rel ρ Im w d ((olds[i]?).getD undef)) (hr2 : ∀ (i : Nat) (d : D), news[i]? = some d → Rel ρ Im w d ((vs[i]?).getD undef)) :
    RelO P ρ Im w (.cells (l ++ news)) (.cells ((olds ++ vs).toArray ++ Builtin.zeroCells z n) te) := by
  have hg : ∀ i, i < (l ++ news).length → gv ((olds ++ vs).toArray ++ Builtin.zeroCells z n) i = (((olds ++ vs)[i]?).getD undef) := by
    intro i hi
    simp only [List.length_append] at hi
    unfold gv
    rw [Array.getElem?_append_left (by simp; omega)]
    simp
  refine .cells (by simp; omega) (fun i hi => ?_) (fun i d hd => ?_)
  · rw [hg i hi]
    simp only [List.length_append] at hi
    by_cases hlt : i < olds.length
    · rw [List.getElem?_append_left hlt]; exact h1 i hlt
    · rw [List.getElem?_append_right (by omega)]; exact h2 _ (by omega)
  · have hi := (List.getElem?_eq_some_iff.1 hd).1
    rw [hg i hi]
    simp only [List.length_append] at hi
    by_cases hlt : i < olds.length
    · rw [List.getElem?_append_left hlt]
      rw [List.getElem?_append_left (by omega)] at hd
      exact hr1 i d hd
    · rw [List.getElem?_append_right (by omega)]
      rw [List.getElem?_append_right (by omega), hl] at hd
      exact hr2 _ d hd
theorem run_append_room' (t tx ty te : TypeId) (i : TypeInfo) (ht : P.underlying t = some (.slice te)) (hi : P.info? te = some i) {b off sLen sCap : Nat} {cur : Array Value} {bt : TypeId}
    (hg : w.heap[b]? = some (.cells cur bt (0, 0))) {x : Value} {n : Nat} {news : List Value} (hs : Src P i.size tx x n news w) (hroom : sLen + n ≤ sCap) (hfit : off + sLen * i.size + news.length ≤ cur.size) :
    (Builtin.append_ #[t, tx] ty #[.slice (some ⟨b, off, none⟩) sLen sCap, x]).run P w = .ok (.slice (some ⟨b, off, none⟩) (sLen + n) sCap) (w.setRow b (splice cur (off + sLen * i.size) news)) := by
  have hst := run_storeCells_at P b (off + sLen * i.size) bt news 0 cur w hg (by simpa using hfit) hs.one
  simp only [Nat.add_zero] at hst
  rcases hs.kind with ⟨e', hk⟩ | hk <;> simp [Builtin.append_, run_underlying ht, run_underlying hk, sizeOf, typeInfo, hi, hs.len, hroom, hs.cells, add_none, hst, splice]
theorem grownCap_le' (w : World) (need old : Nat) (te : TypeId) : need ≤ grownCap w need old te := by
  simp only [grownCap, Question.cut]; omega
theorem alloc_new (w : World) (o : Obj) : (w.alloc o).heap[w.heap.size]? = some o := by
  show (w.heap.push o)[w.heap.size]? = some o
  simp
theorem app_grow {t tx ty te : TypeId} {i : TypeInfo} {zv : Value} {base : Option Addr} {n c m : Nat} {olds news : List Value} {l new : List D} {vy : Value} {H1 : Heap} {ρ1 : Ren}
    (hs : Sim P ρ1 Im H1 w) (ht : P.underlying t = some (.slice te)) (hi : P.info? te = some i) (hz : i.zero = some zv) (hzs : zv.cells.size = i.size)
    (hold : (Builtin.firstCells i.size n (.slice base n c)).run P w.drew = .ok olds.toArray w.drew) (hsrc : Src P i.size tx vy m news w) (hlt : c < n + m) (hroom : roomOk i.bytes (n + m) = true)
    (hlo : l.length = olds.length) (hol : olds.length = n * i.size) (hln : new.length = news.length)
    (h1 : ∀ i, i < olds.length → ((olds[i]?).getD undef).oneCell' = true) (h2 : ∀ i, i < news.length → ((news[i]?).getD undef).oneCell' = true)
    (hr1 : ∀ (i : Nat) (d : D), l[i]? = some d → Rel ρ1 Im w d ((olds[i]?).getD undef)) (hr2 : ∀ (i : Nat) (d : D), new[i]? = some d → Rel ρ1 Im w d ((news[i]?).getD undef)) :
    ∃ v w', (Builtin.append_ #[t, tx] ty #[.slice base n c, vy]).run P w = .ok v w' ∧ Post P ρ1 Im H1 w (renAdd ρ1 H1.next w.heap.size) Im (H1.add (.cells (l ++ new))) w' ∧
      Rel (renAdd ρ1 H1.next w.heap.size) Im w' (.rs H1.next 0 (n + m) none i.size) v := by
  obtain ⟨r1, r2, r3⟩ := roomOk_le hroom
  have hrun := run_append_grow_src (P := P) w t tx ty te i zv ht hi hz base n c olds hold vy m news hsrc hlt (by omega) (growslice_fits hlt r1)
  have p1 : Post P ρ1 Im H1 w ρ1 Im H1 w.drew := Post.of_heap hs rfl ⟨rfl, rfl, rfl⟩
  have hobj : RelO P ρ1 Im w.drew (.cells (l ++ new)) (.cells ((olds ++ news).toArray ++ Builtin.zeroCells zv.cells (grownCap w (n + m) c te - (n + m))) te) :=
    (Post.grown (P := P) (n := grownCap w (n + m) c te - (n + m)) (z := zv.cells) (te := te) (_c := 0) (_size := 0) hs hlo hln h1 h2 hr1 hr2).mono p1.later
  obtain ⟨p2, p3⟩ := Post.add p1.sim hobj
  refine ⟨_, _, hrun, p1.trans p2, .rs p3 (grownCap_le' w (n + m) c te) (fun k hk => by cases hk) ⟨_, te, (0, 0), alloc_new w.drew _, ?_⟩⟩
  have hge := grownCap_le' w (n + m) c te
  have hnl := hsrc.newsLen
  simp only [Array.size_append, List.size_toArray, List.length_append, size_zeroCells, hzs, hol, hnl]
  rw [← Nat.add_mul, ← Nat.add_mul]
  rw [show n + m + (grownCap w (n + m) c te - (n + m)) = grownCap w (n + m) c te from by omega]
  omega
theorem firstCells_of {size n c b o : Nat} {cs : Nat → Value} (hc : ∀ i, i < n * size → w.cell? ⟨b, o + i, none⟩ = some (cs i)) (w' : World) (hw : w'.heap = w.heap) :
    (Builtin.firstCells size n (.slice (some ⟨b, o, none⟩) n c)).run P w' = .ok ((List.range (n * size)).map cs).toArray w' := by
  refine run_firstCells_some (P := P) w' size n ⟨b, o, none⟩ n c ((List.range (n * size)).map cs) (by simp) (fun j v hv => ?_)
  rw [List.getElem?_map] at hv
  cases hj : (List.range (n * size))[j]? with
  | none => simp [hj] at hv
  | some q =>
    obtain ⟨h1, h2⟩ := List.getElem?_eq_some_iff.1 hj
    simp only [List.length_range] at h1
    simp only [List.getElem_range] at h2
    subst h2
    simp only [hj, Option.map_some, Option.some.injEq] at hv
    subst hv
    rw [add_none]
    have := hc j h1
    simp only [World.cell?, hw] at this ⊢
    exact this
theorem run_app {t tx ty te : TypeId} {i : TypeInfo} {z : List D} {text : Bool} {x y d : D} {vx vy : Value} {H' : Heap} (hs : Sim P ρ Im H w) (ht : P.underlying t = some (.slice te)) (hi : P.info? te = some i)
    (hz : zeroOf P te = some z) (hzl : z.length = i.size) (htx : if text then P.underlying tx = some .string ∧ i.size = 1 else ∃ e', P.underlying tx = some (.slice e'))
    (hx : Rel ρ Im w x vx) (hy : Rel ρ Im w y vy) (h : evApp H text i.size i.bytes x y = some (d, H')) :
    ∃ v w' ρ', (Builtin.append_ #[t, tx] ty #[vx, vy]).run P w = .ok v w' ∧ Post P ρ Im H w ρ' Im H' w' ∧ Rel ρ' Im w' d v := by
  obtain ⟨i', zv, hi', hzv, hcells⟩ := zeroOf_ok (ρ := ρ) (Im := Im) (w := w) hz
  rw [hi] at hi'
  cases hi'
  have hzs : zv.cells.size = i.size := by have := hcells.len; omega
  unfold evApp at h
  split at h
  · cases h
  · rename_i m new hfirst
    obtain ⟨news, hsrc, hnl, hn1, hnr⟩ := firstD_ok (tx := tx) hs.has hy hfirst htx
    have nothing : m = 0 → ∀ base n c, vx = .slice base n c → n ≤ c → some (x, H) = some (d, H') → ∃ v w' ρ', (Builtin.append_ #[t, tx] ty #[vx, vy]).run P w = .ok v w' ∧ Post P ρ Im H w ρ' Im H' w' ∧ Rel ρ' Im w' d v := by
      rintro rfl base n c rfl hle h
      cases h
      have hn0 : news = [] := by have := hsrc.newsLen; simpa using this
      subst hn0
      exact ⟨_, w, ρ, run_append_nothing (P := P) w t tx ty te i ht hi base n c hle vy hsrc, Post.refl hs, hx⟩
    split at h
    · obtain rfl := hx.v_inv
      split at h
      · rename_i hm
        exact nothing (by simpa using hm) none 0 0 rfl (Nat.le_refl _) h
      · rename_i hm
        have hm : m ≠ 0 := by simpa using hm
        split at h
        · rename_i hroom
          cases h
          have := app_grow (P := P) (ty := ty) (base := none) (n := 0) (c := 0) (olds := []) (l := []) (H1 := H) (ρ1 := ρ) hs ht hi hzv hzs (run_firstCells_none w.drew i.size 0 0 0) hsrc (by omega) (by simpa using hroom) rfl (by simp) hnl (fun i hi => by simp at hi) hn1 (fun i d hd => by simp at hd) hnr
          obtain ⟨v, w', a1, a2, a3⟩ := this
          exact ⟨v, w', _, a1, by simpa using a2, by simpa using a3⟩
        · cases h
    · rename_i n l cap
      cases hx with
      | sz hc =>
        rename_i a c
        split at h
        · rename_i hm
          exact nothing (by simpa using hm) _ 0 c rfl (Nat.zero_le c) h
        · split at h
          · rename_i c0
            split at h
            · rename_i hcond
              simp only [Bool.and_eq_true, decide_eq_true_eq, beq_iff_eq] at hcond
              obtain ⟨⟨hlt, hl⟩, hroom⟩ := hcond
              obtain rfl := hc c0 rfl
              cases h
              have := app_grow (P := P) (ty := ty) (base := some a) (n := 0) (c := c) (olds := []) (l := []) (H1 := H) (ρ1 := ρ) hs ht hi hzv hzs
                (run_firstCells_some (P := P) w.drew i.size 0 a 0 c [] (by simp) (fun j v hv => by simp at hv)) hsrc hlt hroom (by simp) (by simp) hnl (fun i hi => by simp at hi) hn1 (fun i d hd => by simp at hd) hnr
              obtain ⟨v, w', a1, a2, a3⟩ := this
              exact ⟨v, w', _, a1, by simpa using a2, by simpa using a3⟩
            · cases h
          · cases h
      | sl cs hnc hc hcell hr =>
      rename_i b o c
      split at h
      · rename_i hm
        exact nothing (by simpa using hm) _ n c rfl hnc h
      · split at h
        · rename_i c0
          split at h
          · rename_i hcond
            simp only [Bool.and_eq_true, decide_eq_true_eq, beq_iff_eq] at hcond
            obtain ⟨⟨hlt, hl⟩, hroom⟩ := hcond
            obtain rfl := hc c0 rfl
            cases h
            have hget : ∀ j, j < n * i.size → (((List.range (n * i.size)).map cs)[j]?).getD undef = cs j := fun j hj => by simp [hj]
            have := app_grow (P := P) (ty := ty) (base := some ⟨b, o, none⟩) (n := n) (c := c) (olds := (List.range (n * i.size)).map cs) (l := l) (H1 := H) (ρ1 := ρ) hs ht hi hzv hzs
              (firstCells_of (w := w) (fun j hj => (hcell j (by omega)).2.1) w.drew rfl) hsrc hlt hroom (by simp; omega) (by simp) hnl
              (fun j hj => by rw [hget j (by simpa using hj)]; exact (hcell j (by simp at hj; omega)).2.2) hn1
              (fun j d hd => by rw [hget j (by have := (List.getElem?_eq_some_iff.1 hd).1; omega)]; exact hr j d hd) hnr
            obtain ⟨v, w', a1, a2, a3⟩ := this
            exact ⟨v, w', _, a1, a2, a3⟩
          · cases h
        · cases h
    · rename_i r off n cap sz
      cases hx with
      | rs hren hnc hc hblk =>
      rename_i b c
      split at h
      · rename_i hm
        exact nothing (by simpa using hm) _ n c rfl hnc h
      · split at h
        · rename_i hsz
          have hsz : sz = i.size := by simpa using hsz
          subst hsz
          split at h
          · rename_i l hg
            obtain ⟨cs, bt, hheap, hl, hone, hr⟩ := hs.cells hg hren
            obtain ⟨cs', bt', fz', hheap', hfit⟩ := hblk
            rw [hheap] at hheap'
            cases hheap'
            have hnewlen : new.length = m * i.size := by rw [hnl]; exact hsrc.newsLen
            have hcell : ∀ j, j < l.length - off → w.cell? ⟨b, off + j, none⟩ = some (gv cs (off + j)) := fun j hj => by
              simp only [World.cell?, hheap]
              exact gv_lt (by omega)
            have hget : ∀ j, j < n * i.size → (((List.range (n * i.size)).map fun j => gv cs (off + j))[j]?).getD undef = gv cs (off + j) := fun j hj => by simp [hj]
            split at h
            · rename_i c0
              obtain rfl := hc c0 rfl
              split at h
              · rename_i hin
                split at h
                · rename_i hfits
                  cases h
                  have hmul : (n + m) * i.size = n * i.size + m * i.size := Nat.add_mul _ _ _
                  have hrun := run_append_room' (P := P) (w := w) t tx ty te i ht hi (off := off) (sLen := n) (sCap := c) hheap hsrc hin (by omega)
                  have p := Post.splice (P := P) (c := new) (off := off + n * i.size) (vs := news) hs hg hren hheap hl hone hr hnl (by omega) hn1 hnr
                  refine ⟨_, _, ρ, hrun, p, .rs hren hin (fun k hk => by simpa using hk) ⟨_, bt, (0, 0), setRow_heap w b cs _ bt _ hheap, ?_⟩⟩
                  rw [splice_size (by omega)]
                  exact hfit
                · cases h
              · rename_i hnin
                split at h
                · rename_i hcond
                  simp only [Bool.and_eq_true, decide_eq_true_eq] at hcond
                  obtain ⟨hle, hroom⟩ := hcond
                  cases h
                  have := app_grow (P := P) (ty := ty) (base := some ⟨b, off, none⟩) (n := n) (c := c) (olds := (List.range (n * i.size)).map fun j => gv cs (off + j)) (l := (l.drop off).take (n * i.size)) (H1 := H) (ρ1 := ρ) hs ht hi hzv hzs
                    (firstCells_of (w := w) (fun j hj => hcell j (by omega)) w.drew rfl) hsrc (by omega) hroom (by simp; omega) (by simp) hnl
                    (fun j hj => by rw [hget j (by simpa using hj)]; exact hone _ (by simp at hj; omega)) hn1
                    (fun j d hd => by
                      rw [List.getElem?_take] at hd
                      split at hd
                      · rename_i hj
                        rw [hget j hj]
                        rw [List.getElem?_drop] at hd
                        exact hr _ d hd
                      · cases hd) hnr
                  obtain ⟨v, w', a1, a2, a3⟩ := this
                  exact ⟨v, w', _, a1, a2, a3⟩
                · cases h
            · have key : off = 0 → n * i.size ≤ l.length → roomOk i.bytes (n + m) = true → d = .rs H.next 0 (n + m) none i.size → H' = (H.del r).add (.cells (l.take (n * i.size) ++ new)) →
                  ∃ v w' ρ', (Builtin.append_ #[t, tx] ty #[.slice (some ⟨b, off, none⟩) n c, vy]).run P w = .ok v w' ∧ Post P ρ Im H w ρ' Im H' w' ∧ Rel ρ' Im w' d v := by
                rintro hoff hln hroom rfl rfl
                subst hoff
                have htl : (l.take (n * i.size)).length = n * i.size := by simp; omega
                have hmul : (n + m) * i.size = n * i.size + m * i.size := Nat.add_mul _ _ _
                have hrt : ∀ (j : Nat) (d : D), (l.take (n * i.size))[j]? = some d → Rel ρ Im w d (gv cs j) := fun j d hd => by
                  rw [List.getElem?_take] at hd
                  split at hd
                  · exact hr j d hd
                  · cases hd
                by_cases hin : n + m ≤ c
                · have hcm : (n + m) * i.size ≤ c * i.size := Nat.mul_le_mul_right _ hin
                  have hrun := run_append_room' (P := P) (w := w) t tx ty te i ht hi (off := 0) (sLen := n) (sCap := c) hheap hsrc hin (by omega)
                  have hss : (splice cs (0 + n * i.size) news).size = cs.size := splice_size (by omega)
                  have hobj : RelO P ρ Im w (.cells (l.take (n * i.size) ++ new)) (.cells (splice cs (0 + n * i.size) news) bt (0, 0)) := by
                    refine .cells (by rw [hss, List.length_append, htl]; omega) (fun j hj => ?_) (fun j d hd => ?_)
                    · rw [List.length_append, htl] at hj
                      rw [splice_gv (by omega)]
                      split
                      · exact hn1 _ (by omega)
                      · exact hone _ (by omega)
                    · have hj := (List.getElem?_eq_some_iff.1 hd).1
                      rw [List.length_append, htl] at hj
                      rw [splice_gv (by omega)]
                      split
                      · rw [List.getElem?_append_right (by omega)] at hd
                        rw [show j - (0 + n * i.size) = j - (l.take (n * i.size)).length from by omega]
                        exact hnr _ d hd
                      · rw [List.getElem?_append_left (by omega)] at hd
                        exact hrt _ d hd
                  obtain ⟨p, p'⟩ := Post.rename (P := P) hs hg hren hobj (setRow_heap w b cs _ bt _ hheap) (fun k hk => setRow_other w b k _ hk) (by simp [World.setRow]) (fun cs0 e0 f0 h0 => by
                    rw [hheap] at h0
                    cases h0
                    exact ⟨_, _, rfl, hss⟩) ⟨rfl, rfl, rfl⟩
                  refine ⟨_, _, _, hrun, p, .rs p' hin (fun k hk => by cases hk) ⟨_, bt, (0, 0), setRow_heap w b cs _ bt _ hheap, ?_⟩⟩
                  rw [hss]
                  exact hfit
                · have p0 := Post.del (P := P) hs r
                  have := app_grow (P := P) (ty := ty) (base := some ⟨b, 0, none⟩) (n := n) (c := c) (olds := (List.range (n * i.size)).map fun j => gv cs (0 + j)) (l := l.take (n * i.size)) (H1 := H.del r) (ρ1 := ρ) p0.sim ht hi hzv hzs
                    (firstCells_of (w := w) (fun j hj => hcell j (by omega)) w.drew rfl) hsrc (by omega) hroom (by rw [htl]; simp) (by simp) hnl
                    (fun j hj => by rw [hget j (by simpa using hj)]; exact hone _ (by simp at hj; omega)) hn1
                    (fun j d hd => by
                      rw [hget j (by have := (List.getElem?_eq_some_iff.1 hd).1; omega), Nat.zero_add]
                      exact hrt j d hd) hnr
                  obtain ⟨v, w', a1, a2, a3⟩ := this
                  exact ⟨v, w', _, a1, p0.trans a2, a3⟩
              split at h
              · rename_i hcond
                simp only [Bool.and_eq_true, beq_iff_eq] at hcond
                obtain ⟨⟨hoff, hln⟩, hroom⟩ := hcond
                have htk : l.take (n * i.size) = l := List.take_of_length_le (by omega)
                simp only [Option.some.injEq, Prod.mk.injEq] at h
                exact key hoff (by omega) hroom h.1.symm (by rw [htk]; exact h.2.symm)
              · split at h
                · rename_i hcond
                  simp only [Bool.and_eq_true, beq_iff_eq, decide_eq_true_eq] at hcond
                  obtain ⟨⟨hoff, hln⟩, hroom⟩ := hcond
                  simp only [Option.some.injEq, Prod.mk.injEq] at h
                  exact key hoff hln hroom h.1.symm h.2.symm
                · cases h
          · cases h
        · cases h
    · cases h
theorem zeros_get (z : List D) (hz : 0 < z.length) : ∀ (n i : Nat), i < n * z.length → (List.replicate n z).flatten[i]? = z[i % z.length]?
  | 0, i, h => by omega
  | n + 1, i, h => by
    rw [List.replicate_succ, List.flatten_cons]
    by_cases c : i < z.length
    · rw [List.getElem?_append_left c, Nat.mod_eq_of_lt c]
    · rw [List.getElem?_append_right (by omega), zeros_get z hz n (i - z.length) (by rw [Nat.succ_mul] at h; omega)]
      congr 1
      rw [← Nat.mod_eq_sub_mod (by omega)]
theorem zeros_length (z : List D) (n : Nat) : (List.replicate n z).flatten.length = n * z.length := by simp
theorem run_clr {t te ty : TypeId} {i : TypeInfo} {z : List D} {x : D} {vx : Value} {H' : Heap} (hs : Sim P ρ Im H w) (ht : P.underlying t = some (.slice te)) (hi : P.info? te = some i)
    (hz : zeroOf P te = some z) (hzl : z.length = i.size) (hx : Rel ρ Im w x vx) (h : evClr H i.size z x = some H') :
    ∃ w', (Builtin.clear_ #[t] ty #[vx]).run P w = .ok (.tuple #[]) w' ∧ Post P ρ Im H w ρ Im H' w' := by
  obtain ⟨i', zv, hi', hzv, hcells⟩ := zeroOf_ok (ρ := ρ) (Im := Im) (w := w) hz
  rw [hi] at hi'
  cases hi'
  have hzs : zv.cells.size = i.size := by have := hcells.len; omega
  unfold evClr at h
  split at h
  · obtain rfl := hx.v_inv
    cases h
    exact ⟨w, by simp [Builtin.clear_, run_underlying ht], Post.refl hs⟩
  · split at h
    · rename_i hn
      subst hn
      cases h
      cases hx with
      | sz hc => exact ⟨w, by simp [Builtin.clear_, run_underlying ht], Post.refl hs⟩
      | sl cs hn hc hi hr => exact ⟨w, by simp [Builtin.clear_, run_underlying ht], Post.refl hs⟩
    · cases h
  · rename_i r off n cap size
    cases hx with
    | rs hren hnc hc hb =>
    rename_i b c
    split at h
    · rename_i hn
      subst hn
      cases h
      exact ⟨w, by simp [Builtin.clear_, run_underlying ht], Post.refl hs⟩
    · rename_i hn
      split at h
      · rename_i l hg
        split at h
        · rename_i hfit
          cases h
          obtain ⟨cs, te', hblk, hl, hone, hr⟩ := hs.cells hg hren
          have hlen : (Builtin.zeroCells zv.cells n).toList.length = n * i.size := by simp [Builtin.zeroCells, hzs]
          have hget : ∀ j, j < n * i.size → ((Builtin.zeroCells zv.cells n).toList[j]?).getD undef = gv zv.cells (j % i.size) := fun j hj => by
            have hpos : 0 < i.size := by
              rcases Nat.eq_zero_or_pos i.size with h0 | h0
              · rw [h0] at hj; omega
              · exact h0
            have hm := Nat.mod_lt j hpos
            have hj' : j < n * zv.cells.size := by rw [hzs]; exact hj
            have hm' : j % zv.cells.size < zv.cells.size := by rw [hzs]; exact hm
            simp [Builtin.zeroCells, gv, hj', hzs, hm, hj, hm']
          have hone2 : ∀ j, j < (Builtin.zeroCells zv.cells n).toList.length → (((Builtin.zeroCells zv.cells n).toList[j]?).getD undef).oneCell' = true := fun j hj => by
            rw [hlen] at hj
            rw [hget j hj]
            have hpos : 0 < i.size := by
              rcases Nat.eq_zero_or_pos i.size with h0 | h0
              · rw [h0] at hj; omega
              · exact h0
            exact hcells.one _ (by rw [hzs]; exact Nat.mod_lt j hpos)
          have hst := run_storeCells_at P b off te' (Builtin.zeroCells zv.cells n).toList 0 cs w hblk (by rw [hlen]; omega) (fun u hu => by
            obtain ⟨j, hj, rfl⟩ := List.getElem_of_mem hu
            have := hone2 j hj
            rw [List.getElem?_eq_getElem hj] at this
            exact this)
          simp only [Nat.add_zero] at hst
          refine ⟨_, ?_, Post.splice (c := (List.replicate n z).flatten) (off := off) (vs := (Builtin.zeroCells zv.cells n).toList) hs hg hren hblk hl hone hr (by rw [zeros_length, hlen, hzl]) (by rw [zeros_length, hzl]; exact hfit) hone2 (fun j d hd => ?_)⟩
          · obtain ⟨m, rfl⟩ : ∃ m, n = m + 1 := ⟨n - 1, by omega⟩
            simp only [Builtin.clear_, Sem.run_bind, Sem.run_pure, run_underlying ht, Result.andThen_ok, List.getElem?_toArray, List.getElem?_cons_zero]
            simp only [Sem.run_bind, zeroValue, typeInfo, run_program, hi, hzv, Sem.run_pure, Result.andThen_ok]
            rw [hst]
            rfl
          · have hj : j < n * z.length := by
              have := (List.getElem?_eq_some_iff.1 hd).1
              rw [zeros_length] at this
              exact this
            have hpos : 0 < z.length := by
              rcases Nat.eq_zero_or_pos z.length with h0 | h0
              · rw [h0] at hj; omega
              · exact h0
            rw [zeros_get z hpos n j hj] at hd
            rw [hget j (by rw [← hzl]; exact hj), ← hzl]
            exact hcells.rel _ d hd
        · cases h
      · cases h
  · cases h
end Go.Aug
namespace Go.Aug
variable {P : Program} {ρ : Ren} {Im : Nat → Prop} {H : Heap} {w : World} {e : Env} {a : Act}
theorem Sim.mapAt {r : Nat} {es : List (D × D)} (h : Sim P ρ Im H w) (hg : H.get r = some (.map es)) {b : Nat} (hb : ρ r = some b) :
    ∃ ms, w.heap[b]? = some (.map ms ms.size) ∧ es.length = ms.size ∧ Ents ρ Im w es ms.toList ∧ ∀ (i : Nat) (m : MapEntry), i < es.length → ms[i]? = some m → m.born = i := by
  obtain ⟨b', x', h1, _, h2, h3⟩ := h.obj r _ hg
  obtain rfl : b' = b := by rw [hb] at h1; exact (Option.some.inj h1).symm
  cases h3 with
  | map hl hr =>
    rename_i ms
    refine ⟨ms, h2, hl, ⟨by simpa using hl, fun i e he => let ⟨m, a, _, c, d⟩ := hr i e he; ⟨m, by simpa using a, c, d⟩⟩, fun i m hi hm => ?_⟩
    obtain ⟨m', a1, a2, _⟩ := hr i es[i] (List.getElem?_eq_getElem hi)
    rw [hm] at a1
    cases a1
    exact a2
theorem setObj_ok {b : Nat} {o x : Obj} (hb : w.heap[b]? = some x) (hx : ∀ (cs : Array Value) (e : TypeId) (f : Nat × Nat), x ≠ .cells cs e f) :
    (setObj b o).run P w = .ok () { w with heap := w.heap.setIfInBounds b o } ∧ ({ w with heap := w.heap.setIfInBounds b o } : World).heap[b]? = some o ∧
      (∀ k, k ≠ b → ({ w with heap := w.heap.setIfInBounds b o } : World).heap[k]? = w.heap[k]?) ∧ ({ w with heap := w.heap.setIfInBounds b o } : World).heap.size = w.heap.size := by
  have hlt := (Array.getElem?_eq_some_iff.1 hb).1
  refine ⟨?_, ?_, fun k hk => ?_, by simp⟩
  · simp only [setObj, Sem.run, hb]
  · simp [hlt]
  · simp [Array.getElem?_setIfInBounds_ne (Ne.symm hk)]
theorem keyStays {ck : CK} {k : D} {v : Value} (hk : keyOk ck k = true) (hr : Rel ρ Im w k v) (w' : World) : (Instr.keyThatStays v v).run P w' = .ok v w' := by
  have : Instr.sameBits 10000 v v = true := by
    unfold keyOk at hk
    split at hk
    · rw [hr.v_inv]; simp [Instr.sameBits]
    · rw [hr.v_inv]
      have : ∀ s : ByteArray, (s == s) = true := fun s => by rw [beq_toListBytes]; simp
      simp [Instr.sameBits, this]
    · rw [hr.v_inv]; simp [Instr.sameBits]
    · rename_i ks l
      obtain ⟨cs, rfl, hl, -, hr2⟩ := hr.agg_inv
      have hb : ∀ s : ByteArray, (s == s) = true := fun s => by rw [beq_toListBytes]; simp
      have cell : ∀ (ks : List K0) (l : List D) (i : Nat) (d : D), rowOk ks l = true → l[i]? = some d → ∃ u, d = .v u ∧ Instr.sameBits 9999 u u = true := by
        intro ks
        induction ks with
        | nil => intro l i d h hd; cases l <;> simp_all [rowOk]
        | cons k ks ih =>
          intro l i d h hd
          cases l with
          | nil => simp at hd
          | cons d0 l =>
            simp only [rowOk] at h
            cases i with
            | succ i => split at h <;> first | exact ih l i d h (by simpa using hd) | cases h
            | zero =>
              simp only [List.getElem?_cons_zero, Option.some.injEq] at hd
              subst hd
              split at h <;> first | exact ⟨_, rfl, by simp [Instr.sameBits, hb]⟩ | cases h
      have all : ∀ u ∈ cs.toList.zip cs.toList, Instr.sameBits 9999 u.1 u.2 = true := fun u hu => by
        obtain ⟨i, hi, rfl⟩ := List.getElem_of_mem hu
        have hi' : i < cs.size := by simpa using hi
        obtain ⟨d, hd⟩ : ∃ d, l[i]? = some d := ⟨_, List.getElem?_eq_getElem (by omega)⟩
        obtain ⟨u, rfl, h2⟩ := cell ks l i d hk hd
        have h3 := (hr2 i _ hd).v_inv
        simp only [gv, Array.getElem?_eq_getElem hi', Option.getD_some] at h3
        simpa [h3] using h2
      rw [show (10000 : Nat) = 9999 + 1 from rfl, Instr.sameBits]
      simp only [beq_self_eq_true, Bool.true_and, List.all_eq_true]
      exact fun u hu => all u hu
    · cases hk
  simp [Instr.keyThatStays, this]
theorem Post.entries {r b : Nat} {es es' : List (D × D)} {ms ms' : Array MapEntry} (h : Sim P ρ Im H w) (hg : H.get r = some (.map es)) (hb : ρ r = some b) (hblk : w.heap[b]? = some (.map ms ms.size))
    (hl : es'.length = ms'.size) (hr : ∀ (i : Nat) (e : D × D), es'[i]? = some e → ∃ m, ms'[i]? = some m ∧ m.born = i ∧ Rel ρ Im w e.1 m.key ∧ Rel ρ Im w e.2 m.val) :
    (setObj b (.map ms' ms'.size)).run P w = .ok () { w with heap := w.heap.setIfInBounds b (.map ms' ms'.size) } ∧ Post P ρ Im H w ρ Im (H.set r (.map es')) { w with heap := w.heap.setIfInBounds b (.map ms' ms'.size) } := by
  obtain ⟨s1, s2, s3, s4⟩ := setObj_ok (P := P) (o := .map ms' ms'.size) hblk (by intros; simp)
  exact ⟨s1, Post.set h hg hb (.map hl hr) s2 s3 s4 (fun cs e f h0 => by rw [hblk] at h0; cases h0) ⟨rfl, rfl, rfl⟩⟩
theorem getObj_map {b : Nat} {ms : Array MapEntry} {c : Nat} (hb : w.heap[b]? = some (.map ms c)) : (getObj b).run P w = .ok (.map ms c) w := by
  simp [getObj, Sem.run, hb]
theorem run_mput {t key elem : TypeId} {ck : CK} {m k x : D} {vm vk vx : Value} {H' : Heap} (hs : Sim P ρ Im H w) (hu : P.underlying t = some (.map key elem)) (hck : keyKind P key = some ck)
    (hm : Rel ρ Im w m vm) (hk : Rel ρ Im w k vk) (hx : Rel ρ Im w x vx) (h : evMput H ck m k x = some H') :
    ∃ w', (Instr.mapUpdate t vm vk vx).run P w = .ok () w' ∧ Post P ρ Im H w ρ Im H' w' := by
  have hat := keyKind_at hck
  unfold evMput at h
  split at h
  · rename_i r
    split at h
    · rename_i es hg
      split at h
      · rename_i hko
        have hchk : ∀ em w', (Instr.checkKey em 10000 key vk).run P w' = .ok () w' := fun em w' => run_checkKey hat em 9998 vk (keyVal_of hko hk)
        cases hm with
        | mp hren =>
        rename_i b
        obtain ⟨ms, hblk, hl, hents, hborn⟩ := hs.mapAt hg hren
        split at h
        · cases h
        · rename_i hf
          cases h
          rcases run_findKey hat hk hents hf with ⟨_, hr⟩ | ⟨j, e, m', hj, _⟩
          · obtain ⟨p1, p2⟩ := Post.entries (P := P) (es' := es ++ [(k, x)]) (ms' := ms.push { key := vk, val := vx, born := ms.size }) hs hg hren hblk (by simp [hl]) (fun i e he => by
              by_cases hi : i < es.length
              · rw [List.getElem?_append_left hi] at he
                obtain ⟨m, a1, a2, a3⟩ := hents.2 i e he
                have a1' : ms[i]? = some m := by simpa using a1
                exact ⟨m, by rw [Array.getElem?_push, if_neg (by omega)]; exact a1', hborn i m hi a1', a2, a3⟩
              · rw [List.getElem?_append_right (by omega)] at he
                have h0 : i - es.length = 0 := by
                  have := (List.getElem?_eq_some_iff.1 he).1
                  simp at this
                  omega
                rw [h0] at he
                simp only [List.getElem?_cons_zero, Option.some.injEq] at he
                subst he
                exact ⟨_, by rw [Array.getElem?_push, if_pos (by omega)], by show ms.size = i; omega, hk, hx⟩)
            refine ⟨_, ?_, p2⟩
            simp only [Array.size_push] at p1
            simp [Instr.mapUpdate, run_underlying hu, getObj_map hblk, hchk, hr, p1]
          · cases hj
        · rename_i i hf
          cases h
          rcases run_findKey hat hk hents hf with ⟨hn, _⟩ | ⟨j, e, m', hj, he, hm', hr, hkey, hrel⟩
          · cases hn
          · cases hj
            have hm'' : ms[i]? = some m' := by simpa using hm'
            have hilt := (List.getElem?_eq_some_iff.1 he).1
            obtain ⟨p1, p2⟩ := Post.entries (P := P) (es' := es.set i (k, x)) (ms' := ms.modify i fun e => { e with key := vk, val := vx }) hs hg hren hblk (by simp [hl]) (fun q e' he' => by
              by_cases hq : i = q
              · subst hq
                rw [List.getElem?_set_self hilt] at he'
                cases he'
                exact ⟨{ m' with key := vk, val := vx }, by rw [Array.getElem?_modify, if_pos rfl, hm'']; rfl, hborn i m' hilt hm'', hk, hx⟩
              · rw [List.getElem?_set_ne hq] at he'
                obtain ⟨m, a1, a2, a3⟩ := hents.2 q e' he'
                have a1' : ms[q]? = some m := by simpa using a1
                exact ⟨m, by rw [Array.getElem?_modify, if_neg hq]; exact a1', hborn q m (List.getElem?_eq_some_iff.1 he').1 a1', a2, a3⟩)
            refine ⟨_, ?_, p2⟩
            simp only [Array.size_modify] at p1
            have hst := keyStays (P := P) hko hk w
            simp [Instr.mapUpdate, run_underlying hu, getObj_map hblk, hchk, hr, hm'', hkey, hst, p1]
      · cases h
    · cases h
  · cases h
theorem two_tup {x y : D} {u v : Value} (hx : Rel ρ Im w x u) (hy : Rel ρ Im w y v) : Rel ρ Im w (.tup [x, y]) (.tuple #[u, v]) := by
  refine .tup rfl fun i d hd => ?_
  match i, hd with
  | 0, hd => simp at hd; subst hd; simpa [gv] using hx
  | 1, hd => simp at hd; subst hd; simpa [gv] using hy
  | i + 2, hd => simp at hd
theorem run_ment {t key elem : TypeId} {ck : CK} {z m k d : D} {vm vk : Value} {H' : Heap} (hs : Sim P ρ Im H w) (hu : P.underlying t = some (.map key elem)) (hz : zeroD P elem = some z) (hck : keyKind P key = some ck)
    (hm : Rel ρ Im w m vm) (hk : Rel ρ Im w k vk) (h : evMent H ck z m k = some (d, H')) :
    ∃ v w', (Instr.mapEntry t vm vk).run P w = .ok v w' ∧ Post P ρ Im H w ρ Im H' w' ∧ Rel ρ Im w' d v := by
  have hat := keyKind_at hck
  obtain ⟨zv, hzr, hzrel⟩ := rel_zeroD (ρ := ρ) (Im := Im) (w := w) hz
  unfold evMent at h
  split at h
  · rename_i r
    split at h
    · rename_i es hg
      split at h
      · rename_i hko
        have hchk : ∀ em w', (Instr.checkKey em 10000 key vk).run P w' = .ok () w' := fun em w' => run_checkKey hat em 9998 vk (keyVal_of hko hk)
        cases hm with
        | mp hren =>
        rename_i b
        obtain ⟨ms, hblk, hl, hents, hborn⟩ := hs.mapAt hg hren
        split at h
        · cases h
        · rename_i hf
          cases h
          rcases run_findKey hat hk hents hf with ⟨_, hr⟩ | ⟨j, e, m', hj, _⟩
          · obtain ⟨p1, p2⟩ := Post.entries (P := P) (es' := es ++ [(k, z)]) (ms' := ms.push { key := vk, val := zv, born := ms.size }) hs hg hren hblk (by simp [hl]) (fun i e he => by
              by_cases hi : i < es.length
              · rw [List.getElem?_append_left hi] at he
                obtain ⟨m, a1, a2, a3⟩ := hents.2 i e he
                have a1' : ms[i]? = some m := by simpa using a1
                exact ⟨m, by rw [Array.getElem?_push, if_neg (by omega)]; exact a1', hborn i m hi a1', a2, a3⟩
              · rw [List.getElem?_append_right (by omega)] at he
                have h0 : i - es.length = 0 := by
                  have := (List.getElem?_eq_some_iff.1 he).1
                  simp at this
                  omega
                rw [h0] at he
                simp only [List.getElem?_cons_zero, Option.some.injEq] at he
                subst he
                exact ⟨_, by rw [Array.getElem?_push, if_pos (by omega)], by show ms.size = i; omega, hk, hzrel⟩)
            refine ⟨.tuple #[zv, goInt ms.size], _, ?_, p2, (two_tup hzrel (by rw [hl]; exact .v (goInt ms.size))).mono p2.later⟩
            simp only [Array.size_push] at p1
            simp [Instr.mapEntry, run_underlying hu, getObj_map hblk, hchk, hr, hzr, p1]
          · cases hj
        · rename_i i hf
          split at h
          · rename_i e he
            cases h
            rcases run_findKey hat hk hents hf with ⟨hn, _⟩ | ⟨j, e', m', hj, he', hm', hr, hkey, hrel⟩
            · cases hn
            · cases hj
              rw [he] at he'
              cases he'
              have hm'' : ms[i]? = some m' := by simpa using hm'
              have hilt := (List.getElem?_eq_some_iff.1 he).1
              obtain ⟨p1, p2⟩ := Post.entries (P := P) (es' := es.set i (k, e.2)) (ms' := ms.modify i fun e => { e with key := vk }) hs hg hren hblk (by simp [hl]) (fun q e' he' => by
                by_cases hq : i = q
                · subst hq
                  rw [List.getElem?_set_self hilt] at he'
                  cases he'
                  exact ⟨{ m' with key := vk }, by rw [Array.getElem?_modify, if_pos rfl, hm'']; rfl, hborn i m' hilt hm'', hk, hrel⟩
                · rw [List.getElem?_set_ne hq] at he'
                  obtain ⟨m, a1, a2, a3⟩ := hents.2 q e' he'
                  have a1' : ms[q]? = some m := by simpa using a1
                  exact ⟨m, by rw [Array.getElem?_modify, if_neg hq]; exact a1', hborn q m (List.getElem?_eq_some_iff.1 he').1 a1', a2, a3⟩)
              have hb' := hborn i m' hilt hm''
              refine ⟨.tuple #[m'.val, goInt i], _, ?_, p2, (two_tup hrel (.v (goInt i))).mono p2.later⟩
              simp only [Array.size_modify] at p1
              have hst := keyStays (P := P) hko hk w
              simp [Instr.mapEntry, run_underlying hu, getObj_map hblk, hchk, hr, hm'', hkey, hst, p1, hb']
          · cases h
      · cases h
    · cases h
  · cases h
theorem run_mset {t : TypeId} {m i x : D} {vm vi vx : Value} {H' : Heap} (hs : Sim P ρ Im H w) (hm : Rel ρ Im w m vm) (hi : Rel ρ Im w i vi) (hx : Rel ρ Im w x vx) (h : evMset H m i x = some H') :
    ∃ w', (Instr.entryStore t vm vi vx).run P w = .ok () w' ∧ Post P ρ Im H w ρ Im H' w' := by
  unfold evMset at h
  split at h
  · rename_i r kd n
    obtain rfl := hi.v_inv
    split at h
    · rename_i es hg
      split at h
      · rename_i e he
        split at h
        · rename_i hn0
          cases h
          cases hm with
          | mp hren =>
          rename_i b
          obtain ⟨ms, hblk, hl, hents, hborn⟩ := hs.mapAt hg hren
          have hilt := (List.getElem?_eq_some_iff.1 he).1
          obtain ⟨m', hm', a2, a3⟩ := hents.2 _ e he
          have hm'' : ms[n.toNat]? = some m' := by simpa using hm'
          have hfind : ms.findIdx? (fun e => ((e.born : Int) == n)) = some n.toNat := by
            rw [Array.findIdx?_eq_some_iff_getElem]
            refine ⟨by omega, ?_, fun j hj => ?_⟩
            · have hb := hborn n.toNat ms[n.toNat] hilt (Array.getElem?_eq_getElem (by omega))
              rw [hb]
              simp only [beq_iff_eq]
              omega
            · have hb := hborn j ms[j] (by omega) (Array.getElem?_eq_getElem (by omega))
              rw [hb]
              simp only [Bool.not_eq_true, beq_eq_false_iff_ne, ne_eq]
              omega
          obtain ⟨p1, p2⟩ := Post.entries (P := P) (es' := es.set n.toNat (e.1, x)) (ms' := ms.modify n.toNat fun e => { e with val := vx }) hs hg hren hblk (by simp [hl]) (fun q e' he' => by
            by_cases hq : n.toNat = q
            · subst hq
              rw [List.getElem?_set_self hilt] at he'
              cases he'
              exact ⟨{ m' with val := vx }, by rw [Array.getElem?_modify, if_pos rfl, hm'']; rfl, hborn _ m' hilt hm'', a2, hx⟩
            · rw [List.getElem?_set_ne hq] at he'
              obtain ⟨m, b1, b2, b3⟩ := hents.2 q e' he'
              have b1' : ms[q]? = some m := by simpa using b1
              exact ⟨m, by rw [Array.getElem?_modify, if_neg hq]; exact b1', hborn q m (List.getElem?_eq_some_iff.1 he').1 b1', b2, b3⟩)
          refine ⟨_, ?_, p2⟩
          simp only [Array.size_modify] at p1
          simp [Instr.entryStore, getObj_map hblk, asInt, asIntOf, hfind, p1]
        · cases h
      · cases h
    · cases h
  · cases h
theorem run_mrng {t key elem : TypeId} {m d : D} {vm : Value} {H' : Heap} (hs : Sim P ρ Im H w) (hu : P.underlying t = some (.map key elem)) (hm : Rel ρ Im w m vm) (h : evMrng H m = some (d, H')) :
    ∃ v w' ρ', (Instr.range t vm).run P w = .ok v w' ∧ Post P ρ Im H w ρ' Im H' w' ∧ Rel ρ' Im w' d v := by
  unfold evMrng at h
  split at h
  · rename_i r
    split at h
    · rename_i es hg
      cases h
      cases hm with
      | mp hren =>
      rename_i b
      obtain ⟨ms, hblk, hl, -, -⟩ := hs.mapAt hg hren
      have hobj : RelO P ρ Im w (.iter r es.length es.length []) (.mapIter (some b) ms.size #[] ms.size) := by
        rw [hl]
        exact .iter hren rfl
      obtain ⟨p2, p3⟩ := Post.add hs hobj
      exact ⟨_, _, _, run_range_map w t key elem b ms ms.size hu hblk, p2, .rf p3⟩
    · cases h
  · cases h
theorem leftOf_born {es : List (D × D)} {ms : Array MapEntry} {seen : List Nat} {sa : Array Nat} (hsa : sa.toList = seen) (hl : es.length = ms.size) (hr : ∀ (i : Nat) (e : D × D), es[i]? = some e → ∃ m, ms[i]? = some m ∧ m.born = i ∧ Rel ρ Im w e.1 m.key ∧ Rel ρ Im w e.2 m.val) :
    (leftOf ms sa).toList.map (·.born) = leftIdx es.length seen := by
  unfold leftOf leftIdx
  rw [Array.toList_filter, hl, ← born_nodup hl hr, List.filter_map]
  congr 1
  apply List.filter_congr
  intro x _
  simp [← hsa]
theorem run_mnxt {ty : TypeId} {it d : D} {vit : Value} {H' : Heap} (hs : Sim P ρ Im H w) (hx : Rel ρ Im w it vit) (h : evMnxt H it = some (d, H')) :
    ∃ v w', (Instr.next vit false ty).run P w = .ok v w' ∧ Post P ρ Im H w ρ Im H' w' ∧ Rel ρ Im w' d v := by
  have hh : Has P ρ Im H w := fun r o hg => let ⟨b, x, h1, _, h2, h3⟩ := hs.obj r o hg; ⟨b, x, h1, h2, h3⟩
  unfold evMnxt at h
  split at h
  · rename_i r
    split at h
    · rename_i m since clk seen hg
      split at h
      · rename_i es hm
        split at h
        · rename_i hcond
          obtain ⟨b, bm, sa, ms, rfl, hb, hbm, h1, h2, h3, h4, h5⟩ := iter_at hh hx hg hm
          have hleft := leftOf_born (ρ := ρ) (Im := Im) (w := w) h2 h4 h5
          have hold : ∀ x ∈ ms.toList, x.born < since := fun x hx => by
            have : x.born ∈ ms.toList.map (·.born) := List.mem_map.2 ⟨x, hx, rfl⟩
            rw [born_nodup h4 h5, List.mem_range] at this
            omega
          have hnext := run_next_at (P := P) w ty b bm since clk sa ms ms.size h1 h3 hold hcond.2
          split at h
          · rename_i hidx
            cases h
            rw [hidx] at hleft
            have hnil : (leftOf ms sa).toList = [] := by simpa using hleft
            rcases hnext with ⟨-, hrun⟩ | ⟨e, he, -⟩
            · exact ⟨_, w, hrun, Post.refl hs, .tup rfl fun i d hd => by
                match i, hd with
                | 0, hd => simp at hd; subst hd; exact .v _
                | i + 1, hd => simp at hd⟩
            · rw [hnil] at he; cases he
          · rename_i i hidx
            split at h
            · rename_i en hen
              cases h
              rw [hidx] at hleft
              rcases hnext with ⟨h0, -⟩ | ⟨e, he, w1, hw1, hrun⟩
              · have : (leftOf ms sa).toList.length = 1 := by
                  have := congrArg List.length hleft
                  simpa using this
                simp at this
                omega
              · have hborn : e.born = i := by
                  have : e.born ∈ (leftOf ms sa).toList.map (·.born) := List.mem_map.2 ⟨e, he, rfl⟩
                  rw [hleft] at this
                  simpa using this
                obtain ⟨m', a1, a2, a3, a4⟩ := h5 i en hen
                have hem : e = m' := by
                  have hemem := (mem_left he).1
                  obtain ⟨j, hj, hje⟩ := List.getElem_of_mem hemem
                  have hj2 : j < es.length := by simp at hj; omega
                  obtain ⟨m2, b1, b2, -⟩ := h5 j es[j] (List.getElem?_eq_getElem hj2)
                  have hj3 : j < ms.size := by omega
                  rw [Array.getElem?_eq_getElem hj3] at b1
                  cases b1
                  have hje' : ms[j] = e := by simpa using hje
                  have hij : j = i := by rw [← b2, hje', hborn]
                  subst hij
                  rw [Array.getElem?_eq_getElem hj3] at a1
                  cases a1
                  exact hje'.symm
                subst hem
                have hwh : w1.heap = w.heap := by rcases hw1 with rfl | rfl <;> rfl
                have p1 : Post P ρ Im H w ρ Im H w1 := by
                  rcases hw1 with rfl | rfl
                  · exact Post.refl hs
                  · exact Post.of_heap hs rfl ⟨rfl, rfl, rfl⟩
                have hlt : b < w1.heap.size := by rw [hwh]; exact (Array.getElem?_eq_some_iff.1 h1).1
                have hset := Post.set (P := P) (o := .iter m since es.length (seen ++ [i])) (x := .mapIter (some bm) since (sa.push e.born) ms.size) (w' := ChangeMaps.setBlock w1 b (.mapIter (some bm) since (sa.push e.born) ms.size)) p1.sim hg hb
                  (by rw [h4]; exact .iter hbm (by simp [h2, hborn])) (by simp [ChangeMaps.setBlock, hlt]) (fun k hk => by simp [ChangeMaps.setBlock, Array.getElem?_setIfInBounds_ne (Ne.symm hk)]) (by simp [ChangeMaps.setBlock]) (fun cs te f h0 => by rw [hwh, h1] at h0; cases h0) ⟨rfl, rfl, rfl⟩
                refine ⟨_, _, hrun, p1.trans hset, ?_⟩
                have hl := (p1.trans hset).later
                refine .tup rfl fun k d hd => ?_
                match k, hd with
                | 0, hd => simp at hd; subst hd; exact .v _
                | 1, hd => simp at hd; subst hd; simpa [gv] using a3.mono hl
                | 2, hd => simp at hd; subst hd; simpa [gv] using a4.mono hl
                | k + 3, hd => simp at hd
            · cases h
          · cases h
        · cases h
      · cases h
    · cases h
  · cases h
def AOp.isCall : AOp → Bool
  | .call _ _ => true
  | .cald _ _ => true
  | _ => false
theorem acts_ok {o : Oper} {aop : AOp} {call : CallF} {H' : Heap} {d : D} (hc : compOp P o.op = (aop, .acts)) (hnc : aop.isCall = false) (he : evOp call e H aop = some (d, H')) (hr : RelL ρ Im w e a.tmps) (hs : Sim P ρ Im H w) :
    ∃ nx v w' ρ', (execOp a.eval o).run P w = .ok nx w' ∧ (nx = .value v ∨ (nx = .skip ∧ v = undef)) ∧ Post P ρ Im H w ρ' Im H' w' ∧ Rel ρ' Im w' d v := by
  cases ho : o.op with
  | store t x y =>
    simp only [ho, compOp, Prod.mk.injEq, and_true] at hc; subst hc
    split at he
    · rename_i n hn
      simp only [evOp, Option.map_eq_some_iff, Prod.mk.injEq] at he
      obtain ⟨H1, hH, rfl, rfl⟩ := he
      obtain ⟨w', h1, h2⟩ := run_store_ok hs hn (rel_eval hr x) (rel_eval hr y) hH
      exact ⟨_, undef, w', ρ, by simp [execOp, ho, h1], .inr ⟨rfl, rfl⟩, h2, .v _⟩
    · cases he
  | mapUpdate t m k x =>
    simp only [ho, compOp, Prod.mk.injEq, and_true] at hc; subst hc
    split at he
    · rename_i key elem hu
      split at he
      · rename_i ck hck
        simp only [evOp, Option.map_eq_some_iff, Prod.mk.injEq] at he
        obtain ⟨H1, hH, rfl, rfl⟩ := he
        obtain ⟨w', h1, h2⟩ := run_mput hs hu hck (rel_eval hr m) (rel_eval hr k) (rel_eval hr x) hH
        exact ⟨_, undef, w', ρ, by simp [execOp, ho, h1], .inr ⟨rfl, rfl⟩, h2, .v _⟩
      · cases he
    · cases he
  | mapEntry t m k =>
    simp only [ho, compOp, Prod.mk.injEq, and_true] at hc; subst hc
    split at he
    · rename_i key elem hu
      split at he
      · rename_i z ck hz hck
        simp only [evOp] at he
        obtain ⟨v, w', h1, h2, h3⟩ := run_ment hs hu hz hck (rel_eval hr m) (rel_eval hr k) he
        exact ⟨_, v, w', ρ, by simp [execOp, ho, h1], .inl rfl, h2, h3⟩
      · cases he
    · cases he
  | entryStore t m i x =>
    simp only [ho, compOp, Prod.mk.injEq, and_true] at hc; subst hc
    simp only [evOp, Option.map_eq_some_iff, Prod.mk.injEq] at he
    obtain ⟨H1, hH, rfl, rfl⟩ := he
    obtain ⟨w', h1, h2⟩ := run_mset (t := t) hs (rel_eval hr m) (rel_eval hr i) (rel_eval hr x) hH
    exact ⟨_, undef, w', ρ, by simp [execOp, ho, h1], .inr ⟨rfl, rfl⟩, h2, .v _⟩
  | range t x =>
    simp only [ho, compOp, Prod.mk.injEq, and_true] at hc; subst hc
    split at he
    · rename_i key elem hu
      obtain ⟨v, w', ρ', h1, h2, h3⟩ := run_mrng hs hu (rel_eval hr x) he
      exact ⟨_, v, w', ρ', by simp [execOp, ho, h1], .inl rfl, h2, h3⟩
    · cases he
  | next it s =>
    simp only [ho, compOp, Prod.mk.injEq, and_true] at hc; subst hc
    cases s with
    | true => cases he
    | false =>
      obtain ⟨v, w', h1, h2, h3⟩ := run_mnxt (ty := o.type) hs (rel_eval hr it) he
      exact ⟨_, v, w', ρ, by simp [execOp, ho, h1], .inl rfl, h2, h3⟩
  | call c =>
    simp only [ho, compOp, compCall] at hc
    split at hc
    · cases hc; cases hnc
    · cases hc; cases hnc
    · cases hc; cases he
    · rename_i b hb
      split at hc
      · split at hc
        · cases hc
        · cases hc
        · cases hc
        · cases hc; cases he
      · rename_i t u x y hat hxs
        have hat' : c.argTypes = #[t, u] := by rw [← Array.toArray_toList (xs := c.argTypes), hat]
        have hxs' : c.args = #[x, y] := by rw [← Array.toArray_toList (xs := c.args), hxs]
        have fin : ∀ te i z text, P.underlying t = some (.slice te) → P.info? te = some i → zeroOf P te = some z → z.length = i.size → (if text then P.underlying u = some .string ∧ i.size = 1 else ∃ e', P.underlying u = some (.slice e')) →
            evOp call e H (.app text i.size i.bytes (ofR x) (ofR y)) = some (d, H') → ∃ nx v w' ρ', (execOp a.eval o).run P w = .ok nx w' ∧ (nx = .value v ∨ (nx = .skip ∧ v = undef)) ∧ Post P ρ Im H w ρ' Im H' w' ∧ Rel ρ' Im w' d v := by
          intro te i z text h1 h2 h3 h4 h5 h6
          obtain ⟨v, w', ρ', r1, r2, r3⟩ := run_app (ty := o.type) hs h1 h2 h3 h4 h5 (rel_eval hr x) (rel_eval hr y) h6
          exact ⟨_, v, w', ρ', by simp [execOp, ho, resolve, hb, invoke, builtin, hat', hxs', r1], .inl rfl, r2, r3⟩
        split at hc
        · rename_i te ue h1 h2
          split at hc
          · rename_i i z hi hz
            cases hc
            split at he
            · rename_i hzl
              exact fin te i z false h1 hi hz (by simpa using hzl) (by simpa using ⟨ue, h2⟩) he
            · cases he
          · cases hc; cases he
        · rename_i te h1 h2
          split at hc
          · rename_i i z hi hz
            cases hc
            split at he
            · rename_i hzl
              simp only [Bool.and_eq_true, beq_iff_eq] at hzl
              exact fin te i z true h1 hi hz hzl.2 (by simp only [if_true]; exact ⟨h2, hzl.1⟩) he
            · cases he
          · cases hc; cases he
        · cases hc; cases he
      · rename_i t x hat hxs
        have hat' : c.argTypes = #[t] := by rw [← Array.toArray_toList (xs := c.argTypes), hat]
        have hxs' : c.args = #[x] := by rw [← Array.toArray_toList (xs := c.args), hxs]
        split at hc
        · rename_i te h1
          split at hc
          · rename_i i z hi hz
            cases hc
            split at he
            · rename_i hzl
              simp only [evOp, Option.map_eq_some_iff, Prod.mk.injEq] at he
              obtain ⟨H1, hH, rfl, rfl⟩ := he
              obtain ⟨w', r1, r2⟩ := run_clr (ty := o.type) hs h1 hi hz (by simpa using hzl) (rel_eval hr x) hH
              exact ⟨_, .tuple #[], w', ρ, by simp [execOp, ho, resolve, hb, invoke, builtin, hat', hxs', r1], .inl rfl, r2, .tup rfl fun i d hd => by simp at hd⟩
            · cases he
          · cases hc; cases he
        · cases hc; cases he
      · cases hc
      · cases hc
      · cases hc
      · cases hc; cases he
  | makeMap t r =>
    cases r with
    | none => simp only [ho, compOp, Prod.mk.injEq, reduceCtorEq, and_false] at hc
    | some r => simp only [ho, compOp, Prod.mk.injEq, and_true] at hc; subst hc; cases he
  | _ =>
    simp only [ho, compOp, Prod.mk.injEq, reduceCtorEq, and_false, and_true] at hc
    try (subst hc; cases he)
end Go.Aug
namespace Go.Aug
variable {P : Program} {ρ : Ren} {Im : Nat → Prop} {H : Heap} {w : World} {e : Env} {a : Act}
def wideR (ro : Option Nat) : Fence := { Fence.wide with round := ro }
def Ret (P : Program) (ρ : Ren) (Im : Nat → Prop) (H : Heap) (w : World) (r : D) (H' : Heap) : Ending → World → Prop :=
  fun e w' => ∃ v ρ' Im', e = .returned v ∧ Post P ρ Im H w ρ' Im' H' w' ∧ Rel ρ' Im' w' r v
def Came (P : Program) (ρ : Ren) (Im : Nat → Prop) (H : Heap) (w : World) (f : FuncId) (args : List D) (vs : Array Value) (r : D) (H' : Heap) : Prop :=
  ((callFunc f vs).run P w = .ok (.enter f vs) w ∧ ∀ n, CallsIn Fence.wide n P f vs w (Ret P ρ Im H w r H')) ∨
    ((∀ q, D.yl q ∉ args) ∧ ∃ v w', (callFunc f vs).run P w = .ok (.value v) w' ∧ Ret P ρ Im H w r H' (.returned v) w')
structure CallOk (P : Program) (call : CallF) : Prop where
  fn : ∀ f args H r H', call (.fn f) args H = some (r, H') → ∀ ρ Im w vs, Sim P ρ Im H w → RelL ρ Im w args vs → Came P ρ Im H w f args vs r H'
  yl : ∀ q args H r H', call (.yl q) args H = some (r, H') → ∀ ρ Im w vs, Sim P ρ Im H w → RelL ρ Im w args vs → ∀ b, ρ q = some b →
    ∃ f tmps assign body, (Instr.yield b vs).run P w = .ok (.round b f tmps assign body) w ∧ ∀ n, RoundIn Fence.wide n P b f tmps assign body w (Ret P ρ Im H w r H')
theorem rel_put (hr : RelL ρ Im w e a.tmps) {dst : Option Nat} {d : D} {v : Value} (hd : Rel ρ Im w d v) : RelL ρ Im w (putE e dst d) (a.put dst v).tmps := by
  cases dst with
  | none => exact hr
  | some i =>
    refine ⟨by simpa [putE, Act.put] using hr.1, fun j d' h => ?_⟩
    simp only [putE] at h
    simp only [Act.put]
    by_cases hij : i = j
    · subst hij
      have hlt := (List.getElem?_eq_some_iff.1 h).1
      simp only [List.length_set] at hlt
      rw [List.getElem?_set_self hlt] at h
      cases h
      rw [gv_eq (v := v) (Array.getElem?_setIfInBounds_self_of_lt (by rw [← hr.1]; exact hlt))]
      exact hd
    · rw [List.getElem?_set_ne hij] at h
      have : gv (a.tmps.setIfInBounds i v) j = gv a.tmps j := by simp [gv, Array.getElem?_setIfInBounds_ne hij]
      rw [this]
      exact hr.2 j d' h
theorem put_defers (a : Act) (dst : Option Nat) (v : Value) : (a.put dst v).defers = a.defers := by cases dst <;> rfl
theorem compOp_defer {op : Op} {aop : AOp} {cls : Cls} (h : compOp P op = (aop, cls)) {c : Call} (hd : op = .defer c) : aop = .bad := by
  subst hd; simp only [compOp, Prod.mk.injEq] at h; exact h.1.symm
theorem semAt_of {o : Oper} {aop : AOp} {cls : Cls} {call : CallF} {x : D × Heap} (hc : compOp P o.op = (aop, cls)) (he : evOp call e H aop = some x) (ro : Option Nat) (ρ' : Operand → Value) :
    o.semAt ro ρ' = execOp ρ' o :=
  Oper.semAt_eq ro ρ' o fun c hd => by
    have := compOp_defer hc hd
    subst this
    cases he
theorem RelL.append {l l' : List D} {cs cs' : Array Value} (h : RelL ρ Im w l cs) (h' : RelL ρ Im w l' cs') : RelL ρ Im w (l ++ l') (cs ++ cs') := by
  refine ⟨by simp [h.1, h'.1], fun i d hd => ?_⟩
  have hl := h.1
  by_cases hi : i < l.length
  · rw [List.getElem?_append_left hi] at hd
    have : gv (cs ++ cs') i = gv cs i := by unfold gv; rw [Array.getElem?_append_left (by omega)]
    rw [this]
    exact h.2 i d hd
  · rw [List.getElem?_append_right (by omega)] at hd
    have : gv (cs ++ cs') i = gv cs' (i - l.length) := by unfold gv; rw [Array.getElem?_append_right (by omega), hl]
    rw [this]
    exact h'.2 _ d hd
theorem call_step {call : CallF} (hcall : CallOk P call) {o : Oper} {aop : AOp} {H' : Heap} {d : D} {ro : Option Nat} {n : Nat} {K : Act → World → Prop} {Q : Exit → Act → World → Prop}
    (hc : compOp P o.op = (aop, .acts)) (hnc : aop.isCall = true) (he : evOp call e H aop = some (d, H')) (hr : RelL ρ Im w e a.tmps) (hs : Sim P ρ Im H w)
    (hK : ∀ v w' ρ' Im', Post P ρ Im H w ρ' Im' H' w' → Rel ρ' Im' w' d v → K (a.put o.dst v) w') : o.wpIn (wideR ro) n P a w K Q := by
  refine ⟨fun f _ => trivial, ?_⟩
  rw [semAt_of hc he]
  have ret : ∀ {f : FuncId} {vs : Array Value}, (execOp a.eval o).run P w = (callFunc f vs).run P w → (callFunc f vs).run P w = .ok (.enter f vs) w → CallsIn Fence.wide (n - 1) P f vs w (Ret P ρ Im H w d H') →
      o.uponIn (wideR ro) n P a K Q ((execOp a.eval o).run P w) := by
    intro f vs h1 h2 h3
    rw [h1, h2, Oper.uponIn_enter]
    refine ⟨fun h => by simp [wideR, Fence.wide] at h, ?_⟩
    have h3' : CallsIn (wideR ro) (n - 1) P f vs w (Ret P ρ Im H w d H') := h3
    refine h3'.mono ?_
    rintro e' w' ⟨v, ρ', Im', rfl, hp, hrel⟩
    exact hK v w' ρ' Im' hp hrel
  have retv : ∀ {f : FuncId} {vs : Array Value}, (execOp a.eval o).run P w = (callFunc f vs).run P w → (∃ v w', (callFunc f vs).run P w = .ok (.value v) w' ∧ Ret P ρ Im H w d H' (.returned v) w') →
      o.uponIn (wideR ro) n P a K Q ((execOp a.eval o).run P w) := by
    rintro f vs h1 ⟨v, w', h2, v', ρ', Im', h3, hp, hrel⟩
    cases h3
    rw [h1, h2, Oper.uponIn_value]
    exact hK v w' ρ' Im' hp hrel
  cases ho : o.op with
  | call c =>
    simp only [ho, compOp, compCall] at hc
    split at hc
    · rename_i f hf
      cases hc
      simp only [evOp] at he
      have hargs := rel_list hr c.args
      have hrun : (execOp a.eval o).run P w = (callFunc f (c.args.map a.eval)).run P w := by
        simp [execOp, ho, resolve, hf, Act.eval, Deferred.ofValue, invoke]
      rcases hcall.fn f _ H d H' he ρ Im w _ hs hargs with ⟨h1, h2⟩ | ⟨-, h3⟩
      · exact ret (f := f) (vs := c.args.map a.eval) hrun h1 (h2 _)
      · exact retv (f := f) (vs := c.args.map a.eval) hrun h3
    · rename_i x hnf hx
      cases hc
      simp only [evOp] at he
      have hargs := rel_list hr c.args
      have hfx := rel_eval hr x
      split at he
      · rename_i g first caps hd
        rw [hd] at hfx
        cases hv : a.eval x with
        | func fn xs ys =>
          rw [hv] at hfx
          cases hfx with
          | fn a1 a2 a3 a4 =>
            have hall := (RelL.append (RelL.append (And.intro a1 a2) hargs) (And.intro a3 a4))
            have hrun : (execOp a.eval o).run P w = (callFunc g (xs ++ c.args.map a.eval ++ ys)).run P w := by
              simp [execOp, ho, resolve, hx, hv, Deferred.ofValue, invoke]
            rcases hcall.fn g _ H d H' he ρ Im w _ hs hall with ⟨h1, h2⟩ | ⟨-, h3⟩
            · exact ret hrun h1 (h2 _)
            · exact retv hrun h3
        | _ => rw [hv] at hfx; cases hfx
      · rename_i q hd
        rw [hd] at hfx
        cases hv : a.eval x with
        | func fn xs ys =>
          rw [hv] at hfx
          cases hfx with
          | yl hq =>
            rename_i b
            obtain ⟨f, tmps, assign, body, h1, h2⟩ := hcall.yl q _ H d H' he ρ Im w _ hs hargs b hq
            have hrun : (execOp a.eval o).run P w = .ok (.round b f tmps assign body) w := by
              simp [execOp, ho, resolve, hx, hv, Deferred.ofValue, invoke, h1]
            rw [hrun, Oper.uponIn_round]
            refine ⟨fun h => by simp [wideR, Fence.wide] at h, ?_⟩
            have h3' : RoundIn (wideR ro) (n - 1) P b f tmps assign body w (Ret P ρ Im H w d H') := h2 _
            refine h3'.mono ?_
            rintro e' w' ⟨v, ρ', Im', rfl, hp, hrel⟩
            exact hK v w' ρ' Im' hp hrel
        | _ => rw [hv] at hfx; cases hfx
      · cases he
    · cases hc; cases hnc
    · split at hc
      · split at hc <;> cases hc <;> cases hnc
      · split at hc
        · split at hc
          · cases hc; split at hnc <;> cases hnc
          · cases hc; cases hnc
        · split at hc
          · cases hc; split at hnc <;> cases hnc
          · cases hc; cases hnc
        · cases hc; cases hnc
      · split at hc
        · split at hc
          · cases hc; split at hnc <;> cases hnc
          · cases hc; cases hnc
        · cases hc; cases hnc
      · cases hc
      · cases hc
      · cases hc
      · cases hc; cases hnc
  | makeMap t r => cases r <;> simp only [ho, compOp, Prod.mk.injEq, reduceCtorEq, and_false, and_true] at hc <;> (subst hc; cases hnc)
  | store t x y => simp only [ho, compOp, Prod.mk.injEq, and_true] at hc; subst hc; split at hnc <;> cases hnc
  | mapUpdate t m k x => simp only [ho, compOp, Prod.mk.injEq, and_true] at hc; subst hc; exfalso; clear he ret hK; revert hnc; (repeat' split) <;> intro hnc <;> cases hnc
  | mapEntry t m k => simp only [ho, compOp, Prod.mk.injEq, and_true] at hc; subst hc; exfalso; clear he ret hK; revert hnc; (repeat' split) <;> intro hnc <;> cases hnc
  | entryStore t m i x => simp only [ho, compOp, Prod.mk.injEq, and_true] at hc; subst hc; cases hnc
  | range t x => simp only [ho, compOp, Prod.mk.injEq, and_true] at hc; subst hc; exfalso; clear he ret hK; revert hnc; (repeat' split) <;> intro hnc <;> cases hnc
  | next it s => simp only [ho, compOp, Prod.mk.injEq, and_true] at hc; subst hc; exfalso; clear he ret hK; revert hnc; (repeat' split) <;> intro hnc <;> cases hnc
  | _ =>
    simp only [ho, compOp, Prod.mk.injEq, reduceCtorEq, and_false, and_true] at hc
    try (subst hc; cases hnc)
theorem op_step {call : CallF} (hcall : CallOk P call) {o : Oper} {aop : AOp} {cls : Cls} {H' : Heap} {d : D} {ro : Option Nat} {n : Nat} {K : Act → World → Prop} {Q : Exit → Act → World → Prop}
    (hc : compOp P o.op = (aop, cls)) (he : evOp call e H aop = some (d, H')) (hr : RelL ρ Im w e a.tmps) (hs : Sim P ρ Im H w)
    (hK : ∀ v w' ρ' Im', Post P ρ Im H w ρ' Im' H' w' → Rel ρ' Im' w' d v → K (a.put o.dst v) w') : o.wpIn (wideR ro) n P a w K Q := by
  have val : ∀ {v : Value} {w' : World}, (execOp a.eval o).run P w = .ok (.value v) w' → K (a.put o.dst v) w' → o.wpIn (wideR ro) n P a w K Q := by
    intro v w' h1 h2
    refine ⟨fun f _ => trivial, ?_⟩
    rw [semAt_of hc he, h1, Oper.uponIn_value]
    exact h2
  cases cls with
  | plain =>
    obtain ⟨rfl, v, h1, h2⟩ := plain_ok hc he hr
    exact val h1 (hK v w ρ Im (Post.refl hs) h2)
  | reads =>
    obtain ⟨rfl, v, h1, h2⟩ := reads_ok hc he hr hs.has
    exact val h1 (hK v w ρ Im (Post.refl hs) h2)
  | news =>
    obtain ⟨ob, x, v, rfl, h1, h2, h3⟩ := news_ok hc he hr
    obtain ⟨p1, p2⟩ := Post.add hs h2
    exact val h1 (hK v _ _ Im p1 (h3 _ p2))
  | acts =>
    cases hic : aop.isCall with
    | true => exact call_step hcall hc hic he hr hs hK
    | false =>
      obtain ⟨nx, v, w', ρ', h1, h2, h3, h4⟩ := acts_ok hc hic he hr hs
      rcases h2 with rfl | ⟨rfl, rfl⟩
      · exact val h1 (hK v w' ρ' Im h3 h4)
      · refine ⟨fun f _ => trivial, ?_⟩
        rw [semAt_of hc he, h1, Oper.uponIn_skip]
        exact hK undef w' ρ' Im h3 h4
end Go.Aug
namespace Go.Aug
variable {P : Program} {ρ : Ren} {Im : Nat → Prop} {H : Heap} {w : World} {e : Env} {a : Act}
def boolOf : Option Value → Option Bool
  | some (.bool c) => some c
  | _ => none
theorem yielded_eq (ops : Array Oper) (tmps : Array Value) (j : Nat) : yielded ops tmps j = boolOf (((ops[j]?).bind (·.dst)).bind (tmps[·]?)) := by
  unfold yielded boolOf
  generalize ((ops[j]?).bind (·.dst)).bind (tmps[·]?) = x
  cases x with
  | none => rfl
  | some v => cases v <;> rfl
theorem wants_rel {d : D} {v : Value} {b : Bool} (h : Rel ρ Im w d v) : (boolOf (some v) == some b) = d.says b := by
  cases h with
  | v _ => cases v <;> simp [boolOf, D.says]
  | _ => rfl
theorem wanted_eq {ops : Array Oper} {o : Oper} {g : Option (Nat × Bool)} (hg : compGuard ops o.guard = some g) (hr : RelL ρ Im w e a.tmps) : Region.wanted o (yielded ops a.tmps) = wants e g := by
  unfold compGuard at hg
  unfold Region.wanted
  split at hg
  · rename_i hn
    cases hg
    rw [hn]
    rfl
  · rename_i j b hn
    rw [hn]
    split at hg
    · rename_i d hd
      cases hg
      simp only [wants, yielded_eq, hd, Option.bind_some]
      have hrel := rel_get hr d
      rw [← wants_rel (b := b) hrel]
      cases ht : a.tmps[d]? with
      | none => simp [Array.getD_eq_getD_getElem?, ht, undef, boolOf]
      | some v => simp [Array.getD_eq_getD_getElem?, ht, boolOf]
    · cases hg
theorem evOps_ok {call : CallF} (hcall : CallOk P call) {ops : Array Oper} {ro : Option Nat} {n : Nat} {Q : Exit → Act → World → Prop} : ∀ (l : List Oper) (i : Nat) (ps : List POp) (e : Env) (H : Heap) (e' : Env) (H' : Heap) (ρ : Ren) (Im : Nat → Prop) (w : World) (a : Act),
    ops.toList.drop i = l → compPlain P ops l = some ps → evOps call ps e H = some (e', H') → Sim P ρ Im H w → RelL ρ Im w e a.tmps →
    (∀ a' w' ρ' Im', Post P ρ Im H w ρ' Im' H' w' → RelL ρ' Im' w' e' a'.tmps → a'.defers = a.defers → Q .normal a' w') → wpOpsIn (wideR ro) n P ops Q (List.range' i l.length) a w
  | [], i, ps, e, H, e', H', ρ, Im, w, a, hd, hp, he, hs, hr, hQ => by
    simp only [compPlain, Option.some.injEq] at hp
    subst hp
    simp only [evOps, Option.some.injEq, Prod.mk.injEq] at he
    obtain ⟨rfl, rfl⟩ := he
    simp only [List.length_nil, List.range'_zero, wpOpsIn]
    exact hQ a w ρ Im (Post.refl hs) hr rfl
  | o :: l, i, ps, e, H, e', H', ρ, Im, w, a, hd, hp, he, hs, hr, hQ => by
    simp only [compPlain] at hp
    split at hp
    · rename_i g pl hg hpl
      cases hp
      have ho : ops[i]? = some o := by
        have : (ops.toList.drop i)[0]? = some o := by rw [hd]; rfl
        rw [List.getElem?_drop] at this
        simpa using this
      have hd' : ops.toList.drop (i + 1) = l := by
        rw [← List.drop_drop, hd]
        rfl
      simp only [List.length_cons, List.range'_succ, wpOpsIn, ho]
      rw [wanted_eq hg hr]
      simp only [evOps] at he
      split at he
      · rename_i hw
        rw [if_pos hw]
        split at he
        · rename_i d H1 hop
          refine op_step hcall (cls := (compOp P o.op).2) rfl hop hr hs fun v w' ρ' Im' hp hrel => ?_
          refine evOps_ok hcall l (i + 1) pl _ H1 e' H' ρ' Im' w' _ hd' hpl he hp.sim (rel_put (hr.mono hp.later) hrel) fun a' w'' ρ'' Im'' hp' hr' hdf => ?_
          exact hQ a' w'' ρ'' Im'' (hp.trans hp') hr' (hdf.trans (put_defers _ _ _))
        · cases he
      · rename_i hw
        rw [if_neg hw]
        refine ⟨fun f _ => trivial, ?_⟩
        refine evOps_ok hcall l (i + 1) pl _ H e' H' ρ Im w _ hd' hpl he hs (rel_put hr (.v undef)) fun a' w'' ρ'' Im'' hp' hr' hdf => ?_
        exact hQ a' w'' ρ'' Im'' hp' hr' (hdf.trans (put_defers _ _ _))
    · cases hp
def Marks (base : Nat) (Im : Nat → Prop) (ds : List Deferred) (w : World) : Prop :=
  ∃ rs : List Nat, ds = rs.map (fun r => { target := .collected r, args := #[] }) ∧ rs.Pairwise (· ≠ ·) ∧ ∀ r ∈ rs, w.heap[r]? = some (.deferred (some [])) ∧ ¬ Im r ∧ base ≤ r
theorem Sim.deferred {b : Nat} {ds : Option (List Deferred)} (h : Sim P ρ Im H w) (hx : w.heap[b]? = some (.deferred ds)) : ∀ r o, H.get r = some o → ρ r ≠ some b := by
  intro r o hg hb
  obtain ⟨b', x', h1, _, h2, h3⟩ := h.obj r o hg
  obtain rfl : b' = b := by rw [hb] at h1; exact (Option.some.inj h1).symm
  rw [hx] at h2
  cases h2
  cases h3
theorem Marks.post {base : Nat} {ds : List Deferred} {ρ' : Ren} {Im' : Nat → Prop} {H' : Heap} {w' : World} (h : Marks base Im ds w) (hs : Sim P ρ Im H w) (hp : Post P ρ Im H w ρ' Im' H' w') : Marks base Im' ds w' := by
  obtain ⟨rs, h0, h1, h⟩ := h
  refine ⟨rs, h0, h1, fun r hr => ?_⟩
  obtain ⟨h2, h3, h4⟩ := h r hr
  have hlt := (Array.getElem?_eq_some_iff.1 h2).1
  have hno := hs.deferred h2
  refine ⟨by rw [hp.foot r hlt hno]; exact h2, fun hi => ?_, h4⟩
  rcases hp.imfoot r hlt hi with h5 | ⟨q, o, h5, h6⟩
  · exact h3 h5
  · exact hno q o h5 h6
def exOf : Ex → Exit
  | .normal => .normal
  | .exit id => .exit id
  | .ret => .ret
def Out (P : Program) (base : Nat) (ρ : Ren) (Im : Nat → Prop) (H : Heap) (w : World) (ex : Ex) (e' : Env) (H' : Heap) : Exit → Act → World → Prop :=
  fun x a' w' => ∃ ρ' Im', x = exOf ex ∧ Post P ρ Im H w ρ' Im' H' w' ∧ RelL ρ' Im' w' e' a'.tmps ∧ Marks base Im' a'.defers w'
def CodeOk (P : Program) (c : Code) (rd : Option Nat) (f : Env → Heap → Option St) : Prop :=
  ∀ e H ex e' H', f e H = some (ex, e', H') → ∀ ro n base ρ Im w a, (∀ l, ro = some l → ∃ r, rd = some r ∧ ρ r = some l) → Sim P ρ Im H w → RelL ρ Im w e a.tmps → Marks base Im a.defers w → base ≤ w.heap.size →
    c.wpIn (wideR ro) n P (Out P base ρ Im H w ex e' H') a w
theorem Out.trans {base : Nat} {ρ' : Ren} {Im' : Nat → Prop} {H1 H' : Heap} {w1 : World} {ex : Ex} {e' : Env} {x : Exit} {a' : Act} {w' : World} (hp : Post P ρ Im H w ρ' Im' H1 w1) (h : Out P base ρ' Im' H1 w1 ex e' H' x a' w') :
    Out P base ρ Im H w ex e' H' x a' w' := by
  obtain ⟨ρ'', Im'', h1, h2, h3, h4⟩ := h
  exact ⟨ρ'', Im'', h1, hp.trans h2, h3, h4⟩
theorem least (p : Nat → Prop) : ∀ n, p n → ∃ m, p m ∧ ∀ k, p k → m ≤ k := by
  intro n
  induction n using Nat.strongRecOn with
  | _ n ih =>
    intro hn
    by_cases h : ∃ k, k < n ∧ p k
    · obtain ⟨k, hk, hp⟩ := h
      exact ih k hk hp
    · exact ⟨n, hn, fun k hk => Nat.le_of_not_lt fun hlt => h ⟨k, hlt, hk⟩⟩
section loop
open Classical
theorem loop_ok {c : Code} {rd : Option Nat} {f : Env → Heap → Option St} (hc : CodeOk P c rd f) (N : Nat) : CodeOk P (.loop c) rd (fun e H => evLoop f N e H) := by
  intro e H ex e' H' hev ro n base ρ Im w a hro hs hr hm hbase
  let J : Nat → Act → World → Prop := fun k a1 w1 => ∃ e1 H1 ρ1 Im1, evLoop f k e1 H1 = some (ex, e', H') ∧ Post P ρ Im H w ρ1 Im1 H1 w1 ∧ RelL ρ1 Im1 w1 e1 a1.tmps ∧ Marks base Im1 a1.defers w1
  let I : Act → World → Prop := fun a1 w1 => ∃ k, J k a1 w1
  let μ : Act → World → Nat := fun a1 w1 => if h : ∃ k, J k a1 w1 then Classical.choose (least (fun k => J k a1 w1) _ (Classical.choose_spec h)) else 0
  refine wpIn_loop I μ ⟨N, e, H, ρ, Im, hev, Post.refl hs, hr, hm⟩ ?_
  intro a1 w1 hI
  have hμ : J (μ a1 w1) a1 w1 ∧ ∀ k, J k a1 w1 → μ a1 w1 ≤ k := by
    have e0 : μ a1 w1 = Classical.choose (least (fun k => J k a1 w1) _ (Classical.choose_spec hI)) := dif_pos hI
    rw [e0]
    exact Classical.choose_spec (least (fun k => J k a1 w1) _ (Classical.choose_spec hI))
  obtain ⟨e1, H1, ρ1, Im1, h1, h2, h3, h4⟩ := hμ.1
  generalize hk : μ a1 w1 = k at h1
  cases k with
  | zero => simp [evLoop] at h1
  | succ k =>
    simp only [evLoop] at h1
    split at h1
    · rename_i e2 H2 hf
      refine wpIn_mono (hc e1 H1 .normal e2 H2 hf ro n base ρ1 Im1 w1 a1 (fun l hl => let ⟨r, h5, h6⟩ := hro l hl; ⟨r, h5, h2.later.ren r l h6⟩) h2.sim h3 h4 (Nat.le_trans hbase h2.size)) ?_
      rintro x a2 w2 ⟨ρ2, Im2, rfl, g2, g3, g4⟩
      have hJ : J k a2 w2 := ⟨e2, H2, ρ2, Im2, h1, h2.trans g2, g3, g4⟩
      refine ⟨⟨k, hJ⟩, ?_⟩
      have : μ a2 w2 ≤ k := by
        have hI2 : ∃ k, J k a2 w2 := ⟨k, hJ⟩
        have e0 : μ a2 w2 = Classical.choose (least (fun k => J k a2 w2) _ (Classical.choose_spec hI2)) := dif_pos hI2
        rw [e0]
        exact (Classical.choose_spec (least (fun k => J k a2 w2) _ (Classical.choose_spec hI2))).2 k hJ
      omega
    · rename_i hnn
      cases hf : f e1 H1 with
      | none => rw [hf] at h1; cases h1
      | some r =>
        obtain ⟨x1, e2, H2⟩ := r
        rw [hf] at h1
        cases h1
        refine wpIn_mono (hc e1 H1 ex e' H' hf ro n base ρ1 Im1 w1 a1 (fun l hl => let ⟨r, h5, h6⟩ := hro l hl; ⟨r, h5, h2.later.ren r l h6⟩) h2.sim h3 h4 (Nat.le_trans hbase h2.size)) ?_
        rintro x a2 w2 ⟨ρ2, Im2, rfl, g2, g3, g4⟩
        cases ex with
        | normal => exact absurd hf (hnn e' H')
        | exit id => exact ⟨ρ2, Im2, rfl, h2.trans g2, g3, g4⟩
        | ret => exact ⟨ρ2, Im2, rfl, h2.trans g2, g3, g4⟩
end loop
end Go.Aug
namespace Go.Aug
variable {P : Program}
theorem evR_congr {e e' : Env} {x : Rand} (h : ∀ t ∈ randT x, Env.get e t = Env.get e' t) : evR e x = evR e' x := by
  cases x with
  | t i => exact h i (by simp [randT])
  | c d => rfl
theorem map_evR_congr {e e' : Env} {xs : List Rand} (h : ∀ t ∈ xs.flatMap randT, Env.get e t = Env.get e' t) : xs.map (evR e) = xs.map (evR e') :=
  List.map_congr_left fun x hx => evR_congr fun t ht => h t (List.mem_flatMap.2 ⟨x, hx, ht⟩)
theorem fillD_congr {e e' : Env} : ∀ {ps : List (Nat × Nat × Rand)} {l : List D}, (∀ t ∈ ps.flatMap fun p => randT p.2.2, Env.get e t = Env.get e' t) → fillD e l ps = fillD e' l ps
  | [], _, _ => rfl
  | (off, size, x) :: ps, l, h => by
    have hx : evR e x = evR e' x := evR_congr fun t ht => h t (List.mem_flatMap.2 ⟨(off, size, x), by simp, ht⟩)
    have hrest : ∀ l, fillD e l ps = fillD e' l ps := fun l => fillD_congr fun t ht => h t (by
      obtain ⟨p, hp, ht⟩ := List.mem_flatMap.1 ht
      exact List.mem_flatMap.2 ⟨p, by simp [hp], ht⟩)
    simp only [fillD, hx, hrest]
theorem bound_congr {e e' : Env} {x : Option Rand} {m n : Nat} (h : ∀ t ∈ oRand x, Env.get e t = Env.get e' t) : bound e x m n = bound e' x m n := by
  cases x with
  | none => rfl
  | some x => simp only [bound, evR_congr (x := x) h]
theorem evOp_congr {call : CallF} {e e' : Env} {H : Heap} {op : AOp} (h : ∀ t ∈ op.looks, Env.get e t = Env.get e' t) : evOp call e H op = evOp call e' H op := by
  have two : ∀ {x y : Rand}, (∀ t ∈ randT x ++ randT y, Env.get e t = Env.get e' t) → evR e x = evR e' x ∧ evR e y = evR e' y := fun h =>
    ⟨evR_congr fun t ht => h t (by simp [ht]), evR_congr fun t ht => h t (by simp [ht])⟩
  have three : ∀ {x y z : Rand}, (∀ t ∈ randT x ++ (randT y ++ randT z), Env.get e t = Env.get e' t) → evR e x = evR e' x ∧ evR e y = evR e' y ∧ evR e z = evR e' z := fun h =>
    ⟨evR_congr fun t ht => h t (by simp [ht]), evR_congr fun t ht => h t (by simp [ht]), evR_congr fun t ht => h t (by simp [ht])⟩
  cases op with
  | mv x => simp only [evOp, evR_congr (x := x) h]
  | new x => simp only [evOp, evR_congr (x := x) h]
  | nilck x => simp only [evOp, evR_congr (x := x) h]
  | un op x => simp only [evOp, evR_congr (x := x) h]
  | conv k x => simp only [evOp, evR_congr (x := x) h]
  | convI x => simp only [evOp, evR_congr (x := x) h]
  | convB x => simp only [evOp, evR_congr (x := x) h]
  | mrng x => simp only [evOp, evR_congr (x := x) h]
  | mnxt x => simp only [evOp, evR_congr (x := x) h]
  | mcur x => simp only [evOp, evR_congr (x := x) h]
  | convF k x => simp only [evOp, evR_congr (x := x) h]
  | cplx x y => simp only [evOp, (two h).1, (two h).2]
  | eqC x y => simp only [evOp, (two h).1, (two h).2]
  | ifc t x => simp only [evOp, evR_congr (x := x) h]
  | ext x i => simp only [evOp, evR_congr (x := x) h]
  | fadr o x => simp only [evOp, evR_congr (x := x) h]
  | fld k o x => simp only [evOp, evR_congr (x := x) h]
  | len b x => simp only [evOp, evR_congr (x := x) h]
  | load k x => simp only [evOp, evR_congr (x := x) h]
  | pick c a b => simp only [evOp, (three h).1, (three h).2.1, (three h).2.2]
  | mput k c a b => simp only [evOp, (three h).1, (three h).2.1, (three h).2.2]
  | mset c a b => simp only [evOp, (three h).1, (three h).2.1, (three h).2.2]
  | mlen x => simp only [evOp, evR_congr (x := x) h]
  | clr s z x => simp only [evOp, evR_congr (x := x) h]
  | mksl s b z x => simp only [evOp, evR_congr (x := x) h]
  | zero z => rfl
  | bad => rfl
  | mkmap => rfl
  | build z ps => simp only [evOp]; rw [fillD_congr h]
  | lits n s z ps => simp only [evOp]; rw [fillD_congr h]
  | idxA k s l a x => simp only [evOp, (two h).1, (two h).2]
  | mlook k z o a x => simp only [evOp, (two h).1, (two h).2]
  | ment k z a x => simp only [evOp, (two h).1, (two h).2]
  | store k a x => simp only [evOp, (two h).1, (two h).2]
  | bin o a x => simp only [evOp, (two h).1, (two h).2]
  | eqt n k a x => simp only [evOp, (two h).1, (two h).2]
  | iadr s a x => simp only [evOp, (two h).1, (two h).2]
  | iadrA s l a x => simp only [evOp, (two h).1, (two h).2]
  | idxS a x => simp only [evOp, (two h).1, (two h).2]
  | app t s b a x => simp only [evOp, (two h).1, (two h).2]
  | mkfn f a b =>
    simp only [evOp]
    rw [map_evR_congr (xs := a) fun t ht => h t (by simp only [AOp.looks, List.mem_append]; exact .inl ht), map_evR_congr (xs := b) fun t ht => h t (by simp only [AOp.looks, List.mem_append]; exact .inr ht)]
  | slice s x a b c =>
    simp only [AOp.looks, List.mem_append] at h
    have hx : evR e x = evR e' x := evR_congr fun t ht => h t (.inl ht)
    have h1 : ∀ m n, bound e a m n = bound e' a m n := fun m n => bound_congr fun t ht => h t (.inr (.inl ht))
    have h2 : ∀ m n, bound e b m n = bound e' b m n := fun m n => bound_congr fun t ht => h t (.inr (.inr (.inl ht)))
    have h3 : ∀ m n, bound e c m n = bound e' c m n := fun m n => bound_congr fun t ht => h t (.inr (.inr (.inr ht)))
    simp only [evOp, evSlice, hx, h1, h2, h3]
  | sliceS x a b =>
    simp only [AOp.looks, List.mem_append] at h
    have hx : evR e x = evR e' x := evR_congr fun t ht => h t (.inl ht)
    have h1 : ∀ m n, bound e a m n = bound e' a m n := fun m n => bound_congr fun t ht => h t (.inr (.inl ht))
    have h2 : ∀ m n, bound e b m n = bound e' b m n := fun m n => bound_congr fun t ht => h t (.inr (.inr ht))
    simp only [evOp, evSliceS, hx, h1, h2]
  | minmax m xs => simp only [evOp]; rw [map_evR_congr h]
  | call f xs => simp only [evOp]; rw [map_evR_congr h]
  | cald f xs =>
    simp only [AOp.looks, List.mem_append] at h
    have hf : evR e f = evR e' f := evR_congr fun t ht => h t (.inl ht)
    simp only [evOp, hf]
    rw [map_evR_congr fun t ht => h t (.inr ht)]
theorem wants_congr {e e' : Env} {g : Option (Nat × Bool)} (h : ∀ t ∈ guardT g, Env.get e t = Env.get e' t) : wants e g = wants e' g := by
  cases g with
  | none => rfl
  | some p => obtain ⟨t, b⟩ := p; simp only [wants, h t (by simp [guardT])]
theorem evDs_trace {call : CallF} {base : Nat} : ∀ {ps : List POp} {s s' : DS}, evDs call base ps s = some s' →
    ∃ st : Nat → DS, st 0 = s ∧ st ps.length = s' ∧ ∀ j p, ps[j]? = some p → evD call base p (st j) = some (st (j + 1))
  | [], s, s', h => by
    simp only [evDs, Option.some.injEq] at h
    exact ⟨fun _ => s, rfl, h, fun j p hp => by simp at hp⟩
  | p :: ps, s, s', h => by
    simp only [evDs] at h
    split at h
    · rename_i s1 h1
      obtain ⟨st, h2, h3, h4⟩ := evDs_trace h
      refine ⟨fun j => match j with | 0 => s | j + 1 => st j, rfl, h3, fun j q hq => ?_⟩
      cases j with
      | zero => simp at hq; subst hq; show evD call base p s = some (st 0); rw [h2]; exact h1
      | succ j => exact h4 j q (by simpa using hq)
    · cases h
def maskOf (acc : List Nat) (o : Oper) : Nat :=
  o.after.toList.foldl (fun s e => if Region.binds .any e then s ||| (2 ^ e.on ||| (acc[e.on]?).getD 0) else s) 0
theorem masks_snoc (l : List Oper) (o : Oper) : masks (l ++ [o]) = masks l ++ [maskOf (masks l) o] := by
  simp [masks, maskOf]
theorem masks_length (l : List Oper) : (masks l).length = l.length := by
  have : ∀ l : List Oper, (masks l.reverse).length = l.length := by
    intro l
    induction l with
    | nil => rfl
    | cons o l ih => rw [List.reverse_cons, masks_snoc]; simp [ih]
  have := this l.reverse
  simpa using this
theorem masks_append (l : List Oper) : ∀ r : List Oper, ∃ t, masks (l ++ r) = masks l ++ t := by
  have : ∀ r : List Oper, ∃ t, masks (l ++ r.reverse) = masks l ++ t := by
    intro r
    induction r with
    | nil => exact ⟨[], by simp⟩
    | cons o r ih =>
      obtain ⟨t, ht⟩ := ih
      rw [List.reverse_cons, ← List.append_assoc, masks_snoc, ht]
      exact ⟨t ++ [maskOf (masks l ++ t) o], by simp⟩
  intro r
  have := this r.reverse
  simpa using this
theorem masks_get {l : List Oper} {j : Nat} {o : Oper} (h : l[j]? = some o) : (masks l)[j]? = some (maskOf (masks (l.take j)) o) ∧ ∀ i, i < j → (masks (l.take j))[i]? = (masks l)[i]? := by
  have hlt := (List.getElem?_eq_some_iff.1 h).1
  have hsplit : l = l.take j ++ [o] ++ l.drop (j + 1) := by
    rw [List.append_assoc, List.singleton_append]
    have : o :: l.drop (j + 1) = l.drop j := by
      rw [List.drop_eq_getElem_cons hlt]
      rw [(List.getElem?_eq_some_iff.1 h).2]
    rw [this, List.take_append_drop]
  have hlen : (l.take j).length = j := by simp; omega
  obtain ⟨t, ht⟩ := masks_append (l.take j ++ [o]) (l.drop (j + 1))
  rw [← hsplit, masks_snoc] at ht
  have hml : (masks (l.take j)).length = j := by rw [masks_length, hlen]
  refine ⟨?_, fun i hi => ?_⟩
  · rw [ht, List.append_assoc, List.getElem?_append_right (by omega), hml]
    simp
  · rw [ht, List.append_assoc, List.getElem?_append_left (by omega)]
theorem testBit_fold (acc : List Nat) (i : Nat) : ∀ (es : List Edge) (s : Nat), (es.foldl (fun s e => if Region.binds .any e then s ||| (2 ^ e.on ||| (acc[e.on]?).getD 0) else s) s).testBit i = true →
    s.testBit i = true ∨ ∃ e ∈ es, Region.binds .any e = true ∧ (e.on = i ∨ ((acc[e.on]?).getD 0).testBit i = true)
  | [], s, h => .inl h
  | e :: es, s, h => by
    simp only [List.foldl_cons] at h
    rcases testBit_fold acc i es _ h with h1 | ⟨e', he', h2⟩
    · split at h1
      · rename_i hb
        simp only [Nat.testBit_or, Bool.or_eq_true] at h1
        rcases h1 with h1 | h1 | h1
        · exact .inl h1
        · refine .inr ⟨e, by simp, hb, .inl ?_⟩
          rw [Nat.testBit_two_pow] at h1
          simpa using h1
        · exact .inr ⟨e, by simp, hb, .inr h1⟩
      · exact .inl h1
    · exact .inr ⟨e', by simp [he'], h2⟩
theorem mask_closed {l : List Oper} {S : Nat → Prop} (hback : ∀ j o, l[j]? = some o → ∀ e ∈ o.after.toList, Region.binds .any e = true → e.on < j)
    (hS : ∀ j o, l[j]? = some o → S j → ∀ e ∈ o.after.toList, Region.binds .any e = true → S e.on) : ∀ (j : Nat) (o : Oper), l[j]? = some o → (∀ e ∈ o.after.toList, Region.binds .any e = true → S e.on) →
      ∀ i, (((masks l)[j]?).getD 0).testBit i = true → i < j ∧ S i := by
  intro j
  induction j using Nat.strongRecOn with
  | _ j ih =>
    intro o ho hpre i hi
    obtain ⟨hm, hm'⟩ := masks_get ho
    rw [hm, Option.getD_some] at hi
    rcases testBit_fold _ i _ _ hi with h0 | ⟨e, he, hb, h1⟩
    · simp at h0
    · have hlt := hback j o ho e he hb
      rcases h1 with rfl | h1
      · exact ⟨hlt, hpre e he hb⟩
      · rw [hm' _ hlt] at h1
        have hlen : e.on < l.length := by have := (List.getElem?_eq_some_iff.1 ho).1; omega
        have ho' : l[e.on]? = some l[e.on] := List.getElem?_eq_getElem hlen
        obtain ⟨h2, h3⟩ := ih e.on hlt _ ho' (hS e.on _ ho' (hpre e he hb)) i h1
        exact ⟨by omega, h3⟩
theorem wake_next (base : Nat) : ∀ (act : List Nat) (pend : List (Nat × O)) (on : List Nat) (H : Heap), (wake base act pend on H).next = H.next ∧ (wake base act pend on H).low = H.low
  | [], pend, on, H => ⟨rfl, rfl⟩
  | k :: rest, pend, on, H => by
    simp only [wake]
    split
    · exact wake_next base rest pend on H
    · split
      · exact wake_next base rest pend (k :: on) _
      · exact wake_next base rest pend on H
theorem wake_get (base : Nat) : ∀ (act : List Nat) (pend : List (Nat × O)) (on : List Nat) (H : Heap) (r : Nat) (o : O), (wake base act pend on H).get r = some o →
    H.get r = some o ∨ ∃ q ∈ act, q ∉ on ∧ r = base + q ∧ look pend r = some o
  | [], pend, on, H, r, o, h => .inl h
  | k :: rest, pend, on, H, r, o, h => by
    simp only [wake] at h
    split at h
    · rcases wake_get base rest pend on H r o h with h1 | ⟨q, h1, h2⟩
      · exact .inl h1
      · exact .inr ⟨q, by simp [h1], h2⟩
    · rename_i hk
      split at h
      · rename_i ob hl
        rcases wake_get base rest pend (k :: on) _ r o h with h1 | ⟨q, h1, h2, h3⟩
        · simp only [Heap.get, look] at h1
          split at h1
          · rename_i hr
            simp only [beq_iff_eq] at hr
            cases h1
            exact .inr ⟨k, by simp, by simpa using hk, hr, by rw [hr]; exact hl⟩
          · exact .inl h1
        · exact .inr ⟨q, by simp [h1], fun hq => h2 (by simp [hq]), h3⟩
      · rcases wake_get base rest pend on H r o h with h1 | ⟨q, h1, h2⟩
        · exact .inl h1
        · exact .inr ⟨q, by simp [h1], h2⟩
theorem wake_old (base : Nat) : ∀ (act : List Nat) (pend : List (Nat × O)) (on : List Nat) (H : Heap) (r : Nat) (o : O), H.get r = some o → (∀ q ∈ act, q ∉ on → r ≠ base + q) → (wake base act pend on H).get r = some o
  | [], pend, on, H, r, o, h, _ => h
  | k :: rest, pend, on, H, r, o, h, hn => by
    simp only [wake]
    split
    · exact wake_old base rest pend on H r o h fun q hq => hn q (by simp [hq])
    · rename_i hk
      have hk' : k ∉ on := by simpa using hk
      split
      · refine wake_old base rest pend (k :: on) _ r o ?_ fun q hq hq' => hn q (by simp [hq]) fun h => hq' (by simp [h])
        simp only [Heap.get, look]
        rw [if_neg (by simpa using hn k (by simp) hk')]
        exact h
      · exact wake_old base rest pend on H r o h fun q hq => hn q (by simp [hq])
theorem wake_new (base : Nat) : ∀ (act : List Nat) (pend : List (Nat × O)) (on : List Nat) (H : Heap) (q : Nat) (o : O), q ∈ act → q ∉ on → look pend (base + q) = some o → (wake base act pend on H).get (base + q) = some o
  | [], pend, on, H, q, o, h, _, _ => by simp at h
  | k :: rest, pend, on, H, q, o, h, hn, hl => by
    simp only [wake]
    by_cases hqk : q = k
    · subst hqk
      rw [if_neg (by simpa using hn), hl]
      refine wake_old base rest pend (q :: on) _ (base + q) o (by simp [Heap.get, look]) fun q' _ hq' heq => hq' ?_
      have : q' = q := by omega
      simp [this]
    · have hq : q ∈ rest := by simpa [hqk] using h
      split
      · exact wake_new base rest pend on H q o hq hn hl
      · split
        · exact wake_new base rest pend (k :: on) _ q o hq (by simp [hqk, hn]) hl
        · exact wake_new base rest pend on H q o hq hn hl
theorem countTo_succ (c : Cls) (cls : List Cls) (j : Nat) : countTo c cls (j + 1) = countTo c cls j + (if cls[j]? = some c then 1 else 0) := by
  unfold countTo
  rw [List.take_add_one, List.countP_append]
  congr 1
  cases h : cls[j]? with
  | none => simp
  | some d => by_cases hd : d = c <;> simp [hd]
theorem countTo_mono (c : Cls) (cls : List Cls) {i j : Nat} (h : i ≤ j) : countTo c cls i ≤ countTo c cls j := by
  induction h with
  | refl => exact Nat.le_refl _
  | step _ ih => rw [countTo_succ]; omega
theorem countTo_lt (c : Cls) (cls : List Cls) {i j : Nat} (h : i < j) (hi : cls[i]? = some c) : countTo c cls i < countTo c cls j := by
  have h1 := countTo_mono c cls (show i + 1 ≤ j from h)
  rw [countTo_succ, if_pos hi] at h1
  omega
theorem countTo_inj (c : Cls) (cls : List Cls) {i j : Nat} (hi : cls[i]? = some c) (hj : cls[j]? = some c) (h : countTo c cls i = countTo c cls j) : i = j := by
  rcases Nat.lt_trichotomy i j with h1 | h1 | h1
  · have := countTo_lt c cls h1 hi; omega
  · exact h1
  · have := countTo_lt c cls h1 hj; omega
theorem look_append (l l' : List (Nat × O)) (r : Nat) : look (l ++ l') r = (look l r).or (look l' r) := by
  induction l with
  | nil => simp [look]
  | cons p l ih =>
    obtain ⟨k, o⟩ := p
    simp only [List.cons_append, look]
    split
    · simp
    · exact ih
theorem look_filter (f : Nat → Bool) (l : List (Nat × O)) (r : Nat) : look (l.filter fun p => f p.1) r = if f r then look l r else none := by
  induction l with
  | nil => simp [look]
  | cons p l ih =>
    obtain ⟨k, o⟩ := p
    simp only [List.filter_cons]
    by_cases hk : f k
    · simp only [hk, if_true, look]
      by_cases hr : r == k
      · have : r = k := by simpa using hr
        subst this
        simp [hk]
      · simp only [hr, Bool.false_eq_true, if_false]; exact ih
    · simp only [hk, Bool.false_eq_true, if_false, ih, look]
      by_cases hr : r == k
      · have : r = k := by simpa using hr
        subst this
        simp [hk]
      · simp [hr]
end Go.Aug
