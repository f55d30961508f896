/-
A region's plan, and memory with blocks beside it. Conditions: none.
-/
import Derived.Test.YtlnkifnkamojnaaGreatGC
namespace Go.Aug
variable {P : Program} {ρ ρ' : Ren} {Im Im' : Nat → Prop} {H : Heap} {w w' : World}
theorem Post.addAt {H1 H2 : Heap} {w1 : World} {o : O} {x : Obj} {r0 : Nat} (hlow : H.low ≤ H.next) (p : Post P ρ Im H w ρ' Im' H1 w1) (hx : RelO P ρ' Im' w1 o x)
    (h1 : H.next ≤ r0) (h2 : r0 < H1.next) (h3 : ρ' r0 = none) (hn : H2.next = H1.next) (hl : H2.low = H1.low) (hg : ∀ r, H2.get r = if r = r0 then some o else H1.get r) :
    Post P ρ Im H w (renAdd ρ' r0 w1.heap.size) Im' H2 (w1.alloc x) ∧ renAdd ρ' r0 w1.heap.size r0 = some w1.heap.size := by
  have hold : ∀ r b, ρ' r = some b → renAdd ρ' r0 w1.heap.size r = some b := fun r b e => by
    have : r ≠ r0 := fun h => by rw [h, h3] at e; cases e
    simp [renAdd, this, e]
  have hget : ∀ b, b < w1.heap.size → (w1.alloc x).heap[b]? = w1.heap[b]? := fun b hb => by
    show (w1.heap.push x)[b]? = w1.heap[b]?
    simp [Array.getElem?_push, Nat.ne_of_lt hb]
  have hlt : Later ρ' Im' w1 (renAdd ρ' r0 w1.heap.size) Im' (w1.alloc x) :=
    ⟨hold, fun _ h => h, fun b hb => hget b (p.sim.imlt b hb), fun b cs e f hb => ⟨cs, f, by rw [hget b (Array.getElem?_eq_some_iff.1 hb).1]; exact hb, rfl⟩⟩
  have hsz := p.size
  refine ⟨{ later := p.later.trans hlt, calm := p.calm.trans ⟨rfl, rfl, rfl⟩, sim := ?_, size := by simp; omega, foot := fun b hb hno => ?_, imfoot := p.imfoot, live := ?_, old := fun r hr => ?_, next := by rw [hn]; exact p.next, keep := ⟨by rw [hl]; exact p.keep.1, fun r hr => ?_⟩, sub := fun r o' hr hg' => ?_ }, by simp [renAdd]⟩
  · refine ⟨fun r o' hr => ?_, fun r r' o1 o2 b e1 e2 f1 f2 => ?_, fun r hr => ?_, fun b hb => ?_, by rw [hl, hn]; exact p.sim.low, p.sim.glob.later hlt⟩
    · rw [hg] at hr
      by_cases hr0 : r = r0
      · rw [if_pos hr0] at hr
        cases hr
        exact ⟨w1.heap.size, x, by simp [renAdd, hr0], fun hi => Nat.lt_irrefl _ (p.sim.imlt _ hi), alloc_new w1 x, hx.mono hlt⟩
      · rw [if_neg hr0] at hr
        obtain ⟨b, y, a1, a2, a3, a4⟩ := p.sim.obj r o' hr
        exact ⟨b, y, hold r b a1, a2, by rw [hget b (Array.getElem?_eq_some_iff.1 a3).1]; exact a3, a4.mono hlt⟩
    · rw [hg] at e1 e2
      by_cases hr : r = r0
      · by_cases hr' : r' = r0
        · omega
        · rw [if_neg hr'] at e2
          simp only [renAdd, hr', if_false] at f2
          simp only [renAdd, hr, if_true, Option.some.injEq] at f1
          have := p.sim.lt e2 f2
          omega
      · rw [if_neg hr] at e1
        simp only [renAdd, hr, if_false] at f1
        by_cases hr' : r' = r0
        · simp only [renAdd, hr', if_true, Option.some.injEq] at f2
          have := p.sim.lt e1 f1
          omega
        · rw [if_neg hr'] at e2
          simp only [renAdd, hr', if_false] at f2
          exact p.sim.inj r r' o1 o2 b e1 e2 f1 f2
    · have : r ≠ r0 := by omega
      simp only [renAdd, this, if_false]
      exact p.sim.fresh r (by omega)
    · have := p.sim.imlt b hb
      simp
      omega
  · rw [hget b (by omega)]
    exact p.foot b hb hno
  · intro r o' b hr e
    rw [hg] at hr
    by_cases hr0 : r = r0
    · simp only [renAdd, hr0, if_true, Option.some.injEq] at e
      exact .inl (by omega)
    · rw [if_neg hr0] at hr
      simp only [renAdd, hr0, if_false] at e
      exact p.live r o' b hr e
  · have : r ≠ r0 := by omega
    simp only [renAdd, this, if_false]
    exact p.old r hr
  · rw [hl] at hr
    have := p.keep.1
    rw [hg, if_neg (by omega)]
    exact p.keep.2 r hr
  · rw [hg, if_neg (by omega)] at hg'
    exact p.sub r o' hr hg'
theorem Post.frame {HS V V' HS' : Heap} (hs : Sim P ρ Im HS w) (hvn : V.next = HS.next) (hvl : V.low = HS.low) (hsub : ∀ r o, V.get r = some o → HS.get r = some o)
    (q : Post P ρ Im V w ρ' Im' V' w') (hn : HS'.next = V'.next) (hl : HS'.low = V'.low) (ha : ∀ r o, V'.get r = some o → HS'.get r = some o)
    (hb : ∀ r o, HS.get r = some o → V.get r = none → HS'.get r = some o) (hc : ∀ r o, HS'.get r = some o → V'.get r = some o ∨ (HS.get r = some o ∧ V.get r = none)) :
    Post P ρ Im HS w ρ' Im' HS' w' := by
  have hnot : ∀ r o b, HS.get r = some o → V.get r = none → ρ r = some b → ∀ r1 o1, V.get r1 = some o1 → ρ r1 ≠ some b := by
    intro r o b h1 h2 h3 r1 o1 h4 h5
    have := hs.inj r r1 o o1 b h1 (hsub r1 o1 h4) h3 h5
    subst this
    rw [h2] at h4
    cases h4
  have hltn : ∀ r o, HS.get r = some o → r < V.next := fun r o h => by
    obtain ⟨b, x, h1, _⟩ := hs.obj r o h
    rw [hvn]
    exact lt_of_fresh hs.fresh h1
  refine { later := q.later, calm := q.calm, sim := ?_, size := q.size, foot := fun b hb' hno => q.foot b hb' fun r o hr => hno r o (hsub r o hr), imfoot := fun b hb' hi => ?_, live := fun r o b hr e => ?_, old := fun r hr => q.old r (by omega), next := by have := q.next; omega, keep := ⟨by have := q.keep.1; omega, fun r hr => ?_⟩, sub := fun r o hr hg => ?_ }
  · refine ⟨fun r o hr => ?_, fun r r' o1 o2 b e1 e2 f1 f2 => ?_, fun r hr => q.sim.fresh r (by omega), q.sim.imlt, by have := q.sim.low; omega, q.sim.glob⟩
    · rcases hc r o hr with h1 | ⟨h1, h2⟩
      · exact q.sim.obj r o h1
      · obtain ⟨b, x, a1, a2, a3, a4⟩ := hs.obj r o h1
        have hno := hnot r o b h1 h2 a1
        have hblt := (Array.getElem?_eq_some_iff.1 a3).1
        refine ⟨b, x, q.later.ren r b a1, fun hi => ?_, by rw [q.foot b hblt hno]; exact a3, a4.mono q.later⟩
        rcases q.imfoot b hblt hi with h3 | ⟨r1, o1, h3, h4⟩
        · exact a2 h3
        · exact hno r1 o1 h3 h4
    · have mixed : ∀ r r' o1 o2, V'.get r = some o1 → HS.get r' = some o2 → V.get r' = none → ρ' r = some b → ρ' r' = some b → r = r' := by
        intro r r' o1 o2 e1 h2 h3 f1 f2
        rw [q.old r' (hltn r' o2 h2)] at f2
        rcases q.live r o1 b e1 f1 with h4 | ⟨r1, o3, h4, h5⟩
        · have := hs.lt h2 f2; omega
        · exact absurd h5 (hnot r' o2 b h2 h3 f2 r1 o3 h4)
      rcases hc r o1 e1 with h1 | ⟨h1, h1'⟩
      · rcases hc r' o2 e2 with h2 | ⟨h2, h2'⟩
        · exact q.sim.inj r r' o1 o2 b h1 h2 f1 f2
        · exact mixed r r' o1 o2 h1 h2 h2' f1 f2
      · rcases hc r' o2 e2 with h2 | ⟨h2, h2'⟩
        · exact (mixed r' r o2 o1 h2 h1 h1' f2 f1).symm
        · rw [q.old r (hltn r o1 h1)] at f1
          rw [q.old r' (hltn r' o2 h2)] at f2
          exact hs.inj r r' o1 o2 b h1 h2 f1 f2
  · rcases q.imfoot b hb' hi with h1 | ⟨r, o, h1, h2⟩
    · exact .inl h1
    · exact .inr ⟨r, o, hsub r o h1, h2⟩
  · rcases hc r o hr with h1 | ⟨h1, h2⟩
    · rcases q.live r o b h1 e with h3 | ⟨r1, o1, h3, h4⟩
      · exact .inl h3
      · exact .inr ⟨r1, o1, hsub r1 o1 h3, h4⟩
    · rw [q.old r (hltn r o h1)] at e
      exact .inr ⟨r, o, h1, e⟩
  · rw [hl] at hr
    have hk := q.keep.2 r hr
    cases hv : V.get r with
    | some o => rw [hsub r o hv]; exact ha r o (hk.trans hv)
    | none =>
      cases hS : HS.get r with
      | some o => exact hb r o hS hv
      | none =>
        cases hS' : HS'.get r with
        | none => rfl
        | some o =>
          rcases hc r o hS' with h1 | ⟨h1, _⟩
          · rw [hk, hv] at h1; cases h1
          · rw [hS] at h1; cases h1
  · rcases hc r o hg with h1 | ⟨h1, _⟩
    · obtain ⟨o', h2⟩ := q.sub r o (by omega) h1
      exact ⟨o', hsub r o' h2⟩
    · exact ⟨o, h1⟩
structure Plan (P : Program) (ops : Array Oper) (ms : List Nat) (cls : List Cls) (ps : List POp) : Prop where
  len : ps.length = ops.size
  op : ∀ (j : Nat) (p : POp), ps[j]? = some p → ∃ o : Oper, ops[j]? = some o ∧ p.dst = o.dst ∧ compOp P o.op = (p.op, p.cls) ∧ compGuard ops o.guard = some p.guard ∧ cls[j]? = some p.cls
  back : ∀ (j : Nat) (o : Oper), ops.toList[j]? = some o → ∀ e ∈ o.after.toList, Region.binds .any e = true → e.on < j
  act : ∀ (j : Nat) (p : POp), ps[j]? = some p → ∀ q ∈ p.act, ∃ i : Nat, i < j ∧ cls[i]? = some .news ∧ ((ms[j]?).getD 0).testBit i = true ∧ countTo .news cls i = q
  lo : ∀ (j : Nat) (p : POp), ps[j]? = some p → p.cls = .reads → ∀ c : Nat, c < ps.length → cls[c]? = some .acts → (((ms[j]?).getD 0).testBit c = true ↔ countTo .acts cls c < p.lo)
  still : ∀ (j : Nat) (p : POp), ps[j]? = some p → p.cls = .acts → p.still = false → ∀ i : Nat, i < ps.length → cls[i]? = some .reads → sided ms i j = true
  weak : ∀ (j : Nat) (p : POp), ps[j]? = some p → p.cls = .acts → p.still = true → p.lo = 1 → ∀ (i : Nat) (q : POp), ps[i]? = some q → q.cls = .reads → sided ms i j = true ∨ q.lo = 0
  pair : ∀ (i j : Nat) (p q : POp), i < j → ps[i]? = some p → ps[j]? = some q → ((ms[j]?).getD 0).testBit i = true ∨
    (¬ (p.cls = .acts ∧ q.cls = .acts) ∧ (∀ d, p.dst = some d → d ∉ q.looks ∧ q.dst ≠ some d) ∧ ∀ d, q.dst = some d → d ∉ p.looks)
theorem compDraw_get {ops : Array Oper} {ms : List Nat} {cls : List Cls} : ∀ (l : List Oper) (i : Nat) (ps : List POp), compDraw P ops ms cls l i = some ps →
    ps.length = l.length ∧ ∀ (j : Nat) (p : POp), ps[j]? = some p → ∃ o : Oper, l[j]? = some o ∧ p.dst = o.dst ∧ compOp P o.op = (p.op, p.cls) ∧ compGuard ops o.guard = some p.guard
  | [], i, ps, h => by
    simp only [compDraw, Option.some.injEq] at h
    subst h
    exact ⟨rfl, fun j p hp => by simp at hp⟩
  | o :: l, i, ps, h => by
    simp only [compDraw] at h
    split at h
    · rename_i g pl hg hpl
      obtain ⟨h1, h2⟩ := compDraw_get l (i + 1) pl hpl
      cases h
      refine ⟨by simp [h1], fun j p hp => ?_⟩
      cases j with
      | zero =>
        simp only [List.getElem?_cons_zero, Option.some.injEq] at hp
        subst hp
        exact ⟨o, rfl, rfl, rfl, hg⟩
      | succ j => exact h2 j p (by simpa using hp)
    · cases h
theorem plan_of {ops : Array Oper} {ps : List POp} (h : compDraw P ops (masks ops.toList) (ops.toList.map fun o => (compOp P o.op).2) ops.toList 0 = some ps)
    (hok : drawOk ops.toList (masks ops.toList) (ops.toList.map fun o => (compOp P o.op).2) ps = true) : Plan P ops (masks ops.toList) (ops.toList.map fun o => (compOp P o.op).2) ps := by
  obtain ⟨hl, hget⟩ := compDraw_get ops.toList 0 ps h
  have hlen : ps.length = ops.size := by simpa using hl
  unfold drawOk at hok
  rw [List.all_eq_true] at hok
  have at_ : ∀ (j : Nat) (q : POp), ps[j]? = some q → ∃ o : Oper, ops.toList[j]? = some o ∧ j < ps.length ∧
      ((((o.after.toList.all fun e => !Region.binds .any e || decide (e.on < j)) = true ∧
      (q.act.all fun k => (List.range j).any fun i => (ops.toList.map fun o => (compOp P o.op).2)[i]? == some .news && (((masks ops.toList)[j]?).getD 0).testBit i && countTo .news (ops.toList.map fun o => (compOp P o.op).2) i == k) = true) ∧
      (q.cls != .reads || (List.range ps.length).all fun c => (ops.toList.map fun o => (compOp P o.op).2)[c]? != some .acts || ((((masks ops.toList)[j]?).getD 0).testBit c == decide (countTo .acts (ops.toList.map fun o => (compOp P o.op).2) c < q.lo))) = true) ∧
      (q.cls != .acts || (if q.still then q.lo != 1 || (List.range ps.length).all fun i => match ps[i]? with | some p => p.cls != .reads || sided (masks ops.toList) i j || p.lo == 0 | none => true else (List.range ps.length).all fun i => (ops.toList.map fun o => (compOp P o.op).2)[i]? != some .reads || sided (masks ops.toList) i j)) = true) ∧
      ((List.range j).all fun i =>
        match ps[i]? with
        | some p => (((masks ops.toList)[j]?).getD 0).testBit i ||
            (!(p.cls == .acts && q.cls == .acts) &&
             (match p.dst with | some d => !q.looks.contains d && q.dst != some d | none => true) &&
             (match q.dst with | some d => !p.looks.contains d | none => true))
        | none => false) = true := fun j q hq => by
    have hlt := (List.getElem?_eq_some_iff.1 hq).1
    have hok' := hok j (List.mem_range.2 hlt)
    obtain ⟨o, ho, _⟩ := hget j q hq
    simp only [hq, ho, Bool.and_eq_true] at hok'
    exact ⟨o, ho, hlt, hok'⟩
  refine ⟨hlen, fun j p hp => ?_, fun j o ho e he hb => ?_, fun j p hp q hq => ?_, fun j p hp hc c hcl hcc => ?_, fun j p hp hc hst i hil hi => ?_, fun j p hp hc hst hlo i q hq hqc => ?_, fun i j p q hij hp hq => ?_⟩
  · obtain ⟨o, ho, h1, h2, h3⟩ := hget j p hp
    exact ⟨o, by simpa using ho, h1, h2, h3, by rw [List.getElem?_map, ho]; simp [h2]⟩
  · have hlt : j < ps.length := by have := (List.getElem?_eq_some_iff.1 ho).1; simp at this; omega
    obtain ⟨o', ho', _, ⟨⟨⟨⟨h1, _⟩, _⟩, _⟩, _⟩⟩ := at_ j ps[j] (List.getElem?_eq_getElem hlt)
    rw [ho] at ho'
    cases ho'
    rw [List.all_eq_true] at h1
    have := h1 e he
    simp only [hb, Bool.not_true, Bool.false_or, decide_eq_true_eq] at this
    exact this
  · obtain ⟨o', ho', _, ⟨⟨⟨⟨_, h1⟩, _⟩, _⟩, _⟩⟩ := at_ j p hp
    rw [List.all_eq_true] at h1
    have := h1 q hq
    rw [List.any_eq_true] at this
    obtain ⟨i, hi, h2⟩ := this
    simp only [Bool.and_eq_true, beq_iff_eq] at h2
    exact ⟨i, List.mem_range.1 hi, h2.1.1, h2.1.2, h2.2⟩
  · obtain ⟨o', ho', _, ⟨⟨⟨⟨_, _⟩, h1⟩, _⟩, _⟩⟩ := at_ j p hp
    simp only [hc, bne_self_eq_false, Bool.false_or, List.all_eq_true] at h1
    have := h1 c (List.mem_range.2 hcl)
    simp only [hcc, bne_self_eq_false, Bool.false_or, beq_iff_eq] at this
    rw [this]
    simp
  · obtain ⟨o', ho', _, ⟨⟨⟨⟨_, _⟩, _⟩, h1⟩, _⟩⟩ := at_ j p hp
    simp only [hc, bne_self_eq_false, hst, Bool.false_or, Bool.false_eq_true, if_false, List.all_eq_true] at h1
    have := h1 i (List.mem_range.2 hil)
    simpa [hi] using this
  · obtain ⟨o', ho', _, ⟨⟨⟨⟨_, _⟩, _⟩, h1⟩, _⟩⟩ := at_ j p hp
    simp only [hc, hlo, bne_self_eq_false, hst, Bool.false_or, if_true, List.all_eq_true] at h1
    have := h1 i (List.mem_range.2 (List.getElem?_eq_some_iff.1 hq).1)
    simp only [hq, hqc, bne_self_eq_false, Bool.false_or, Bool.or_eq_true, beq_iff_eq] at this
    exact this
  · obtain ⟨o', ho', _, ⟨⟨⟨⟨_, _⟩, _⟩, _⟩, h1⟩⟩ := at_ j q hq
    rw [List.all_eq_true] at h1
    have := h1 i (List.mem_range.2 hij)
    simp only [hp, Bool.or_eq_true, Bool.and_eq_true] at this
    rcases this with h2 | ⟨⟨h2, h3⟩, h4⟩
    · exact .inl h2
    · refine .inr ⟨fun ⟨ha, hb⟩ => by simp [ha, hb] at h2, fun d hd => ?_, fun d hd => ?_⟩
      · simp only [hd] at h3
        simpa using h3
      · simp only [hd] at h4
        simpa using h4
end Go.Aug
namespace Go.Aug
variable {P : Program}
theorem evD_shape {call : CallF} {base : Nat} {p : POp} {s s' : DS} (h : evD call base p s = some s') :
    (∃ d, s'.env = putE s.env p.dst d) ∧
    (p.cls = .news → s'.rank = s.rank + 1 ∧ s'.Hs = s.Hs ∧ (s'.pend = s.pend ∨ ∃ o, s'.pend = (base + s.rank, o) :: s.pend)) ∧
    (p.cls = .acts → s'.rank = s.rank ∧ s'.pend = s.pend ∧ ∃ x, s'.Hs = x :: s.Hs) ∧
    (p.cls = .plain ∨ p.cls = .reads → s'.rank = s.rank ∧ s'.pend = s.pend ∧ s'.Hs = s.Hs) := by
  unfold evD at h
  split at h
  · split at h
    · rename_i hc
      split at h
      · cases h; exact ⟨⟨_, rfl⟩, by simp [hc], by simp [hc], by simp [hc]⟩
      · cases h
    · rename_i hc
      split at h
      · cases h; exact ⟨⟨_, rfl⟩, by simp [hc], by simp [hc], by simp [hc]⟩
      · cases h
    · rename_i hc
      split at h
      · cases h; exact ⟨⟨_, rfl⟩, by simp [hc], by simp [hc], by simp [hc]⟩
      · cases h
    · rename_i hc
      simp only at h
      split at h
      · split at h
        · split at h
          · cases h; exact ⟨⟨_, rfl⟩, by simp [hc], by simp [hc], by simp [hc]⟩
          · cases h
        · cases h
      · split at h
        · cases h; exact ⟨⟨_, rfl⟩, by simp [hc], by simp [hc], by simp [hc]⟩
        · cases h
  · split at h
    · rename_i hc; cases h; exact ⟨⟨_, rfl⟩, by simp [hc], by simp [hc], by simp [hc]⟩
    · rename_i hc; cases h; exact ⟨⟨_, rfl⟩, by simp [hc], by simp [hc], by simp [hc]⟩
    · rename_i hc; cases h; exact ⟨⟨_, rfl⟩, by simp [hc], by simp [hc], by simp [hc]⟩
    · rename_i hc; cases h; exact ⟨⟨_, rfl⟩, by simp [hc], by simp [hc], by simp [hc]⟩
theorem putE_length (e : Env) (dst : Option Nat) (d : D) : (putE e dst d).length = e.length := by cases dst <;> simp [putE]
theorem putE_get_ne {e : Env} {dst : Option Nat} {d : D} {t : Nat} (h : dst ≠ some t) : Env.get (putE e dst d) t = Env.get e t := by
  cases dst with
  | none => rfl
  | some i =>
    have : i ≠ t := fun e => h (by rw [e])
    simp [putE, Env.get, List.getElem?_set_ne this]
theorem putE_get_eq {e : Env} {d : D} {t : Nat} (h : t < e.length) : Env.get (putE e (some t) d) t = d := by
  simp [putE, Env.get, h]
theorem DS.at_cons {s s' : DS} {x : Heap × List Nat} (h : s'.Hs = x :: s.Hs) {k : Nat} (hk : k < s.Hs.length) : s'.at k = s.at k := by
  simp only [DS.at, h, List.length_cons]
  rw [show s.Hs.length + 1 - 1 - k = (s.Hs.length - 1 - k) + 1 from by omega]
  rfl
theorem DS.at_same {s s' : DS} (h : s'.Hs = s.Hs) (k : Nat) : s'.at k = s.at k := by simp only [DS.at, h]
theorem DS.cur_at {s : DS} {k : Nat} (h : s.Hs.length = k + 1) : s.cur = s.at k := by
  simp only [DS.cur, DS.at, h]
  cases hs : s.Hs with
  | nil => rw [hs] at h; simp at h
  | cons x l => simp
structure Trace (P : Program) (call : CallF) (base : Nat) (cls : List Cls) (ps : List POp) (n0 : Nat) (st : Nat → DS) : Prop where
  step : ∀ (j : Nat) (p : POp), ps[j]? = some p → evD call base p (st j) = some (st (j + 1))
  clsAt : ∀ (j : Nat) (p : POp), ps[j]? = some p → cls[j]? = some p.cls
  start : (st 0).rank = 0 ∧ (st 0).pend = [] ∧ (st 0).Hs.length = 1 ∧ (st 0).env.length = n0
section
variable {call : CallF} {base : Nat} {cls : List Cls} {ps : List POp} {n0 : Nat} {st : Nat → DS}
theorem Trace.at_ (T : Trace P call base cls ps n0 st) : ∀ j, j ≤ ps.length → (st j).rank = countTo .news cls j ∧ (st j).Hs.length = countTo .acts cls j + 1 ∧ (st j).env.length = n0 := by
  intro j
  induction j with
  | zero => intro _; exact ⟨by simp [T.start.1, countTo], by simp [T.start.2.2.1, countTo], T.start.2.2.2⟩
  | succ j ih =>
    intro hj
    obtain ⟨h1, h2, h3⟩ := ih (by omega)
    have hp : ps[j]? = some ps[j] := List.getElem?_eq_getElem (by omega)
    have hc := T.clsAt j _ hp
    obtain ⟨⟨d, e1⟩, e2, e3, e4⟩ := evD_shape (T.step j _ hp)
    refine ⟨?_, ?_, by rw [e1, putE_length]; exact h3⟩
    · rw [countTo_succ, hc]
      cases hcl : (ps[j]).cls with
      | news => rw [(e2 hcl).1, h1]; simp
      | acts => rw [(e3 hcl).1, h1]; simp
      | plain => rw [(e4 (.inl hcl)).1, h1]; simp
      | reads => rw [(e4 (.inr hcl)).1, h1]; simp
    · rw [countTo_succ, hc]
      cases hcl : (ps[j]).cls with
      | news => rw [(e2 hcl).2.1, h2]; simp
      | acts => obtain ⟨x, hx⟩ := (e3 hcl).2.2; rw [hx]; simp [h2]
      | plain => rw [(e4 (.inl hcl)).2.2, h2]; simp
      | reads => rw [(e4 (.inr hcl)).2.2, h2]; simp
theorem Trace.chain (T : Trace P call base cls ps n0 st) {j : Nat} : ∀ m, j ≤ m → m ≤ ps.length → ∀ k, k ≤ countTo .acts cls j → (st m).at k = (st j).at k := by
  intro m hm
  induction hm with
  | refl => intro _ k _; rfl
  | @step m hm ih =>
    intro hle k hk
    have hp : ps[m]? = some ps[m] := List.getElem?_eq_getElem (by omega)
    obtain ⟨_, e2, e3, e4⟩ := evD_shape (T.step m _ hp)
    have hlen := (T.at_ m (by omega)).2.1
    have hmono := countTo_mono .acts cls hm
    rw [← ih (by omega) k hk]
    cases hcl : (ps[m]).cls with
    | news => exact DS.at_same (e2 hcl).2.1 k
    | acts => obtain ⟨x, hx⟩ := (e3 hcl).2.2; exact DS.at_cons hx (by omega)
    | plain => exact DS.at_same (e4 (.inl hcl)).2.2 k
    | reads => exact DS.at_same (e4 (.inr hcl)).2.2 k
theorem Trace.pendIds (T : Trace P call base cls ps n0 st) : ∀ j, j ≤ ps.length → ∀ r o, look (st j).pend r = some o → ∃ i, i < j ∧ cls[i]? = some .news ∧ r = base + countTo .news cls i := by
  intro j
  induction j with
  | zero => intro _ r o h; rw [T.start.2.1] at h; simp [look] at h
  | succ j ih =>
    intro hj r o h
    have hp : ps[j]? = some ps[j] := List.getElem?_eq_getElem (by omega)
    have hc := T.clsAt j _ hp
    obtain ⟨_, e2, e3, e4⟩ := evD_shape (T.step j _ hp)
    have old : look (st j).pend r = some o → ∃ i, i < j + 1 ∧ cls[i]? = some .news ∧ r = base + countTo .news cls i := fun h => by
      obtain ⟨i, h1, h2, h3⟩ := ih (by omega) r o h
      exact ⟨i, by omega, h2, h3⟩
    cases hcl : (ps[j]).cls with
    | news =>
      rcases (e2 hcl).2.2 with hpe | ⟨ob, hpe⟩
      · rw [hpe] at h; exact old h
      · rw [hpe] at h
        simp only [look] at h
        split at h
        · rename_i hr
          refine ⟨j, by omega, by rw [hc, hcl], ?_⟩
          rw [← (T.at_ j (by omega)).1]
          simpa using hr
        · exact old h
    | acts => rw [(e3 hcl).2.1] at h; exact old h
    | plain => rw [(e4 (.inl hcl)).2.1] at h; exact old h
    | reads => rw [(e4 (.inr hcl)).2.1] at h; exact old h
theorem Trace.pendAt (T : Trace P call base cls ps n0 st) {i : Nat} (hi : cls[i]? = some .news) : ∀ j m, i < j → j ≤ m → m ≤ ps.length → look (st m).pend (base + countTo .news cls i) = look (st j).pend (base + countTo .news cls i) := by
  intro j m hij hm
  induction hm with
  | refl => intro _; rfl
  | @step m hm ih =>
    intro hle
    have hp : ps[m]? = some ps[m] := List.getElem?_eq_getElem (by omega)
    have hc := T.clsAt m _ hp
    obtain ⟨_, e2, e3, e4⟩ := evD_shape (T.step m _ hp)
    rw [← ih (by omega)]
    cases hcl : (ps[m]).cls with
    | news =>
      rcases (e2 hcl).2.2 with hpe | ⟨ob, hpe⟩
      · rw [hpe]
      · rw [hpe]
        simp only [look]
        rw [if_neg]
        simp only [beq_iff_eq]
        rw [(T.at_ m (by omega)).1]
        intro he
        have he' : countTo .news cls i = countTo .news cls m := by simpa using he
        have := countTo_inj .news cls hi (by rw [hc, hcl]) he'
        have hm' : j ≤ m := hm
        omega
    | acts => rw [(e3 hcl).2.1]
    | plain => rw [(e4 (.inl hcl)).2.1]
    | reads => rw [(e4 (.inr hcl)).2.1]
theorem Trace.envAt (T : Trace P call base cls ps n0 st) {t i : Nat} : ∀ j, i ≤ j → j ≤ ps.length → (∀ q p, i ≤ q → q < j → ps[q]? = some p → p.dst ≠ some t) → Env.get (st j).env t = Env.get (st i).env t := by
  intro j hij
  induction hij with
  | refl => intro _ _; rfl
  | @step m hm ih =>
    intro hle hno
    have hp : ps[m]? = some ps[m] := List.getElem?_eq_getElem (by omega)
    obtain ⟨⟨d, e1⟩, _⟩ := evD_shape (T.step m _ hp)
    rw [e1, putE_get_ne (hno m _ hm (by omega) hp), ih (by omega) fun q p h1 h2 => hno q p h1 (by omega)]
end
theorem countTo_surj (c : Cls) (cls : List Cls) : ∀ n k, k < countTo c cls n → ∃ i, i < n ∧ cls[i]? = some c ∧ countTo c cls i = k := by
  intro n
  induction n with
  | zero => intro k h; simp [countTo] at h
  | succ n ih =>
    intro k h
    rw [countTo_succ] at h
    by_cases hk : k < countTo c cls n
    · obtain ⟨i, h1, h2, h3⟩ := ih k hk
      exact ⟨i, by omega, h2, h3⟩
    · split at h
      · rename_i hn
        exact ⟨n, by omega, hn, by omega⟩
      · omega
theorem Sim.sub {ρ : Ren} {Im : Nat → Prop} {H V : Heap} {w : World} (h : Sim P ρ Im H w) (hn : V.next = H.next) (hl : V.low ≤ V.next) (hs : ∀ r o, V.get r = some o → H.get r = some o) : Sim P ρ Im V w :=
  ⟨fun r o hr => h.obj r o (hs r o hr), fun r r' o o' b h1 h2 => h.inj r r' o o' b (hs r o h1) (hs r' o' h2), fun r hr => h.fresh r (by omega), h.imlt, hl, h.glob⟩
theorem Post.congr {ρ ρ' : Ren} {Im Im' : Nat → Prop} {H H1 H2 : Heap} {w w' : World} (p : Post P ρ Im H w ρ' Im' H1 w') (hn : H2.next = H1.next) (hl : H2.low = H1.low) (hg : ∀ r, H2.get r = H1.get r) : Post P ρ Im H w ρ' Im' H2 w' :=
  { later := p.later, calm := p.calm, sim := ⟨fun r o hr => p.sim.obj r o (by rw [← hg]; exact hr), fun r r' o o' b h1 h2 => p.sim.inj r r' o o' b (by rw [← hg]; exact h1) (by rw [← hg]; exact h2), fun r hr => p.sim.fresh r (by omega), p.sim.imlt, by have := p.sim.low; omega, p.sim.glob⟩,
    size := p.size, foot := p.foot, imfoot := p.imfoot, live := fun r o b hr => p.live r o b (by rw [← hg]; exact hr), old := p.old, next := by rw [hn]; exact p.next, keep := ⟨by rw [hl]; exact p.keep.1, fun r hr => by rw [hg]; exact p.keep.2 r (by omega)⟩, sub := fun r o hr hg' => p.sub r o hr (by rw [← hg]; exact hg') }
end Go.Aug
namespace Go.Aug
variable {P : Program}
structure Inv (P : Program) (ps : List POp) (cls : List Cls) (st : Nat → DS) (e : Env) (ρ : Ren) (Im : Nat → Prop) (H : Heap) (w : World) (S : Nat → Prop) (k : Nat) (tmps : Array Value) (w' : World)
    (ρ' : Ren) (Im' : Nat → Prop) (HS : Heap) : Prop where
  post : Post P ρ Im H w ρ' Im' HS w'
  next : HS.next = ((st ps.length).at k).1.next
  low : HS.low = ((st ps.length).at k).1.low
  ga : ∀ r o, ((st ps.length).at k).1.get r = some o → HS.get r = some o
  gb : ∀ i : Nat, S i → cls[i]? = some .news → countTo .news cls i ∉ ((st ps.length).at k).2 → ∀ o, look (st ps.length).pend (H.next + countTo .news cls i) = some o → HS.get (H.next + countTo .news cls i) = some o
  gc : ∀ r o, HS.get r = some o → ((st ps.length).at k).1.get r = some o ∨
    ∃ i : Nat, S i ∧ cls[i]? = some .news ∧ r = H.next + countTo .news cls i ∧ countTo .news cls i ∉ ((st ps.length).at k).2 ∧ look (st ps.length).pend r = some o
  res : ∀ i : Nat, i < ps.length → ¬ S i → cls[i]? = some .news → ρ' (H.next + countTo .news cls i) = none
  env : ∀ t, t < e.length → (∃ (i : Nat) (p : POp), S i ∧ ps[i]? = some p ∧ p.dst = some t ∧ (∀ (i' : Nat) (p' : POp), S i' → ps[i']? = some p' → p'.dst = some t → i' ≤ i) ∧ Rel ρ' Im' w' (Env.get (st (i + 1)).env t) (gv tmps t)) ∨
    ((∀ (i : Nat) (p : POp), S i → ps[i]? = some p → p.dst ≠ some t) ∧ Rel ρ' Im' w' (Env.get e t) (gv tmps t))
  size : tmps.size = e.length
  acts : ∀ c : Nat, c < ps.length → cls[c]? = some .acts → (S c ↔ countTo .acts cls c < k)
  kle : k ≤ countTo .acts cls ps.length
  dom : ∀ q, q < countTo .news cls ps.length → q ∉ ((st ps.length).at k).2 → ((st ps.length).at k).1.get (H.next + q) = none
  on : ∀ q, q ∈ ((st ps.length).at k).2 → ∃ i : Nat, S i ∧ cls[i]? = some .news ∧ countTo .news cls i = q
  still : ∀ (c : Nat) (p : POp), S c → ps[c]? = some p → p.cls = .acts → p.still = true →
    (∀ r o, (p.lo = 1 → r < ((st ps.length).at 0).1.next) → ((st ps.length).at (countTo .acts cls c)).1.get r = some o → ((st ps.length).at (countTo .acts cls c + 1)).1.get r = some o) ∧
    ∀ q, q ∈ ((st ps.length).at (countTo .acts cls c + 1)).2 → q ∉ ((st ps.length).at (countTo .acts cls c)).2 → ∀ o, look (st ps.length).pend (H.next + q) = some o → ((st ps.length).at (countTo .acts cls c + 1)).1.get (H.next + q) = some o
  nle : H.next + countTo .news cls ps.length ≤ HS.next
  sub : ∀ i, S i → i < ps.length
  n0 : H.next + countTo .news cls ps.length ≤ ((st ps.length).at 0).1.next
  g0 : ∀ r o, ((st ps.length).at 0).1.get r = some o → r < ((st ps.length).at 0).1.next
def Closed (ops : Array Oper) (S : Nat → Prop) : Prop := ∀ (j : Nat) (o : Oper), ops.toList[j]? = some o → S j → ∀ e ∈ o.after.toList, Region.binds .any e = true → S e.on
section
variable {ops : Array Oper} {ms : List Nat} {cls : List Cls} {ps : List POp} {st : Nat → DS} {call : CallF} {e : Env} {ρ ρ' : Ren} {Im Im' : Nat → Prop} {H HS : Heap} {w w' : World} {S : Nat → Prop} {k : Nat} {tmps : Array Value}
theorem ahead_in (pl : Plan P ops (masks ops.toList) cls ps) (hS : Closed ops S) {j : Nat} {o : Oper} (ho : ops.toList[j]? = some o) (hpre : ∀ e ∈ o.after.toList, Region.binds .any e = true → S e.on) :
    ∀ i, (((masks ops.toList)[j]?).getD 0).testBit i = true → i < j ∧ S i := mask_closed pl.back hS j o ho hpre
theorem looks_ok (pl : Plan P ops (masks ops.toList) cls ps) (T : Trace P call H.next cls ps e.length st) (h0 : (st 0).env = e) (hS : Closed ops S) (hi : Inv P ps cls st e ρ Im H w S k tmps w' ρ' Im' HS)
    {j : Nat} {p : POp} {o : Oper} (hp : ps[j]? = some p) (ho : ops.toList[j]? = some o) (hpre : ∀ e ∈ o.after.toList, Region.binds .any e = true → S e.on) (hj : ¬ S j) {t : Nat} (ht : t ∈ p.looks) (htl : t < e.length) :
    Rel ρ' Im' w' (Env.get (st j).env t) (gv tmps t) := by
  have hjl := (List.getElem?_eq_some_iff.1 hp).1
  have hin := ahead_in pl hS ho hpre
  -- whoever writes t and stands ahead in the text is listed; whoever is listed and writes t stands ahead
  have fwd : ∀ (i : Nat) (q : POp), i < j → ps[i]? = some q → q.dst = some t → S i := fun i q hij hq hd => by
    rcases pl.pair i j q p hij hq hp with h | ⟨_, h, _⟩
    · exact (hin i h).2
    · exact absurd ht (h t hd).1
  have bwd : ∀ (i : Nat) (q : POp), S i → ps[i]? = some q → q.dst = some t → i < j := fun i q hSi hq hd => by
    rcases Nat.lt_trichotomy i j with h | h | h
    · exact h
    · subst h; exact absurd hSi hj
    · exfalso
      rcases pl.pair j i p q h hp hq with h1 | ⟨_, _, h1⟩
      · have hil := (List.getElem?_eq_some_iff.1 hq).1
        have hil' : i < ops.toList.length := by have := pl.len; simp at this ⊢; omega
        have hoi : ops.toList[i]? = some (ops.toList[i]'hil') := List.getElem?_eq_getElem hil'
        exact hj (ahead_in pl hS hoi (hS i _ hoi hSi) j h1).2
      · exact h1 t hd ht
  rcases hi.env t htl with ⟨i, q, h1, h2, h3, h4, h5⟩ | ⟨h1, h2⟩
  · have hij := bwd i q h1 h2 h3
    rw [T.envAt (i := i + 1) j (by omega) (by omega) fun m q' hm1 hm2 hq' hd => by
      have := h4 m q' (fwd m q' hm2 hq' hd) hq' hd
      omega]
    exact h5
  · rw [T.envAt (i := 0) j (Nat.zero_le _) (by omega) fun m q' _ hm hq' hd => h1 m q' (fwd m q' hm hq' hd) hq' hd, h0]
    exact h2
theorem frame_ok (pl : Plan P ops (masks ops.toList) cls ps) (T : Trace P call H.next cls ps e.length st) (h0 : (st 0).env = e) (hS : Closed ops S) (hi : Inv P ps cls st e ρ Im H w S k tmps w' ρ' Im' HS)
    {j : Nat} {p : POp} {o : Oper} (hp : ps[j]? = some p) (ho : ops.toList[j]? = some o) (hpre : ∀ e ∈ o.after.toList, Region.binds .any e = true → S e.on) (hj : ¬ S j) :
    ∃ f : Env, RelL ρ' Im' w' f tmps ∧ ∀ t ∈ p.looks, Env.get f t = Env.get (st j).env t := by
  have hjl := (List.getElem?_eq_some_iff.1 hp).1
  have hlen := (T.at_ j (by omega)).2.2
  refine ⟨(List.range e.length).map fun t => if t ∈ p.looks then Env.get (st j).env t else .v (gv tmps t), ⟨by simp [hi.size], fun t d hd => ?_⟩, fun t ht => ?_⟩
  · rw [List.getElem?_map] at hd
    cases hq : (List.range e.length)[t]? with
    | none => simp [hq] at hd
    | some q =>
      obtain ⟨h1, h2⟩ := List.getElem?_eq_some_iff.1 hq
      simp only [List.length_range] at h1
      simp only [List.getElem_range] at h2
      subst h2
      simp only [hq, Option.map_some, Option.some.injEq] at hd
      subst hd
      split
      · rename_i hin
        exact looks_ok pl T h0 hS hi hp ho hpre hj hin h1
      · exact .v _
  · by_cases htl : t < e.length
    · simp [Env.get, htl, ht]
    · have : (st j).env[t]? = none := List.getElem?_eq_none_iff.2 (by omega)
      simp [Env.get, htl, this]
theorem env_step (pl : Plan P ops (masks ops.toList) cls ps) (T : Trace P call H.next cls ps e.length st) (hS : Closed ops S) (hi : Inv P ps cls st e ρ Im H w S k tmps w' ρ' Im' HS)
    {j : Nat} {p : POp} {o : Oper} (hp : ps[j]? = some p) (ho : ops.toList[j]? = some o) (hpre : ∀ e ∈ o.after.toList, Region.binds .any e = true → S e.on) (hj : ¬ S j)
    {ρ'' : Ren} {Im'' : Nat → Prop} {w'' : World} (hl : Later ρ' Im' w' ρ'' Im'' w'') {d : D} {v : Value} (he : (st (j + 1)).env = putE (st j).env p.dst d) (hd : Rel ρ'' Im'' w'' d v) {a : Act} (ha : a.tmps = tmps) :
    (∀ t, t < e.length → (∃ (i : Nat) (q : POp), (S i ∨ i = j) ∧ ps[i]? = some q ∧ q.dst = some t ∧ (∀ (i' : Nat) (p' : POp), (S i' ∨ i' = j) → ps[i']? = some p' → p'.dst = some t → i' ≤ i) ∧ Rel ρ'' Im'' w'' (Env.get (st (i + 1)).env t) (gv (a.put p.dst v).tmps t)) ∨
      ((∀ (i : Nat) (q : POp), (S i ∨ i = j) → ps[i]? = some q → q.dst ≠ some t) ∧ Rel ρ'' Im'' w'' (Env.get e t) (gv (a.put p.dst v).tmps t))) ∧ (a.put p.dst v).tmps.size = e.length := by
  have hjl := (List.getElem?_eq_some_iff.1 hp).1
  have hlen := (T.at_ j (by omega)).2.2
  have hin := ahead_in pl hS ho hpre
  have gvne : ∀ t, p.dst ≠ some t → gv (a.put p.dst v).tmps t = gv tmps t := fun t hne => by
    cases hds : p.dst with
    | none => simp [Act.put, ha]
    | some q =>
      have : q ≠ t := fun h => hne (by rw [hds, h])
      simp [Act.put, ha, gv, Array.getElem?_setIfInBounds_ne this]
  refine ⟨fun t htl => ?_, by cases hds : p.dst <;> simp [Act.put, ha, hi.size]⟩
  by_cases hdt : p.dst = some t
  · refine .inl ⟨j, p, .inr rfl, hp, hdt, fun i' p' hi' hp' hd' => ?_, ?_⟩
    · rcases hi' with hSi | rfl
      · rcases Nat.lt_trichotomy i' j with h | h | h
        · omega
        · omega
        · exfalso
          rcases pl.pair j i' p p' h hp hp' with h1 | ⟨_, h1, _⟩
          · have hil := (List.getElem?_eq_some_iff.1 hp').1
            have hil' : i' < ops.toList.length := by have := pl.len; simp at this ⊢; omega
            have hoi : ops.toList[i']? = some (ops.toList[i']'hil') := List.getElem?_eq_getElem hil'
            exact hj (ahead_in pl hS hoi (hS i' _ hoi hSi) j h1).2
          · exact (h1 t hdt).2 hd'
      · exact Nat.le_refl _
    · rw [he, hdt, putE_get_eq (by omega)]
      have : gv (a.put (some t) v).tmps t = v := gv_eq (by simp only [Act.put, ha]; rw [Array.getElem?_setIfInBounds_self_of_lt (by rw [hi.size]; exact htl)])
      rw [this]
      exact hd
  · rw [gvne t hdt]
    rcases hi.env t htl with ⟨i, q, h1, h2, h3, h4, h5⟩ | ⟨h1, h2⟩
    · refine .inl ⟨i, q, .inl h1, h2, h3, fun i' p' hi' hp' hd' => ?_, h5.mono hl⟩
      rcases hi' with hSi | rfl
      · exact h4 i' p' hSi hp' hd'
      · rw [hp] at hp'; cases hp'; exact absurd hd' hdt
    · refine .inr ⟨fun i q hi' hq hd' => ?_, h2.mono hl⟩
      rcases hi' with hSi | rfl
      · exact h1 i q hSi hq hd'
      · rw [hp] at hq; cases hq; exact hdt hd'
theorem hidden_ok (pl : Plan P ops (masks ops.toList) cls ps) (_T : Trace P call H.next cls ps e.length st) (hi : Inv P ps cls st e ρ Im H w S k tmps w' ρ' Im' HS) {k0 : Nat} (hk0 : k0 ≤ k)
    (hst : ∀ (c : Nat) (p : POp), S c → ps[c]? = some p → p.cls = .acts → k0 ≤ countTo .acts cls c → p.still = true ∧ (p.lo = 1 → k0 = 0)) :
    (∀ r o, ((st ps.length).at k0).1.get r = some o → ((st ps.length).at k).1.get r = some o) ∧
    ∀ i : Nat, S i → cls[i]? = some .news → countTo .news cls i ∉ ((st ps.length).at k0).2 → ∀ o, look (st ps.length).pend (H.next + countTo .news cls i) = some o → HS.get (H.next + countTo .news cls i) = some o := by
  have stepAt : ∀ m, k0 ≤ m → m < k → (∀ r o, (k0 = 0 → r < ((st ps.length).at 0).1.next) → ((st ps.length).at m).1.get r = some o → ((st ps.length).at (m + 1)).1.get r = some o) ∧
      ∀ q, q ∈ ((st ps.length).at (m + 1)).2 → q ∉ ((st ps.length).at m).2 → ∀ o, look (st ps.length).pend (H.next + q) = some o → ((st ps.length).at (m + 1)).1.get (H.next + q) = some o := by
    intro m h1 h2
    obtain ⟨c, c1, c2, c3⟩ := countTo_surj .acts cls ps.length m (by have := hi.kle; omega)
    have hpc : ps[c]? = some ps[c] := List.getElem?_eq_getElem c1
    have hcl : (ps[c]).cls = .acts := by
      obtain ⟨o, _, _, _, _, h5⟩ := pl.op c _ hpc
      rw [c2] at h5
      exact (Option.some.inj h5).symm
    have hSc := (hi.acts c c1 c2).2 (by omega)
    obtain ⟨a1, a2⟩ := hst c _ hSc hpc hcl (by omega)
    have := hi.still c _ hSc hpc hcl a1
    rw [c3] at this
    exact ⟨fun r o hr => this.1 r o fun h => hr (a2 h), this.2⟩
  have up : ∀ m, m ≤ k → ∀ m0, k0 ≤ m0 → m0 ≤ m → ∀ r o, (k0 = 0 → r < ((st ps.length).at 0).1.next) → ((st ps.length).at m0).1.get r = some o → ((st ps.length).at m).1.get r = some o := by
    intro m
    induction m with
    | zero => intro _ m0 h1 h2 r o _ h; obtain rfl : m0 = 0 := (by omega); exact h
    | succ m ih =>
      intro hm m0 h1 h2 r o hr h
      by_cases he : m0 = m + 1
      · subst he; exact h
      · exact (stepAt m (by omega) (by omega)).1 r o hr (ih (by omega) m0 h1 (by omega) r o hr h)
  refine ⟨fun r o h => up k (Nat.le_refl _) k0 (Nat.le_refl _) hk0 r o (fun e => hi.g0 r o (e ▸ h)) h, fun i h1 h2 h3 o h4 => ?_⟩
  by_cases hon : countTo .news cls i ∈ ((st ps.length).at k).2
  · -- the chain laid it in on the way
    have : ∃ m, k0 ≤ m ∧ m < k ∧ countTo .news cls i ∉ ((st ps.length).at m).2 ∧ countTo .news cls i ∈ ((st ps.length).at (m + 1)).2 := by
      have key : ∀ m, k0 ≤ m → countTo .news cls i ∈ ((st ps.length).at m).2 → ∃ m', k0 ≤ m' ∧ m' < m ∧ countTo .news cls i ∉ ((st ps.length).at m').2 ∧ countTo .news cls i ∈ ((st ps.length).at (m' + 1)).2 := by
        intro m
        induction m with
        | zero => intro h5 h6; obtain rfl : k0 = 0 := (by omega); exact absurd h6 h3
        | succ m ih =>
          intro h5 h6
          by_cases hkm : k0 = m + 1
          · subst hkm; exact absurd h6 h3
          · by_cases hin : countTo .news cls i ∈ ((st ps.length).at m).2
            · obtain ⟨m', a1, a2, a3, a4⟩ := ih (by omega) hin
              exact ⟨m', a1, by omega, a3, a4⟩
            · exact ⟨m, by omega, by omega, hin, h6⟩
      exact key k hk0 hon
    obtain ⟨m, a1, a2, a3, a4⟩ := this
    have := (stepAt m a1 a2).2 _ a4 a3 o h4
    exact hi.ga _ _ (up k (Nat.le_refl _) (m + 1) (by omega) (by omega) _ _ (fun _ => by have h5 := hi.n0; have h6 := countTo_lt .news cls (hi.sub i h1) h2; omega) this)
  · exact hi.gb i h1 h2 hon o h4
end
end Go.Aug
namespace Go.Aug
variable {P : Program}
section
variable {ops : Array Oper} {cls : List Cls} {ps : List POp} {st : Nat → DS} {call : CallF} {e : Env} {ρ ρ' : Ren} {Im Im' : Nat → Prop} {H HS : Heap} {w w' : World} {S : Nat → Prop} {k : Nat} {tmps : Array Value}
  {j : Nat} {p : POp} {o : Oper} {a : Act} {d : D} {v : Value}
theorem cls_of (pl : Plan P ops (masks ops.toList) cls ps) (hp : ps[j]? = some p) : cls[j]? = some p.cls := let ⟨_, _, _, _, _, h⟩ := pl.op j p hp; h
theorem Inv.calm (pl : Plan P ops (masks ops.toList) cls ps) (T : Trace P call H.next cls ps e.length st) (hS : Closed ops S) (hi : Inv P ps cls st e ρ Im H w S k tmps w' ρ' Im' HS)
    (hp : ps[j]? = some p) (ho : ops.toList[j]? = some o) (hpre : ∀ e ∈ o.after.toList, Region.binds .any e = true → S e.on) (hj : ¬ S j)
    (he : (st (j + 1)).env = putE (st j).env p.dst d) (hd : Rel ρ' Im' w' d v) (ha : a.tmps = tmps) (hcl : p.cls ≠ .acts) (hnew : p.cls = .news → look (st ps.length).pend (H.next + countTo .news cls j) = none) :
    Inv P ps cls st e ρ Im H w (fun i => S i ∨ i = j) k (a.put p.dst v).tmps w' ρ' Im' HS := by
  have hc := cls_of pl hp
  have hjl := (List.getElem?_eq_some_iff.1 hp).1
  obtain ⟨e1, e2⟩ := env_step pl T hS hi hp ho hpre hj (Later.refl _ _ _) he hd ha
  refine { post := hi.post, next := hi.next, low := hi.low, ga := hi.ga, gb := ?_, gc := ?_, res := ?_, env := e1, size := e2, acts := ?_, kle := hi.kle, dom := hi.dom, on := ?_, still := ?_, nle := hi.nle, sub := ?_, n0 := hi.n0, g0 := hi.g0 }
  · rintro i (h | rfl) h1 h2 ob h3
    · exact hi.gb i h h1 h2 ob h3
    · rw [hc] at h1
      rw [hnew (Option.some.inj h1)] at h3
      cases h3
  · intro r ob h
    rcases hi.gc r ob h with h | ⟨i, h1, h2⟩
    · exact .inl h
    · exact .inr ⟨i, .inl h1, h2⟩
  · intro i h1 h2 h3
    exact hi.res i h1 (fun h => h2 (.inl h)) h3
  · intro c h1 h2
    rw [← hi.acts c h1 h2]
    refine ⟨fun h => h.elim id fun h => ?_, .inl⟩
    subst h
    rw [hc] at h2
    exact absurd (Option.some.inj h2) hcl
  · intro q hq
    obtain ⟨i, h1, h2⟩ := hi.on q hq
    exact ⟨i, .inl h1, h2⟩
  · rintro c q (h | rfl) h1 h2 h3
    · exact hi.still c q h h1 h2 h3
    · rw [hp] at h1
      cases h1
      exact absurd h2 hcl
  · rintro i (h | rfl)
    · exact hi.sub i h
    · exact hjl
theorem Inv.made (pl : Plan P ops (masks ops.toList) cls ps) (T : Trace P call H.next cls ps e.length st) (hlow : H.low ≤ H.next) (hS : Closed ops S) (hi : Inv P ps cls st e ρ Im H w S k tmps w' ρ' Im' HS)
    (hp : ps[j]? = some p) (ho : ops.toList[j]? = some o) (hpre : ∀ e ∈ o.after.toList, Region.binds .any e = true → S e.on) (hj : ¬ S j)
    (he : (st (j + 1)).env = putE (st j).env p.dst d) (ha : a.tmps = tmps) (hcl : p.cls = .news) {ob : O} {x : Obj} (hpe : (st (j + 1)).pend = (H.next + (st j).rank, ob) :: (st j).pend)
    (hx : RelO P ρ' Im' w' ob x) (hd : ∀ ρ'' : Ren, ρ'' (H.next + (st j).rank) = some w'.heap.size → Rel ρ'' Im' (w'.alloc x) d v) :
    ∃ ρ'' HS', Inv P ps cls st e ρ Im H w (fun i => S i ∨ i = j) k (a.put p.dst v).tmps (w'.alloc x) ρ'' Im' HS' := by
  have hc := cls_of pl hp
  rw [hcl] at hc
  have hjl := (List.getElem?_eq_some_iff.1 hp).1
  have hrank := (T.at_ j (by omega)).1
  have hlt : countTo .news cls j < countTo .news cls ps.length := countTo_lt .news cls hjl hc
  have hnle := hi.nle
  have hnon : countTo .news cls j ∉ ((st ps.length).at k).2 := fun h => by
    obtain ⟨i, h1, h2, h3⟩ := hi.on _ h
    exact hj (countTo_inj .news cls h2 hc h3 ▸ h1)
  rw [hrank] at hpe hd
  have hr0 : ρ' (H.next + countTo .news cls j) = none := hi.res j hjl hj hc
  obtain ⟨p1, p2⟩ := Post.addAt (r0 := H.next + countTo .news cls j) (H2 := ⟨HS.next, HS.low, (H.next + countTo .news cls j, ob) :: HS.objs⟩) hlow hi.post hx (Nat.le_add_right _ _) (by omega) hr0 rfl rfl (fun r => by
    simp only [Heap.get, look, beq_iff_eq])
  have hget : ∀ r, (⟨HS.next, HS.low, (H.next + countTo .news cls j, ob) :: HS.objs⟩ : Heap).get r = if r = H.next + countTo .news cls j then some ob else HS.get r := fun r => by
    simp only [Heap.get, look, beq_iff_eq]
  have hl : Later ρ' Im' w' (renAdd ρ' (H.next + countTo .news cls j) w'.heap.size) Im' (w'.alloc x) := by
    refine ⟨fun r b e => ?_, fun _ h => h, fun b hb => ?_, fun b cs t f hb => ⟨cs, f, ?_, rfl⟩⟩
    · have : r ≠ H.next + countTo .news cls j := fun h => by rw [h, hr0] at e; cases e
      simp [renAdd, this, e]
    · show (w'.heap.push x)[b]? = _
      have := hi.post.sim.imlt b hb
      simp [Array.getElem?_push, Nat.ne_of_lt this]
    · show (w'.heap.push x)[b]? = _
      have := (Array.getElem?_eq_some_iff.1 hb).1
      simp [Array.getElem?_push, Nat.ne_of_lt this, hb]
  have hpj : look (st ps.length).pend (H.next + countTo .news cls j) = some ob := by
    rw [T.pendAt hc (j + 1) ps.length (by omega) (by omega) (Nat.le_refl _), hpe]
    simp [look]
  obtain ⟨e1, e2⟩ := env_step pl T hS hi hp ho hpre hj hl he (hd _ p2) ha
  refine ⟨_, _, { post := p1, next := hi.next, low := hi.low, ga := ?_, gb := ?_, gc := ?_, res := ?_, env := e1, size := e2, acts := ?_, kle := hi.kle, dom := hi.dom, on := ?_, still := ?_, nle := hi.nle, sub := ?_, n0 := hi.n0, g0 := hi.g0 }⟩
  · intro r ob' h
    rw [hget]
    by_cases hr : r = H.next + countTo .news cls j
    · rw [hr, hi.dom _ hlt hnon] at h; cases h
    · rw [if_neg hr]; exact hi.ga r ob' h
  · rintro i (h | rfl) h1 h2 ob' h3
    · have hne : H.next + countTo .news cls i ≠ H.next + countTo .news cls j := fun h4 => hj (countTo_inj .news cls h1 hc (by omega) ▸ h)
      rw [hget, if_neg hne]
      exact hi.gb i h h1 h2 ob' h3
    · rw [hget, if_pos rfl, ← hpj]; exact h3
  · intro r ob' h
    rw [hget] at h
    split at h
    · rename_i hr
      cases h
      exact .inr ⟨j, .inr rfl, hc, hr, hnon, by rw [hr]; exact hpj⟩
    · rcases hi.gc r ob' h with h | ⟨i, h1, h2⟩
      · exact .inl h
      · exact .inr ⟨i, .inl h1, h2⟩
  · intro i h1 h2 h3
    have : H.next + countTo .news cls i ≠ H.next + countTo .news cls j := fun h => h2 (.inr (countTo_inj .news cls h3 hc (by omega)))
    simp only [renAdd, this, if_false]
    exact hi.res i h1 (fun h => h2 (.inl h)) h3
  · intro c h1 h2
    rw [← hi.acts c h1 h2]
    refine ⟨fun h => h.elim id fun h => ?_, .inl⟩
    subst h
    rw [hc] at h2
    cases h2
  · intro q hq
    obtain ⟨i, h1, h2⟩ := hi.on q hq
    exact ⟨i, .inl h1, h2⟩
  · rintro c q (h | rfl) h1 h2 h3
    · exact hi.still c q h h1 h2 h3
    · rw [hp] at h1
      cases h1
      rw [hcl] at h2
      cases h2
  · rintro i (h | rfl)
    · exact hi.sub i h
    · exact hjl
theorem Inv.turn (pl : Plan P ops (masks ops.toList) cls ps) (hS : Closed ops S) (hi : Inv P ps cls st e ρ Im H w S k tmps w' ρ' Im' HS)
    (hp : ps[j]? = some p) (ho : ops.toList[j]? = some o) (hpre : ∀ e ∈ o.after.toList, Region.binds .any e = true → S e.on) (hj : ¬ S j) (hcl : p.cls = .acts) : countTo .acts cls j = k := by
  have hc := cls_of pl hp
  rw [hcl] at hc
  have hjl := (List.getElem?_eq_some_iff.1 hp).1
  have h1 : ¬ countTo .acts cls j < k := fun h => hj ((hi.acts j hjl hc).2 h)
  rcases Nat.lt_or_ge k (countTo .acts cls j) with h2 | h2
  · exfalso
    obtain ⟨c, c1, c2, c3⟩ := countTo_surj .acts cls j k h2
    have hcl' : c < ps.length := by omega
    have hpc : ps[c]? = some ps[c] := List.getElem?_eq_getElem hcl'
    have hcc := cls_of pl hpc
    rw [c2] at hcc
    rcases pl.pair c j _ p c1 hpc hp with h3 | ⟨h3, _⟩
    · have := (hi.acts c hcl' c2).1 (ahead_in pl hS ho hpre c h3).2
      omega
    · exact h3 ⟨(Option.some.inj hcc).symm, hcl⟩
  · omega
theorem Inv.acted (pl : Plan P ops (masks ops.toList) cls ps) (T : Trace P call H.next cls ps e.length st) (hS : Closed ops S) (hi : Inv P ps cls st e ρ Im H w S k tmps w' ρ' Im' HS)
    (hp : ps[j]? = some p) (ho : ops.toList[j]? = some o) (hpre : ∀ e ∈ o.after.toList, Region.binds .any e = true → S e.on) (hj : ¬ S j) (hcl : p.cls = .acts)
    (he : (st (j + 1)).env = putE (st j).env p.dst d) (ha : a.tmps = tmps) {V V' : Heap} {ρ'' : Ren} {Im'' : Nat → Prop} {w'' : World} {act : List Nat}
    (hH : (st (j + 1)).Hs = (V', act ++ (st j).cur.2) :: (st j).Hs) (hact : ∀ q ∈ act, q ∈ p.act) (hV : V = wake H.next act (st j).pend (st j).cur.2 (st j).cur.1)
    (hpost : Sim P ρ' Im' V w' → Post P ρ' Im' V w' ρ'' Im'' V' w'') (hd : Rel ρ'' Im'' w'' d v)
    (hstill : p.still = true → ∀ r o, (p.lo = 1 → r < ((st ps.length).at 0).1.next) → V.get r = some o → V'.get r = some o) :
    ∃ HS', Inv P ps cls st e ρ Im H w (fun i => S i ∨ i = j) (k + 1) (a.put p.dst v).tmps w'' ρ'' Im'' HS' := by
  have hc := cls_of pl hp
  rw [hcl] at hc
  have hjl := (List.getElem?_eq_some_iff.1 hp).1
  have hk := hi.turn pl hS hp ho hpre hj hcl
  have hin := ahead_in pl hS ho hpre
  have hlen := (T.at_ j (by omega)).2.1
  have hcur : (st j).cur = (st ps.length).at k := by rw [DS.cur_at hlen, hk, T.chain (j := j) ps.length (by omega) (Nat.le_refl _) k (by omega)]
  have hnext : (st ps.length).at (k + 1) = (V', act ++ ((st ps.length).at k).2) := by
    have hlen1 := (T.at_ (j + 1) (by omega)).2.1
    have hk1 : countTo .acts cls (j + 1) = k + 1 := by rw [countTo_succ, if_pos hc, hk]
    rw [T.chain (j := j + 1) ps.length (by omega) (Nat.le_refl _) (k + 1) (by omega), ← DS.cur_at (by rw [hlen1, hk1])]
    simp [DS.cur, hH, ← hcur]
  rw [hcur] at hV
  -- the blocks of this region that it is told of
  have actd : ∀ q ∈ act, ∃ i : Nat, S i ∧ i < j ∧ cls[i]? = some .news ∧ countTo .news cls i = q := fun q hq => by
    obtain ⟨i, h1, h2, h3, h4⟩ := pl.act j p hp q (hact q hq)
    exact ⟨i, (hin i h3).2, h1, h2, h4⟩
  have actlt : ∀ q ∈ act, q < countTo .news cls ps.length := fun q hq => by
    obtain ⟨i, _, h1, h2, h3⟩ := actd q hq
    rw [← h3]
    exact countTo_lt .news cls (by omega) h2
  have pendj : ∀ q ∈ act, look (st j).pend (H.next + q) = look (st ps.length).pend (H.next + q) := fun q hq => by
    obtain ⟨i, _, h1, h2, h3⟩ := actd q hq
    rw [← h3]
    exact (T.pendAt h2 j ps.length h1 (by omega) (Nat.le_refl _)).symm
  have hVn : V.next = HS.next ∧ V.low = HS.low := by
    rw [hV]
    have := wake_next H.next act (st j).pend ((st ps.length).at k).2 ((st ps.length).at k).1
    exact ⟨this.1.trans hi.next.symm, this.2.trans hi.low.symm⟩
  have hVsub : ∀ r ob, V.get r = some ob → HS.get r = some ob := by
    intro r ob h
    rw [hV] at h
    rcases wake_get _ _ _ _ _ r ob h with h1 | ⟨q, h1, h2, h3, h4⟩
    · exact hi.ga r ob h1
    · obtain ⟨i, i1, i2, i3, i4⟩ := actd q h1
      rw [h3, pendj q h1] at h4
      rw [h3]
      subst i4
      exact hi.gb i i1 i3 h2 ob h4
  have hVold : ∀ r ob, ((st ps.length).at k).1.get r = some ob → V.get r = some ob := by
    intro r ob h
    rw [hV]
    refine wake_old _ _ _ _ _ r ob h fun q hq hqn hr => ?_
    rw [hr, hi.dom q (actlt q hq) hqn] at h
    cases h
  have hVnew : ∀ q ∈ act, q ∉ ((st ps.length).at k).2 → ∀ ob, look (st ps.length).pend (H.next + q) = some ob → V.get (H.next + q) = some ob := by
    intro q hq hqn ob h
    rw [hV]
    exact wake_new _ _ _ _ _ q ob hq hqn (by rw [pendj q hq]; exact h)
  have hVno : ∀ q, q < countTo .news cls ps.length → q ∉ act → q ∉ ((st ps.length).at k).2 → V.get (H.next + q) = none := by
    intro q h1 h2 h3
    cases h : V.get (H.next + q) with
    | none => rfl
    | some ob =>
      rw [hV] at h
      rcases wake_get _ _ _ _ _ _ ob h with h4 | ⟨q', h4, h5, h6, h7⟩
      · rw [hi.dom q h1 h3] at h4; cases h4
      · obtain rfl : q = q' := by omega
        exact absurd h4 h2
  have hVs : Sim P ρ' Im' V w' := hi.post.sim.sub hVn.1 (by rw [hVn.1, hVn.2]; exact hi.post.sim.low) hVsub
  have hpost := hpost hVs
  have hlt : ∀ r ob, HS.get r = some ob → r < V.next := fun r ob h => by
    obtain ⟨b, x, h1, _⟩ := hi.post.sim.obj r ob h
    rw [hVn.1]
    exact lt_of_fresh hi.post.sim.fresh h1
  let HS' : Heap := ⟨V'.next, V'.low, HS.objs.filter (fun p => (V.get p.1).isNone) ++ V'.objs⟩
  have hget : ∀ r, HS'.get r = (if (V.get r).isNone then HS.get r else none).or (V'.get r) := fun r => by
    show look _ r = _
    rw [look_append, look_filter fun n => (V.get n).isNone]
    rfl
  have hga : ∀ r ob, V'.get r = some ob → HS'.get r = some ob := fun r ob h => by
    rw [hget]
    split
    · rename_i hn
      cases h1 : HS.get r with
      | none => simpa using h
      | some ob' =>
        obtain ⟨ob'', h2⟩ := hpost.sub r ob (hlt r ob' h1) h
        rw [h2] at hn
        cases hn
    · simpa using h
  have hgb : ∀ r ob, HS.get r = some ob → V.get r = none → HS'.get r = some ob := fun r ob h1 h2 => by
    rw [hget, h2]
    simp [h1]
  have hgc : ∀ r ob, HS'.get r = some ob → V'.get r = some ob ∨ (HS.get r = some ob ∧ V.get r = none) := fun r ob h => by
    rw [hget] at h
    split at h
    · rename_i hn
      cases h1 : HS.get r with
      | none => rw [h1] at h; exact .inl (by simpa using h)
      | some ob' => rw [h1] at h; exact .inr ⟨by simpa using h, by simpa using hn⟩
    · exact .inl (by simpa using h)
  have hfr : Post P ρ' Im' HS w' ρ'' Im'' HS' w'' := Post.frame hi.post.sim hVn.1 hVn.2 hVsub hpost rfl rfl hga hgb hgc
  obtain ⟨e1, e2⟩ := env_step pl T hS hi hp ho hpre hj hfr.later he hd ha
  have hnle := hi.nle
  have hrw : ∀ q, q ∉ act ++ ((st ps.length).at k).2 → q ∉ act ∧ q ∉ ((st ps.length).at k).2 := fun q h => ⟨fun h1 => h (List.mem_append.2 (.inl h1)), fun h1 => h (List.mem_append.2 (.inr h1))⟩
  refine ⟨HS', { post := hi.post.trans hfr, next := by rw [hnext], low := by rw [hnext], ga := by rw [hnext]; exact hga, gb := ?_, gc := ?_, res := ?_, env := e1, size := e2, acts := ?_, kle := ?_, dom := ?_, on := ?_, still := ?_, nle := ?_, sub := ?_, n0 := hi.n0, g0 := hi.g0 }⟩
  · rw [hnext]
    rintro i (h | rfl) h1 h2 ob h3
    · obtain ⟨h4, h5⟩ := hrw _ h2
      exact hgb _ ob (hi.gb i h h1 h5 ob h3) (hVno _ (countTo_lt .news cls (hi.sub i h) h1) h4 h5)
    · rw [hc] at h1; cases h1
  · rw [hnext]
    intro r ob h
    rcases hgc r ob h with h1 | ⟨h1, h2⟩
    · exact .inl h1
    · rcases hi.gc r ob h1 with h3 | ⟨i, h3, h4, h5, h6, h7⟩
      · rw [hVold r ob h3] at h2; cases h2
      · refine .inr ⟨i, .inl h3, h4, h5, fun hq => ?_, h7⟩
        rcases List.mem_append.1 hq with hq | hq
        · rw [h5] at h2 h7
          rw [hVnew _ hq h6 ob h7] at h2
          cases h2
        · exact h6 hq
  · intro i h1 h2 h3
    rw [hpost.old _ (by
      have := countTo_lt .news cls h1 h3
      rw [hVn.1]
      omega)]
    exact hi.res i h1 (fun h => h2 (.inl h)) h3
  · intro c h1 h2
    constructor
    · rintro (h | rfl)
      · have := (hi.acts c h1 h2).1 h; omega
      · omega
    · intro h
      by_cases hcj : c = j
      · exact .inr hcj
      · refine .inl ((hi.acts c h1 h2).2 ?_)
        have : countTo .acts cls c ≠ countTo .acts cls j := fun h3 => hcj (countTo_inj .acts cls h2 hc h3)
        omega
  · have := countTo_lt .acts cls hjl hc; omega
  · rw [hnext]
    intro q h1 h2
    obtain ⟨h3, h4⟩ := hrw _ h2
    have h5 := hVno q h1 h3 h4
    cases h6 : V'.get (H.next + q) with
    | none => simp
    | some ob =>
      obtain ⟨ob', h7⟩ := hpost.sub _ ob (by rw [hVn.1]; omega) h6
      rw [h5] at h7
      cases h7
  · rw [hnext]
    intro q hq
    rcases List.mem_append.1 hq with hq | hq
    · obtain ⟨i, i1, _, i3, i4⟩ := actd q hq
      exact ⟨i, .inl i1, i3, i4⟩
    · obtain ⟨i, i1, i2⟩ := hi.on q hq
      exact ⟨i, .inl i1, i2⟩
  · rintro c q (h | rfl) h1 h2 h3
    · exact hi.still c q h h1 h2 h3
    · rw [hp] at h1
      cases h1
      rw [hk, hnext]
      refine ⟨fun r ob hr h4 => hstill h3 r ob hr (hVold r ob h4), fun q hq hqn ob h4 => ?_⟩
      rcases List.mem_append.1 hq with hq | hq
      · exact hstill h3 _ ob (fun _ => by have h5 := hi.n0; have h6 := actlt q hq; omega) (hVnew q hq hqn ob h4)
      · exact absurd hq hqn
  · have := hfr.next
    show _ ≤ HS'.next
    omega
  · rintro i (h | rfl)
    · exact hi.sub i h
    · exact hjl
end
end Go.Aug
namespace Go.Aug
variable {P : Program}
section
variable {ops : Array Oper} {cls : List Cls} {ps : List POp} {st : Nat → DS} {call : CallF} {e : Env} {ρ ρ' : Ren} {Im Im' : Nat → Prop} {H HS : Heap} {w w' : World} {S : Nat → Prop} {k : Nat}
  {j : Nat} {p : POp} {o : Oper} {a : Act}
theorem DS.at_min {s : DS} {k n : Nat} (h : s.Hs.length = n + 1) : s.at k = s.at (min k n) := by
  simp only [DS.at, h]
  congr 2
  omega
theorem Inv.woken (pl : Plan P ops (masks ops.toList) cls ps) (T : Trace P call H.next cls ps e.length st) (hS : Closed ops S) {tmps : Array Value} (hi : Inv P ps cls st e ρ Im H w S k tmps w' ρ' Im' HS)
    (hp : ps[j]? = some p) (ho : ops.toList[j]? = some o) (hpre : ∀ e ∈ o.after.toList, Region.binds .any e = true → S e.on) (hj : ¬ S j) (hcl : p.cls = .acts) :
    Sim P ρ' Im' (wake H.next p.act (st j).pend (st j).cur.2 (st j).cur.1) w' := by
  have hjl := (List.getElem?_eq_some_iff.1 hp).1
  have hk := hi.turn pl hS hp ho hpre hj hcl
  have hlen := (T.at_ j (by omega)).2.1
  have hcur : (st j).cur = (st ps.length).at k := by rw [DS.cur_at hlen, hk, T.chain (j := j) ps.length (by omega) (Nat.le_refl _) k (by omega)]
  rw [hcur]
  obtain ⟨w1, w2⟩ := wake_next H.next p.act (st j).pend ((st ps.length).at k).2 ((st ps.length).at k).1
  refine hi.post.sim.sub (by rw [w1, hi.next]) (by rw [w1, w2, ← hi.next, ← hi.low]; exact hi.post.sim.low) fun r ob h => ?_
  rcases wake_get _ _ _ _ _ r ob h with h1 | ⟨q, h1, h2, h3, h4⟩
  · exact hi.ga r ob h1
  · obtain ⟨i, i1, i2, i3, i4⟩ := pl.act j p hp q h1
    subst i4
    rw [h3] at h4 ⊢
    rw [← T.pendAt i2 j ps.length i1 (by omega) (Nat.le_refl _)] at h4
    exact hi.gb i (ahead_in pl hS ho hpre i i3).2 i2 h2 ob h4
theorem inv_step (hcall : CallOk P call) {ro : Option Nat} {n : Nat} {K : Act → World → Prop} {Q : Exit → Act → World → Prop}
    (pl : Plan P ops (masks ops.toList) cls ps) (T : Trace P call H.next cls ps e.length st) (h0 : (st 0).env = e) (hlow : H.low ≤ H.next) (hS : Closed ops S)
    (hi : Inv P ps cls st e ρ Im H w S k a.tmps w' ρ' Im' HS) (hp : ps[j]? = some p) (ho : ops.toList[j]? = some o) (hpre : ∀ e ∈ o.after.toList, Region.binds .any e = true → S e.on) (hj : ¬ S j)
    (hK : ∀ a' w'' ρ'' Im'' HS' k', Inv P ps cls st e ρ Im H w (fun i => S i ∨ i = j) k' a'.tmps w'' ρ'' Im'' HS' → a'.defers = a.defers → K a' w'') : wpOpIn (wideR ro) n P ops Q j K a w' := by
  obtain ⟨o', ho', hdst, hop, hg, hc⟩ := pl.op j p hp
  have hoo : o' = o := by
    have h : ops.toList[j]? = some o' := by rw [Array.getElem?_toList]; exact ho'
    rw [ho] at h
    exact (Option.some.inj h).symm
  subst hoo
  have hjl := (List.getElem?_eq_some_iff.1 hp).1
  obtain ⟨f, hf1, hf2⟩ := frame_ok pl T h0 hS hi hp ho hpre hj
  have hev := T.step j p hp
  have hin := ahead_in pl hS ho hpre
  have hat := T.at_ j (by omega)
  have hop2 : ∀ Hx, evOp call (st j).env Hx p.op = evOp call f Hx p.op := fun Hx => evOp_congr fun t ht => (hf2 t (by simp [POp.looks, ht])).symm
  have hwants : wants (st j).env p.guard = wants f p.guard := wants_congr fun t ht => (hf2 t (by simp [POp.looks, ht])).symm
  unfold wpOpIn
  simp only [ho']
  rw [wanted_eq hg hf1, ← hwants]
  unfold evD at hev
  cases hw : wants (st j).env p.guard with
  | false =>
    simp only [hw, Bool.false_eq_true, if_false] at hev ⊢
    refine ⟨fun f _ => trivial, ?_⟩
    rw [← hdst]
    have hu : Rel ρ' Im' w' uD undef := .v undef
    cases hcl : p.cls with
    | plain =>
      simp only [hcl, Option.some.injEq] at hev
      exact hK _ _ _ _ _ _ (hi.calm pl T hS hp ho hpre hj (by rw [← hev]) hu rfl (by simp [hcl]) (by simp [hcl])) (put_defers _ _ _)
    | reads =>
      simp only [hcl, Option.some.injEq] at hev
      exact hK _ _ _ _ _ _ (hi.calm pl T hS hp ho hpre hj (by rw [← hev]) hu rfl (by simp [hcl]) (by simp [hcl])) (put_defers _ _ _)
    | news =>
      simp only [hcl, Option.some.injEq] at hev
      refine hK _ _ _ _ _ _ (hi.calm pl T hS hp ho hpre hj (by rw [← hev]) hu rfl (by simp [hcl]) fun _ => ?_) (put_defers _ _ _)
      have hcn : cls[j]? = some .news := by rw [hc, hcl]
      rw [T.pendAt hcn (j + 1) ps.length (by omega) (by omega) (Nat.le_refl _), ← hev]
      cases hl : look (st j).pend (H.next + countTo .news cls j) with
      | none => rfl
      | some ob =>
        obtain ⟨i, h1, h2, h3⟩ := T.pendIds j (by omega) _ ob hl
        have := countTo_inj .news cls h2 hcn (by omega)
        omega
    | acts =>
      simp only [hcl, Option.some.injEq] at hev
      obtain ⟨HS', h⟩ := hi.acted pl T hS hp ho hpre hj hcl (act := []) (V := (st j).cur.1) (V' := (st j).cur.1) (by rw [← hev]) rfl (by rw [← hev]; rfl) (by simp) rfl (fun hs => Post.refl hs) hu (fun _ _ _ _ h => h)
      exact hK _ _ _ _ _ _ h (put_defers _ _ _)
  | true =>
    simp only [hw, if_true] at hev ⊢
    cases hcl : p.cls with
    | plain =>
      simp only [hcl] at hev hop
      split at hev
      · rename_i d H1 he
        simp only [Option.some.injEq] at hev
        rw [hop2] at he
        obtain ⟨_, v, h1, h2⟩ := plain_ok hop he hf1
        refine ⟨fun f _ => trivial, ?_⟩
        rw [semAt_of hop he, h1, Oper.uponIn_value, ← hdst]
        exact hK _ _ _ _ _ _ (hi.calm pl T hS hp ho hpre hj (by rw [← hev]) h2 rfl (by simp [hcl]) (by simp [hcl])) (put_defers _ _ _)
      · cases hev
    | reads =>
      simp only [hcl] at hev hop
      split at hev
      · rename_i d H1 he
        simp only [Option.some.injEq] at hev
        rw [hop2] at he
        have hlo := pl.lo j p hp hcl
        have hk0 : min p.lo (countTo .acts cls j) ≤ k := by
          rcases Nat.lt_or_ge k (min p.lo (countTo .acts cls j)) with h | h
          · exfalso
            obtain ⟨c, c1, c2, c3⟩ := countTo_surj .acts cls j k (by omega)
            have := (hi.acts c (by omega) c2).1 (hin c ((hlo c (by omega) c2).2 (by omega))).2
            omega
          · exact h
        have hst : ∀ (c : Nat) (q : POp), S c → ps[c]? = some q → q.cls = .acts → min p.lo (countTo .acts cls j) ≤ countTo .acts cls c → q.still = true ∧ (q.lo = 1 → min p.lo (countTo .acts cls j) = 0) := by
          intro c q h1 h2 h3 h4
          cases hq : q.still with
          | true =>
            refine ⟨rfl, fun hlo1 => ?_⟩
            have hcq := cls_of pl h2
            rw [h3] at hcq
            rcases pl.weak c q h2 h3 hq hlo1 j p hp hcl with h5 | h5
            · exfalso
              simp only [sided, Bool.or_eq_true] at h5
              rcases h5 with h5 | h5
              · have h6 := (hlo c (hi.sub c h1) hcq).1 h5
                have h7 := countTo_lt .acts cls (hin c h5).1 hcq
                omega
              · have hil' : c < ops.toList.length := by have := pl.len; have := hi.sub c h1; simp at this ⊢; omega
                have hoc : ops.toList[c]? = some (ops.toList[c]'hil') := List.getElem?_eq_getElem hil'
                exact hj (ahead_in pl hS hoc (hS c _ hoc h1) j h5).2
            · rw [h5]; exact Nat.zero_min _
          | false =>
            exfalso
            have hcq := cls_of pl h2
            rw [h3] at hcq
            have h5 := pl.still c q h2 h3 hq j hjl (by rw [hc, hcl])
            simp only [sided, Bool.or_eq_true] at h5
            rcases h5 with h5 | h5
            · have h6 := (hlo c (hi.sub c h1) hcq).1 h5
              have h7 := countTo_lt .acts cls (hin c h5).1 hcq
              omega
            · have hil' : c < ops.toList.length := by have := pl.len; have := hi.sub c h1; simp at this ⊢; omega
              have hoc : ops.toList[c]? = some (ops.toList[c]'hil') := List.getElem?_eq_getElem hil'
              exact hj (ahead_in pl hS hoc (hS c _ hoc h1) j h5).2
        obtain ⟨hh1, hh2⟩ := hidden_ok pl T hi hk0 hst
        have hHas : Has P ρ' Im' (wake H.next p.act (st j).pend ((st j).at p.lo).2 ((st j).at p.lo).1) w' := by
          intro r ob hr
          refine hi.post.sim.has r ob ?_
          rw [DS.at_min hat.2.1, ← T.chain (j := j) ps.length (by omega) (Nat.le_refl _) _ (Nat.min_le_right _ _)] at hr
          rcases wake_get _ _ _ _ _ r ob hr with h1 | ⟨q, h1, h2, h3, h4⟩
          · exact hi.ga r ob (hh1 r ob h1)
          · obtain ⟨i, i1, i2, i3, i4⟩ := pl.act j p hp q h1
            subst i4
            rw [h3] at h4 ⊢
            rw [← T.pendAt i2 j ps.length i1 (by omega) (Nat.le_refl _)] at h4
            exact hh2 i (hin i i3).2 i2 h2 ob h4
        obtain ⟨_, v, h1, h2⟩ := reads_ok hop he hf1 hHas
        refine ⟨fun f _ => trivial, ?_⟩
        rw [semAt_of hop he, h1, Oper.uponIn_value, ← hdst]
        exact hK _ _ _ _ _ _ (hi.calm pl T hS hp ho hpre hj (by rw [← hev]) h2 rfl (by simp [hcl]) (by simp [hcl])) (put_defers _ _ _)
      · cases hev
    | news =>
      simp only [hcl] at hev hop
      split at hev
      · rename_i d n1 l1 r1 ob he
        simp only [Option.some.injEq] at hev
        rw [hop2] at he
        obtain ⟨ob', x, v, h1, h2, h3, h4⟩ := news_ok hop he hf1
        simp only [Heap.add, Heap.mk.injEq, List.cons.injEq, Prod.mk.injEq] at h1
        obtain ⟨_, _, ⟨_, hob⟩, _⟩ := h1
        subst hob
        refine ⟨fun f _ => trivial, ?_⟩
        rw [semAt_of hop he, h2, Oper.uponIn_value, ← hdst]
        obtain ⟨ρ'', HS', hI⟩ := hi.made (d := d) (v := v) (a := a) pl T hlow hS hp ho hpre hj (by rw [← hev]) rfl hcl (by rw [← hev]) h3 h4
        exact hK _ _ _ _ _ _ hI (put_defers _ _ _)
      · cases hev
    | acts =>
      simp only [hcl] at hev hop
      have hact : ∀ q ∈ p.act, q ∈ p.act := fun _ h => h
      split at hev
      · rename_i hst
        split at hev
        · rename_i d H1 he
          split at hev
          · rename_i hle
            simp only [Option.some.injEq] at hev
            rw [hop2] at he
            have hsV := hi.woken pl T hS hp ho hpre hj hcl
            have hVl : (wake H.next p.act (st j).pend (st j).cur.2 (st j).cur.1).low ≤ H.next := by
              have hlenj := hat.2.1
              have hkk := hi.turn pl hS hp ho hpre hj hcl
              have hcur : (st j).cur = (st ps.length).at k := by rw [DS.cur_at hlenj, hkk, T.chain (j := j) ps.length (by omega) (Nat.le_refl _) k (by omega)]
              rw [(wake_next H.next p.act (st j).pend (st j).cur.2 (st j).cur.1).2, hcur, ← hi.low]
              exact Nat.le_trans hi.post.keep.1 hlow
            have hat0 : ((st j).at 0) = ((st ps.length).at 0) := (T.chain (j := j) ps.length (by omega) (Nat.le_refl _) 0 (Nat.zero_le _)).symm
            have hn0 : H.next ≤ ((st ps.length).at 0).1.next := Nat.le_trans (Nat.le_add_right _ _) hi.n0
            rw [hat0] at hle
            generalize hV : wake H.next p.act (st j).pend (st j).cur.2 (st j).cur.1 = V at he hle hev hsV hVl
            have hsV' : Sim P ρ' Im' ⟨V.next, V.next, V.objs⟩ w' := hsV.sub rfl (Nat.le_refl _) fun r ob h => h
            refine op_step hcall hop he hf1 hsV' fun v w'' ρ'' Im'' hpo hd => ?_
            rw [← hdst]
            have hst' := Post.stay hsV hpo
            have hlowV := hsV.low
            have hle2 : V.low ≤ H1.low := by
              unfold stillLim at hle
              split at hle <;> omega
            have heq : (if V.low < H1.low then V.low else H1.low) = V.low := by split <;> omega
            rw [heq] at hst'
            obtain ⟨HS', h⟩ := hi.acted pl T hS hp ho hpre hj hcl (act := p.act) (V := V) (a := a) (V' := ⟨H1.next, V.low, H1.objs⟩) (by rw [← hev]) rfl (by rw [← hev]) hact hV.symm (fun _ => hst') hd (fun _ r ob hr0 h => by
              have hr : r < V.next := by
                obtain ⟨b, x, h1, _⟩ := hsV.obj r ob h
                exact lt_of_fresh hsV.fresh h1
              have := hpo.keep.2 r (by
                unfold stillLim at hle
                split at hle
                · rename_i h1; have := hr0 h1; omega
                · omega)
              exact this.trans h)
            exact hK _ _ _ _ _ _ h (put_defers _ _ _)
          · cases hev
        · cases hev
      · rename_i hst
        split at hev
        · rename_i d H1 he
          simp only [Option.some.injEq] at hev
          rw [hop2] at he
          have hsV := hi.woken pl T hS hp ho hpre hj hcl
          refine op_step hcall hop he hf1 hsV fun v w'' ρ'' Im'' hpo hd => ?_
          rw [← hdst]
          obtain ⟨HS', h⟩ := hi.acted pl T hS hp ho hpre hj hcl (act := p.act) (a := a) (by rw [← hev]) rfl (by rw [← hev]) hact rfl (fun _ => hpo) hd (fun h => absurd h hst)
          exact hK _ _ _ _ _ _ h (put_defers _ _ _)
        · cases hev
end
end Go.Aug
namespace Go.Aug
variable {P : Program}
theorem countP_less {α : Type} {p q : α → Bool} {x : α} : ∀ {l : List α}, (∀ y ∈ l, q y = true → p y = true) → x ∈ l → p x = true → q x = false → l.countP q < l.countP p
  | y :: l, h, hx, hp, hq => by
    have hle : l.countP q ≤ l.countP p := List.countP_mono_left fun z hz => h z (List.mem_cons_of_mem _ hz)
    rw [List.countP_cons, List.countP_cons]
    rcases List.mem_cons.1 hx with rfl | hx
    · rw [hp, hq]
      simp
      omega
    · have ih := countP_less (fun z hz => h z (List.mem_cons_of_mem _ hz)) hx hp hq
      by_cases hqy : q y = true
      · rw [hqy, h y (List.mem_cons_self ..) hqy]
        simp
        omega
      · have : q y = false := by simpa using hqy
        rw [this]
        simp
        omega
theorem Post.more {ρ : Ren} {Im : Nat → Prop} {H : Heap} {w : World} (h : Sim P ρ Im H w) (k : Nat) {w' : World} (hw : w'.heap = w.heap) (hcalm : Calm w w') : Post P ρ Im H w ρ Im ⟨H.next + k, H.low, H.objs⟩ w' := by
  have p := Post.of_heap h hw hcalm
  have hsim : Sim P ρ Im ⟨H.next + k, H.low, H.objs⟩ w' := ⟨p.sim.obj, p.sim.inj, fun r hr => p.sim.fresh r (Nat.le_trans (Nat.le_add_right _ _) hr), p.sim.imlt, Nat.le_trans h.low (Nat.le_add_right _ _), p.sim.glob⟩
  exact { later := p.later, calm := p.calm, sim := hsim, size := p.size, foot := p.foot, imfoot := p.imfoot, live := p.live, old := p.old, next := Nat.le_add_right _ _, keep := ⟨Nat.le_refl _, fun _ _ => rfl⟩, sub := fun r o _ hg => ⟨o, hg⟩ }
section
variable {ops : Array Oper} {cls : List Cls} {ps : List POp} {st : Nat → DS} {call : CallF} {e : Env} {ρ : Ren} {Im : Nat → Prop} {H : Heap} {w : World} {ds0 : List Deferred}
theorem ready_iff (listed : Array Bool) (j : Nat) : j ∈ Region.ready .any ops listed ↔ j < ops.size ∧ listed.getD j true = false ∧ ∃ o : Oper, ops.toList[j]? = some o ∧ ∀ e ∈ o.after.toList, Region.binds .any e = true → listed.getD e.on false = true := by
  unfold Region.ready
  rw [List.mem_filter, List.mem_range]
  constructor
  · rintro ⟨h1, h2⟩
    have ho : ops[j]? = some ops[j] := Array.getElem?_eq_getElem h1
    rw [ho] at h2
    simp only [Bool.and_eq_true, Bool.not_eq_true', Option.map_some, Option.getD_some] at h2
    refine ⟨h1, h2.1, ops[j], by rw [Array.getElem?_toList]; exact ho, fun e he hb => ?_⟩
    have := h2.2
    rw [← Array.all_toList, List.all_eq_true] at this
    have := this e he
    simpa [hb] using this
  · rintro ⟨h1, h2, o, h3, h4⟩
    refine ⟨h1, ?_⟩
    rw [Array.getElem?_toList] at h3
    rw [h3]
    simp only [Bool.and_eq_true, Bool.not_eq_true', Option.map_some, Option.getD_some]
    refine ⟨h2, ?_⟩
    rw [← Array.all_toList, List.all_eq_true]
    intro e he
    cases hb : Region.binds .any e with
    | false => simp
    | true => simpa using h4 e he hb
theorem any_ok (hcall : CallOk P call) {ro : Option Nat} {n : Nat} {Q : Exit → Act → World → Prop}
    (pl : Plan P ops (masks ops.toList) cls ps) (T : Trace P call H.next cls ps e.length st) (h0 : (st 0).env = e) (hlow : H.low ≤ H.next)
    (hQ : ∀ a' w' ρ' Im' HS k, Inv P ps cls st e ρ Im H w (fun i => i < ps.length) k a'.tmps w' ρ' Im' HS → a'.defers = ds0 → Q .normal a' w') :
    ∀ (fuel : Nat) (listed : Array Bool) (S : Nat → Prop) (a : Act) (w' : World) (ρ' : Ren) (Im' : Nat → Prop) (HS : Heap) (k : Nat), listed.size = ops.size → (∀ i, S i ↔ listed.getD i false = true) →
      (List.range ops.size).countP (fun i => !listed.getD i true) ≤ fuel → Closed ops S → Inv P ps cls st e ρ Im H w S k a.tmps w' ρ' Im' HS → a.defers = ds0 → wpAnyIn (wideR ro) n P .any ops Q fuel listed a w' := by
  have done : ∀ (listed : Array Bool) (S : Nat → Prop) (a : Act) (w' : World) (ρ' : Ren) (Im' : Nat → Prop) (HS : Heap) (k : Nat), listed.size = ops.size → (∀ i, S i ↔ listed.getD i false = true) → Region.ready .any ops listed = [] → Inv P ps cls st e ρ Im H w S k a.tmps w' ρ' Im' HS → a.defers = ds0 → Q .normal a w' := by
    intro listed S a w' ρ' Im' HS k hsz hSl hr hi hd
    have hall : ∀ i, i < ops.size → listed.getD i false = true := by
      intro i
      induction i using Nat.strongRecOn with
      | _ i ih =>
        intro hi'
        cases hl : listed.getD i false with
        | true => rfl
        | false =>
          exfalso
          have ho : ops.toList[i]? = some (ops.toList[i]'(by simpa using hi')) := List.getElem?_eq_getElem _
          have : i ∈ Region.ready .any ops listed := (ready_iff listed i).2 ⟨hi', by
            have hlt : i < listed.size := by omega
            simp only [Array.getD_eq_getD_getElem?, Array.getElem?_eq_getElem hlt, Option.getD_some] at hl ⊢
            exact hl, _, ho, fun e he hb => by
              have := pl.back i _ ho e he hb
              exact ih e.on this (by omega)⟩
          rw [hr] at this
          cases this
    have hlen := pl.len
    have hS : S = fun i => i < ps.length := by
      funext i
      refine propext ⟨fun h => hi.sub i h, fun h => (hSl i).2 (hall i (by omega))⟩
    subst hS
    exact hQ a w' ρ' Im' HS k hi hd
  intro fuel
  induction fuel with
  | zero =>
    intro listed S a w' ρ' Im' HS k hsz hSl hcnt hcl hi hd
    have hr : Region.ready .any ops listed = [] := by
      cases h : Region.ready .any ops listed with
      | nil => rfl
      | cons j l =>
        have hj : j ∈ Region.ready .any ops listed := by rw [h]; simp
        obtain ⟨h1, h2, _⟩ := (ready_iff listed j).1 hj
        have : 0 < (List.range ops.size).countP (fun i => !listed.getD i true) := List.countP_pos_iff.2 ⟨j, List.mem_range.2 h1, by simpa using h2⟩
        omega
    exact ⟨hr, done listed S a w' ρ' Im' HS k hsz hSl hr hi hd⟩
  | succ fuel ih =>
    intro listed S a w' ρ' Im' HS k hsz hSl hcnt hcl hi hd
    refine ⟨fun hr => done listed S a w' ρ' Im' HS k hsz hSl hr hi hd, fun j hj => ?_⟩
    obtain ⟨h1, h2, o, h3, h4⟩ := (ready_iff listed j).1 hj
    have hjp : j < ps.length := by rw [pl.len]; exact h1
    have hjl : j < listed.size := by omega
    have hnS : ¬ S j := fun h => by
      have := (hSl j).1 h
      simp only [Array.getD_eq_getD_getElem?, Array.getElem?_eq_getElem hjl, Option.getD_some] at this h2
      rw [h2] at this
      cases this
    have hpre : ∀ e ∈ o.after.toList, Region.binds .any e = true → S e.on := fun e he hb => (hSl _).2 (h4 e he hb)
    refine inv_step hcall pl T h0 hlow hcl hi (List.getElem?_eq_getElem hjp) h3 hpre hnS fun a' w'' ρ'' Im'' HS' k' hi' hd' => ?_
    refine ih (listed.setIfInBounds j true) (fun i => S i ∨ i = j) a' w'' ρ'' Im'' HS' k' (by simpa using hsz) (fun i => ?_) ?_ ?_ hi' (hd'.trans hd)
    · by_cases hij : j = i
      · subst hij
        simp [Array.getD_eq_getD_getElem?, Array.getElem?_setIfInBounds_self_of_lt hjl]
      · have hji : ¬ i = j := fun h => hij h.symm
        simp only [Array.getD_eq_getD_getElem?, Array.getElem?_setIfInBounds_ne hij, hji, or_false]
        rw [hSl i, Array.getD_eq_getD_getElem?]
    · have : (List.range ops.size).countP (fun i => !(listed.setIfInBounds j true).getD i true) < (List.range ops.size).countP (fun i => !listed.getD i true) := by
        refine countP_less (x := j) (fun i _ hq => ?_) (List.mem_range.2 h1) (by simpa using h2) ?_
        · by_cases hij : j = i
          · subst hij
            simp [Array.getD_eq_getD_getElem?, Array.getElem?_setIfInBounds_self_of_lt hjl] at hq
          · simpa [Array.getD_eq_getD_getElem?, Array.getElem?_setIfInBounds_ne hij] using hq
        · simp [Array.getD_eq_getD_getElem?, Array.getElem?_setIfInBounds_self_of_lt hjl]
      omega
    · rintro i o' ho' (hSi | rfl) ed hed hb
      · exact .inl (hcl i o' ho' hSi ed hed hb)
      · rw [h3] at ho'
        cases ho'
        exact .inl (hpre ed hed hb)
end
theorem dreg_ok {call : CallF} {rd : Option Nat} (hcall : CallOk P call) (hm : P.follows .mixedOrders = true) {id : Nat} {ops : Array Oper} {ps : List POp}
    (h : compDraw P ops (masks ops.toList) (ops.toList.map fun o => (compOp P o.op).2) ops.toList 0 = some ps) (hok : drawOk ops.toList (masks ops.toList) (ops.toList.map fun o => (compOp P o.op).2) ps = true) :
    CodeOk P (.region id ops true) rd (fun e H => (evDreg call (countTo .news (ops.toList.map fun o => (compOp P o.op).2) (ops.toList.map fun o => (compOp P o.op).2).length) ps e H).map fun (e', H') => (.normal, e', H')) := by
  have pl := plan_of h hok
  generalize hcls : (ops.toList.map fun o => (compOp P o.op).2) = cls at *
  have hcl : cls.length = ps.length := by rw [← hcls, pl.len]; simp
  rw [hcl]
  intro e H ex e' H' hev ro n base ρ Im w a hro hs hr hmk hbase
  simp only [Option.map_eq_some_iff, Prod.mk.injEq] at hev
  obtain ⟨⟨e1, H1⟩, hev, rfl, rfl, rfl⟩ := hev
  unfold evDreg at hev
  split at hev
  · rename_i s hds
    simp only [Option.some.injEq, Prod.mk.injEq] at hev
    obtain ⟨rfl, rfl⟩ := hev
    obtain ⟨st, st0, stN, hstep⟩ := evDs_trace hds
    have T : Trace P call H.next cls ps e.length st := ⟨hstep, fun j p hp => cls_of pl hp, by rw [st0]; exact ⟨rfl, rfl, rfl, rfl⟩⟩
    have h0 : (st 0).env = e := by rw [st0]
    have hat0 : (st ps.length).at 0 = (⟨H.next + countTo .news cls ps.length, H.low, H.objs⟩, []) := by
      rw [T.chain (j := 0) ps.length (Nat.zero_le _) (Nat.le_refl _) 0 (Nat.zero_le _), st0]
      rfl
    refine wpIn_region_any hm ?_
    have hw : ({ w with drawn := w.drawn + 1 } : World).heap = w.heap := rfl
    refine any_ok hcall (ρ := ρ) (Im := Im) (w := w) (ds0 := a.defers) pl T h0 hs.low ?_ ops.size _ (fun _ => False) a _ ρ Im ⟨H.next + countTo .news cls ps.length, H.low, H.objs⟩ 0 (by simp) ?_ ?_ ?_ ?_ rfl
    · intro a' w' ρ' Im' HS k hi hd
      have hk : k = countTo .acts cls ps.length := by
        have := hi.kle
        rcases Nat.lt_or_ge k (countTo .acts cls ps.length) with h1 | h1
        · obtain ⟨c, c1, c2, c3⟩ := countTo_surj .acts cls ps.length k h1
          have := (hi.acts c c1 c2).1 c1
          omega
        · omega
      have hcur : s.cur = (st ps.length).at k := by
        have := (T.at_ ps.length (Nat.le_refl _)).2.1
        rw [← stN, DS.cur_at this, hk]
      have hget : ∀ r, (⟨s.cur.1.next, s.cur.1.low, s.pend.filter (fun p => !s.cur.2.contains (p.1 - H.next)) ++ s.cur.1.objs⟩ : Heap).get r = HS.get r := by
        intro r
        have e1 : (⟨s.cur.1.next, s.cur.1.low, s.pend.filter (fun p => !s.cur.2.contains (p.1 - H.next)) ++ s.cur.1.objs⟩ : Heap).get r = (if (!s.cur.2.contains (r - H.next)) then look s.pend r else none).or (s.cur.1.get r) := by
          show look _ r = _
          rw [look_append, look_filter fun m => !s.cur.2.contains (m - H.next)]
          rfl
        rw [e1, hcur, ← stN]
        cases hH : HS.get r with
        | some ob =>
          rcases hi.gc r ob hH with h1 | ⟨i, h1, h2, h3, h4, h5⟩
          · rw [h1]
            cases hl : look (st ps.length).pend r with
            | none => simp
            | some ob' =>
              obtain ⟨i, i1, i2, i3⟩ := T.pendIds ps.length (Nat.le_refl _) r ob' hl
              have hin : countTo .news cls i ∈ ((st ps.length).at k).2 := by
                by_cases h : countTo .news cls i ∈ ((st ps.length).at k).2
                · exact h
                · have := hi.dom _ (countTo_lt .news cls i1 i2) h
                  rw [← i3, h1] at this
                  cases this
              have : (!((st ps.length).at k).2.contains (r - H.next)) = false := by
                rw [i3, Nat.add_sub_cancel_left]
                simpa using hin
              rw [this]
              simp
          · have : (!((st ps.length).at k).2.contains (r - H.next)) = true := by
              rw [h3, Nat.add_sub_cancel_left]
              simpa using h4
            rw [this, h5]
            simp
        | none =>
          have h1 : ((st ps.length).at k).1.get r = none := by
            cases h1 : ((st ps.length).at k).1.get r with
            | none => rfl
            | some ob => rw [hi.ga r ob h1] at hH; cases hH
          rw [h1]
          cases hl : look (st ps.length).pend r with
          | none => simp
          | some ob' =>
            obtain ⟨i, i1, i2, i3⟩ := T.pendIds ps.length (Nat.le_refl _) r ob' hl
            have hin : countTo .news cls i ∈ ((st ps.length).at k).2 := by
              by_cases h : countTo .news cls i ∈ ((st ps.length).at k).2
              · exact h
              · rw [i3] at hl hH
                rw [hi.gb i i1 i2 h ob' hl] at hH
                cases hH
            have : (!((st ps.length).at k).2.contains (r - H.next)) = false := by
              rw [i3, Nat.add_sub_cancel_left]
              simpa using hin
            rw [this]
            simp
      have hpost := hi.post.congr (H2 := ⟨s.cur.1.next, s.cur.1.low, s.pend.filter (fun p => !s.cur.2.contains (p.1 - H.next)) ++ s.cur.1.objs⟩) (by rw [hcur]; exact hi.next.symm) (by rw [hcur]; exact hi.low.symm) hget
      refine ⟨ρ', Im', rfl, hpost, ?_, ?_⟩
      · have hlen := (T.at_ ps.length (Nat.le_refl _)).2.2
        rw [stN] at hlen
        refine ⟨by rw [hlen, hi.size], fun t d hd => ?_⟩
        have ht : t < e.length := by have h := (List.getElem?_eq_some_iff.1 hd).1; simp only at h; omega
        have hd' : d = Env.get (st ps.length).env t := by
          rw [stN]
          simp [Env.get, hd]
        rw [hd']
        rcases hi.env t ht with ⟨i, q, h1, h2, h3, h4, h5⟩ | ⟨h1, h2⟩
        · rw [T.envAt (i := i + 1) ps.length h1 (Nat.le_refl _) fun m q' hm1 hm2 hq' hd' => by
            have := h4 m q' hm2 hq' hd'
            omega]
          exact h5
        · rw [T.envAt (i := 0) ps.length (Nat.zero_le _) (Nat.le_refl _) fun m q' _ hm hq' hd' => h1 m q' hm hq' hd', h0]
          exact h2
      · rw [hd]
        exact hmk.post hs hpost
    · intro i
      simp only [false_iff, Array.getD_eq_getD_getElem?]
      by_cases hi : i < ops.size
      · simp [hi]
      · simp [hi]
    · refine Nat.le_trans List.countP_le_length (by simp)
    · intro i o _ h
      exact h.elim
    · refine { post := Post.more hs _ hw ⟨rfl, rfl, rfl⟩, next := by rw [hat0], low := by rw [hat0], ga := by rw [hat0]; exact fun r o h => h, gb := fun i h => h.elim, gc := by rw [hat0]; exact fun r o h => .inl h, res := fun i hi _ _ => hs.fresh _ (Nat.le_add_right _ _), env := fun t ht => .inr ⟨fun i p h => h.elim, by have := rel_get (hr.mono (Post.of_heap hs hw ⟨rfl, rfl, rfl⟩).later) t; rw [Array.getD_eq_getD_getElem?] at this; exact this⟩, size := hr.1.symm, acts := fun c _ _ => by simp, kle := Nat.zero_le _, dom := ?_, on := by rw [hat0]; simp, still := fun c p h => h.elim, nle := Nat.le_refl _, sub := fun i h => h.elim, n0 := by rw [hat0]; exact Nat.le_refl _, g0 := by rw [hat0]; exact fun r o h => by obtain ⟨b, x, h1, _⟩ := hs.obj r o h; have := lt_of_fresh hs.fresh h1; show r < H.next + _; omega }
      rw [hat0]
      intro q _ _
      cases hg : H.get (H.next + q) with
      | none => exact hg
      | some o =>
        obtain ⟨b, x, h1, _⟩ := hs.obj _ o hg
        have := lt_of_fresh hs.fresh h1
        omega
  · cases hev
end Go.Aug
