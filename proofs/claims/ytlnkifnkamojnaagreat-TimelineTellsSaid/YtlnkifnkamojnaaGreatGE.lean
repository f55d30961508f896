/-
All code, on both sides. Conditions: what is said of calls; that the model mixes orders.
-/
import Derived.Test.YtlnkifnkamojnaaGreatGD
import Derived.RangeFuncRecord
import Derived.Scope
import Derived.Below
namespace Go.Aug
variable {P : Program} {ρ : Ren} {Im : Nat → Prop} {H : Heap} {w : World} {e : Env} {a : Act}
theorem Post.skip (h : Sim P ρ Im H w) (x : Obj) : Post P ρ Im H w ρ Im H (w.alloc x) := by
  have hget : ∀ b, b < w.heap.size → (w.alloc x).heap[b]? = w.heap[b]? := fun b hb => by
    show (w.heap.push x)[b]? = w.heap[b]?
    simp [Array.getElem?_push, Nat.ne_of_lt hb]
  have hl : Later ρ Im w ρ Im (w.alloc x) :=
    ⟨fun _ _ h => h, fun _ h => h, fun b hb => hget b (h.imlt b hb), fun b cs e f hb => ⟨cs, f, by rw [hget b (Array.getElem?_eq_some_iff.1 hb).1]; exact hb, rfl⟩⟩
  have hsim : Sim P ρ Im H (w.alloc x) := ⟨fun r o hg => let ⟨b, y, a1, a2, a3, a4⟩ := h.obj r o hg; ⟨b, y, a1, a2, by rw [hget b (Array.getElem?_eq_some_iff.1 a3).1]; exact a3, a4.mono hl⟩, h.inj, h.fresh, fun b hb => by
    have := h.imlt b hb
    simp
    omega, h.low, h.glob.later hl⟩
  exact { later := hl, calm := ⟨rfl, rfl, rfl⟩, sim := hsim, size := (by simp), foot := fun b hb _ => hget b hb, imfoot := fun _ _ h => .inl h, live := fun r o b hg e => .inr ⟨r, o, hg, e⟩, old := fun _ _ => rfl, next := Nat.le_refl _, keep := ⟨Nat.le_refl _, fun _ _ => rfl⟩, sub := fun r o _ hg => ⟨o, hg⟩ }
theorem Post.beside {ρ' : Ren} {Im' : Nat → Prop} {H' : Heap} {w1 w' : World} (hp : Post P ρ Im H w ρ' Im' H' w1) {b : Nat} (hb : w.heap.size ≤ b) (hi : ¬ Im' b) (hno : ∀ r o, H'.get r = some o → ρ' r ≠ some b)
    (hc : ∀ (cs : Array Value) (e : TypeId) (f : Nat × Nat), w1.heap[b]? ≠ some (Obj.cells cs e f)) (h2 : ∀ k, k ≠ b → w'.heap[k]? = w1.heap[k]?) (h3 : w'.heap.size = w1.heap.size) (hcalm : Calm w1 w') : Post P ρ Im H w ρ' Im' H' w' := by
  have hl : Later ρ' Im' w1 ρ' Im' w' := by
    refine ⟨fun _ _ h => h, fun _ h => h, fun k hk => h2 k fun e => hi (e ▸ hk), fun k cs e f hk => ?_⟩
    have : k ≠ b := fun e' => hc cs e f (e' ▸ hk)
    exact ⟨cs, f, by rw [h2 k this]; exact hk, rfl⟩
  have hsim : Sim P ρ' Im' H' w' := ⟨fun r o hg => let ⟨k, y, a1, a2, a3, a4⟩ := hp.sim.obj r o hg; ⟨k, y, a1, a2, by rw [h2 k fun e => hno r o hg (e ▸ a1)]; exact a3, a4.mono hl⟩, hp.sim.inj, hp.sim.fresh, fun k hk => by
    have := hp.sim.imlt k hk
    omega, hp.sim.low, hp.sim.glob.later hl⟩
  exact { later := hp.later.trans hl, calm := hp.calm.trans hcalm, sim := hsim, size := (by have := hp.size; omega), foot := fun k hk hn => (h2 k (by omega)).trans (hp.foot k hk hn), imfoot := hp.imfoot, live := hp.live, old := hp.old, next := hp.next, keep := hp.keep, sub := hp.sub }
theorem Post.lose (h : Sim P ρ Im H w) {r b : Nat} {o0 : O} {w' : World} (hg : H.get r = some o0) (hb : ρ r = some b)
    (hc : ∀ (cs : Array Value) (e : TypeId) (f : Nat × Nat), w.heap[b]? ≠ some (Obj.cells cs e f)) (h2 : ∀ k, k ≠ b → w'.heap[k]? = w.heap[k]?) (h3 : w'.heap.size = w.heap.size) (hcalm : Calm w w') : Post P ρ Im H w ρ Im (H.del r) w' := by
  obtain ⟨b0, x0, a1, a2, a3, a4⟩ := h.obj r o0 hg
  obtain rfl : b0 = b := by rw [hb] at a1; exact (Option.some.inj a1).symm
  have hl : Later ρ Im w ρ Im w' := by
    refine ⟨fun _ _ h => h, fun _ h => h, fun k hk => h2 k fun e => a2 (e ▸ hk), fun k cs e f hk => ?_⟩
    have : k ≠ b0 := fun e' => hc cs e f (e' ▸ hk)
    exact ⟨cs, f, by rw [h2 k this]; exact hk, rfl⟩
  have hd := Post.del h r
  have hsub : ∀ q o, (H.del r).get q = some o → q ≠ r ∧ H.get q = some o := fun q o hq => by
    rw [Heap.get_del] at hq
    split at hq
    · cases hq
    · rename_i hne; exact ⟨hne, hq⟩
  have hsim : Sim P ρ Im (H.del r) w' := ⟨fun q o hq => let ⟨k, y, c1, c2, c3, c4⟩ := hd.sim.obj q o hq; ⟨k, y, c1, c2, by
    rw [h2 k fun e => (hsub q o hq).1 (h.inj q r o o0 k (hsub q o hq).2 hg c1 (e ▸ hb))]
    exact c3, c4.mono hl⟩, hd.sim.inj, hd.sim.fresh, fun k hk => by
    have := h.imlt k hk
    omega, hd.sim.low, h.glob.later hl⟩
  exact { later := hl, calm := hcalm, sim := hsim, size := (by omega), foot := fun k _ hn => h2 k fun e => hn r o0 hg (e ▸ hb), imfoot := hd.imfoot, live := hd.live, old := hd.old, next := hd.next, keep := hd.keep, sub := hd.sub }
theorem loop_at (h : Sim P ρ Im H w) {r b : Nat} {busy over : Bool} {jump : Ex} {e : List D} {params : List Nat} {assign body : AC} (hg : H.get r = some (.loop busy over jump e params assign body)) (hb : ρ r = some b) :
    ∃ lp : Loop, w.heap[b]? = some (.loop lp) ∧ ¬ Im b ∧ lp.state = (if busy then .busy else if over then .done else .ready) ∧ lp.pending = jumpOf jump ∧ RelL ρ Im w e lp.tmps ∧ lp.params.toList = params ∧ assign = comp P lp.assign ∧ body = comp P lp.body := by
  obtain ⟨b0, x, h1, h2, h3, h4⟩ := h.obj r _ hg
  obtain rfl : b0 = b := by rw [hb] at h1; exact (Option.some.inj h1).symm
  cases h4 with
  | loop hs hj ht hp => exact ⟨_, h3, h2, hs, hj, ht, hp, rfl, rfl⟩
theorem rel_one {d : D} {v : Value} (h : Rel ρ Im w d v) : RelL ρ Im w [d] #[v] :=
  ⟨rfl, fun i d' hd => by
    match i, hd with
    | 0, hd => simp at hd; subst hd; simpa [gv] using h⟩
theorem rfun_ok {call : CallF} (hcall : CallOk P call) {N : Nat} {rd : Option Nat} {g : Operand} {ps : Array Tmp} {assign body : Code} :
    CodeOk P (.rangeFunc g ps assign body) rd (fun e H => evC call N rd (.rfun (ofR g) ps.toList (comp P assign) (comp P body)) e H) := by
  intro e H ex e' H' hev ro n base ρ Im w a hro hs hr hm hbase
  simp only [evC] at hev
  split at hev
  · rename_i gf first caps hgd
    split at hev
    · rename_i hin
      split at hev
      · rename_i d H1 hc
        split at hev
        · rename_i over jump e2 p2 a2 b2 hl1
          simp only [Option.some.injEq, Prod.mk.injEq] at hev
          obtain ⟨rfl, rfl, rfl⟩ := hev
          have hgr := rel_eval hr g
          rw [hgd] at hgr
          cases hgv : a.eval g with
          | func fn xs ys =>
            rw [hgv] at hgr
            cases hgr with
            | fn hx hrx hy hry =>
              -- the record laid
              have lay : ∀ (w0 : World) (r : Nat), Post P ρ Im H w ρ Im H w0 → ∀ fn', ∃ lp : Loop, lp = { state := .ready, pending := none, fn := fn', tmps := a.tmps, params := ps, assign := assign, body := body, defers := r } ∧
                  Post P ρ Im H w (renAdd ρ H.next w0.heap.size) Im (H.add (.loop false false .normal e ps.toList (comp P assign) (comp P body))) (w0.alloc (.loop lp)) ∧ Post P ρ Im H w0 (renAdd ρ H.next w0.heap.size) Im (H.add (.loop false false .normal e ps.toList (comp P assign) (comp P body))) (w0.alloc (.loop lp)) ∧ renAdd ρ H.next w0.heap.size H.next = some w0.heap.size := by
                intro w0 r hp fn'
                refine ⟨_, rfl, ?_⟩
                have ho : RelO P ρ Im w0 (.loop false false .normal e ps.toList (comp P assign) (comp P body)) (.loop { state := .ready, pending := none, fn := fn', tmps := a.tmps, params := ps, assign := assign, body := body, defers := r }) :=
                  RelO.loop (P := P) (lp := { state := .ready, pending := none, fn := fn', tmps := a.tmps, params := ps, assign := assign, body := body, defers := r }) rfl rfl (hr.mono hp.later) rfl
                obtain ⟨p1, p2⟩ := Post.add hp.sim ho
                exact ⟨hp.trans p1, p1, p2⟩
              -- from the record on
              have go : ∀ (w0 w1 : World) (mark : List Deferred) (l : Nat), Post P ρ Im H w (renAdd ρ H.next l) Im (H.add (.loop false false .normal e ps.toList (comp P assign) (comp P body))) w1 → renAdd ρ H.next l H.next = some l →
                  Marks base Im (mark ++ a.defers) w1 →
                  ∃ (d' : Deferred) (w1' : World) (f : FuncId) (args : Array Value) (w2 : World), (resolve a.eval (rangeCall g l) 0).run P w1 = .ok d' w1' ∧
                    (∀ f', Target.leads P w1' d'.target d'.args = some f' → (wideR ro).fn f') ∧
                    (invoke d'.target d'.args).run P w1' = .ok (.enter f args) w2 ∧
                    ((wideR ro).depth.isSome = true → 1 ≤ n) ∧
                    CallsIn (wideR ro) (n - 1) P f args w2 (rangePost (wideR ro) n P l (Out P base ρ Im H w jump e (H1.del H.next)) { a with defers := mark ++ a.defers }) := by
                intro w0 w1 mark l hp hl hmk
                have hargs : RelL (renAdd ρ H.next l) Im w1 (first ++ [.yl H.next] ++ caps) (xs ++ #[.func (.yield l) #[] #[]] ++ ys) :=
                  RelL.append (RelL.append (RelL.mono ⟨hx, hrx⟩ hp.later) (rel_one (.yl hl))) (RelL.mono ⟨hy, hry⟩ hp.later)
                obtain ⟨c1, c2⟩ := (hcall.fn gf _ _ d H1 hc (renAdd ρ H.next l) Im w1 _ hp.sim hargs).resolve_right (fun h => h.1 H.next (by simp))
                refine ⟨{ target := .fn (.func gf) ys, args := xs ++ #[.func (.yield l) #[] #[]] }, w1, gf, xs ++ #[.func (.yield l) #[] #[]] ++ ys, w1, ?_, fun _ _ => trivial, ?_, fun h => by simp [wideR, Fence.wide] at h, ?_⟩
                · have hy0 : a.eval (.const (.func (.yield l) #[] #[])) = .func (.yield l) #[] #[] := rfl
                  simp [resolve, hgv, Deferred.ofValue, hy0]
                · simpa [invoke] using c1
                · have h3 : CallsIn (wideR ro) (n - 1) P gf (xs ++ #[.func (.yield l) #[] #[]] ++ ys) w1 _ := c2 (n - 1)
                  refine h3.mono ?_
                  rintro e' w3 ⟨v, ρ3, Im3, rfl, hp3, hrel⟩
                  have hl3 := hp3.later.ren _ _ hl
                  obtain ⟨lp, q1, q2, q3, q4, q5, q6, q7, q8⟩ := loop_at hp3.sim hl1 hl3
                  have hend := run_endLoop (P := P) (l := l) (r := lp) q1 (by rw [q3]; cases over <;> simp)
                  have hlo := Post.lose (w' := w3.putObj l (.loop { lp with state := .exhausted })) hp3.sim hl1 hl3 (by rw [q1]; intros; simp) (fun k hk => World.putObj_heap_other hk) World.putObj_size ⟨rfl, rfl, rfl⟩
                  have hall := hp.trans (hp3.trans hlo)
                  have hmk' := (hmk.post hp.sim (hp3.trans hlo))
                  have hout : ∀ x, x = exOf jump → Out P base ρ Im H w jump e (H1.del H.next) x { a with defers := mark ++ a.defers } (w3.putObj l (.loop { lp with state := .exhausted })) :=
                    fun x hx => ⟨ρ3, Im3, hx, hall, hr.mono hall.later, hmk'⟩
                  generalize w3.putObj l (.loop { lp with state := .exhausted }) = W at hend hout
                  refine ⟨jumpOf jump, W, hend.trans (congrArg (fun x => Result.ok x W) q4), ?_⟩
                  cases jump with
                  | normal => exact hout _ rfl
                  | exit id => exact wpIn_exit (hout _ rfl)
                  | ret => exact wpIn_ret (hout _ rfl)
              refine wpIn_rangeFunc fun fn' _ => ?_
              cases ro with
              | none =>
                have hp0 := Post.skip hs (.deferred (some []))
                obtain ⟨lp, rfl, p1, p0, p2⟩ := lay (w.alloc (.deferred (some []))) w.heap.size hp0 fn'
                have hmk : Marks base Im ([{ target := .collected w.heap.size, args := #[] }] ++ a.defers) (w.alloc (.deferred (some []))) := by
                  have hm' := hm.post hs hp0
                  obtain ⟨rs, m1, m2, m3⟩ := hm
                  obtain ⟨rs', m1', m2', m3'⟩ := hm'
                  have hrs : rs' = rs := by
                    have hmm := m1'.symm.trans m1
                    exact (List.map_inj_right (fun x y h => by simpa using h)).1 hmm
                  subst hrs
                  refine ⟨w.heap.size :: rs', by simp [m1], List.pairwise_cons.2 ⟨fun r hr e => ?_, m2⟩, fun r hr => ?_⟩
                  · have := (Array.getElem?_eq_some_iff.1 (m3 r hr).1).1
                    omega
                  · rcases List.mem_cons.1 hr with rfl | hr
                    · exact ⟨World.alloc_heap_new w _, fun hi => Nat.lt_irrefl _ (hs.imlt _ hi), hbase⟩
                    · exact m3' r hr
                obtain ⟨d', w1', f, args, w2, g1, g2, g3, g4, g5⟩ := go w _ [{ target := .collected w.heap.size, args := #[] }] _ p1 p2 (hmk.post hp0.sim p0)
                refine ⟨(w.alloc (.deferred (some []))).heap.size, [{ target := .collected w.heap.size, args := #[] }], _, d', w1', f, args, w2, ?_, g1, g2, g3, g4, g5⟩
                have := run_enterLoop_outer (P := P) (w := w) fn' a.tmps ps assign body
                simpa [wideR] using this
              | some l0 =>
                obtain ⟨r0, h5, h6⟩ := hro l0 rfl
                subst h5
                simp only [inRound] at hin
                split at hin
                · rename_i b1 b2 b3 b4 b5 b6 b7 hg0
                  obtain ⟨lp0, q1, _⟩ := loop_at hs hg0 h6
                  obtain ⟨lp, rfl, p1, p0, p2⟩ := lay w lp0.defers (Post.refl hs) fn'
                  obtain ⟨d', w1', f, args, w2, g1, g2, g3, g4, g5⟩ := go w _ [] _ p1 p2 (by simpa using hm.post hs p0)
                  refine ⟨w.heap.size, [], _, d', w1', f, args, w2, ?_, g1, g2, g3, g4, g5⟩
                  unfold Instr.enterLoop
                  simp only [wideR, Sem.run_bind, run_getLoop q1, run_newObj_alloc, Result.andThen, Sem.run_pure]
                · cases hin
          | _ => rw [hgv] at hgr; cases hgr
        · cases hev
      · cases hev
    · cases hev
  · cases hev
end Go.Aug
namespace Go
section
variable {F : Fence} {n : Nat} {P : Program} {Q : Exit → Act → World → Prop} {a : Act} {w : World} {b : Frame} {k : List Item} {cs : List Frame}
theorem stepR_scope {c : Code} : step P (lone (b.atR a (.code (.scope c) :: k)) cs w) = .next (lone (b.atR a (.code c :: .inScope c :: k)) cs w) :=
  step_lone_go (by simp [stepG, stepG.exec, Frame.atR])
theorem stepR_inScope {c : Code} : step P (lone (b.atR a (.inScope c :: k)) cs w) = .next (lone (b.atR a k) cs w) :=
  step_lone_go (by simp [stepG, stepG.exec, Frame.atR])
theorem wpIn_scope {c : Code} (h : c.wpIn F n P (Exit.noGoto Q) a w) : (Code.scope c).wpIn F n P Q a w := by
  intro b k cs hro hb hr
  have h0 : (lone (b.atR a (.code (.scope c) :: k)) cs w).fenced P F := fenced_calm hb hr rfl
  obtain ⟨e, a₁, w₁, hq, harr⟩ := h b (.inScope c :: k) cs hro hb hr
  cases e with
  | normal => exact ⟨.normal, a₁, w₁, hq, .head h0 stepR_scope (StepsIn.trans harr (.one (fenced_calm hb hr rfl) stepR_inScope))⟩
  | exit id =>
    have hx : exitTo id (.inScope c :: k) = exitTo id k := by simp [exitTo]
    exact ⟨.exit id, a₁, w₁, hq, fun k' hk => .head h0 stepR_scope (harr.1 k' (by rw [hx]; exact hk)),
      fun hr' hk => let ⟨k₁, h1, h2⟩ := harr.2 hr' (by rw [hx]; exact hk); ⟨k₁, h1, .head h0 stepR_scope h2⟩⟩
  | goto l => exact hq.elim
  | ret => exact ⟨_, a₁, w₁, hq, .of_steps (.one h0 stepR_scope) harr⟩
  | panic ch => exact ⟨_, a₁, w₁, hq, .of_steps (.one h0 stepR_scope) harr⟩
  | outgrown => exact ⟨_, a₁, w₁, hq, .of_steps (.one h0 stepR_scope) harr⟩
end
end Go
namespace Go.Aug
variable {P : Program}
theorem bad_ok {c : Code} {rd : Option Nat} : CodeOk P c rd (fun _ _ => none) := by
  intro e H ex e' H' hev
  cases hev
theorem CodeOk.of_eq {c : Code} {rd : Option Nat} {f g : Env → Heap → Option St} (h : CodeOk P c rd f) (hfg : ∀ e H, g e H = f e H) : CodeOk P c rd g := by
  have : g = f := funext fun e => funext fun H => hfg e H
  rw [this]
  exact h
theorem code_ok {call : CallF} (hcall : CallOk P call) (hm : P.follows .mixedOrders = true) (N : Nat) (rd : Option Nat) : ∀ c : Code, CodeOk P c rd (fun e H => evC call N rd (comp P c) e H)
  | .skip => by
    intro e H ex e' H' hev ro n base ρ Im w a hro hs hr hmk hbase
    simp only [comp, evC, Option.some.injEq, Prod.mk.injEq] at hev
    obtain ⟨rfl, rfl, rfl⟩ := hev
    exact wpIn_skip ⟨ρ, Im, rfl, Post.refl hs, hr, hmk⟩
  | .label l => by
    intro e H ex e' H' hev ro n base ρ Im w a hro hs hr hmk hbase
    simp only [comp, evC, Option.some.injEq, Prod.mk.injEq] at hev
    obtain ⟨rfl, rfl, rfl⟩ := hev
    exact wpIn_label ⟨ρ, Im, rfl, Post.refl hs, hr, hmk⟩
  | .scope b => by
    intro e H ex e' H' hev ro n base ρ Im w a hro hs hr hmk hbase
    simp only [comp] at hev
    refine wpIn_scope (wpIn_mono (code_ok hcall hm N rd b e H ex e' H' hev ro n base ρ Im w a hro hs hr hmk hbase) ?_)
    rintro x2 a2 w2 ⟨ρ2, Im2, rfl, h2, h3, h4⟩
    cases ex with
    | normal => exact ⟨ρ2, Im2, rfl, h2, h3, h4⟩
    | exit id => exact ⟨ρ2, Im2, rfl, h2, h3, h4⟩
    | ret => exact ⟨ρ2, Im2, rfl, h2, h3, h4⟩
  | .ret => by
    intro e H ex e' H' hev ro n base ρ Im w a hro hs hr hmk hbase
    simp only [comp, evC, Option.some.injEq, Prod.mk.injEq] at hev
    obtain ⟨rfl, rfl, rfl⟩ := hev
    exact wpIn_ret ⟨ρ, Im, rfl, Post.refl hs, hr, hmk⟩
  | .exit id => by
    intro e H ex e' H' hev ro n base ρ Im w a hro hs hr hmk hbase
    simp only [comp, evC, Option.some.injEq, Prod.mk.injEq] at hev
    obtain ⟨rfl, rfl, rfl⟩ := hev
    exact wpIn_exit ⟨ρ, Im, rfl, Post.refl hs, hr, hmk⟩
  | .seq x y => by
    intro e H ex e' H' hev ro n base ρ Im w a hro hs hr hmk hbase
    simp only [comp, evC] at hev
    refine wpIn_seq ?_
    cases hx : evC call N rd (comp P x) e H with
    | none => rw [hx] at hev; cases hev
    | some r =>
      obtain ⟨x1, e1, H1⟩ := r
      rw [hx] at hev
      refine wpIn_mono (code_ok hcall hm N rd x e H x1 e1 H1 hx ro n base ρ Im w a hro hs hr hmk hbase) ?_
      rintro x2 a2 w2 ⟨ρ2, Im2, rfl, h2, h3, h4⟩
      cases x1 with
      | normal =>
        simp only at hev
        refine wpIn_mono (code_ok hcall hm N rd y e1 H1 ex e' H' hev ro n base ρ2 Im2 w2 a2 (fun l hl => let ⟨r, h5, h6⟩ := hro l hl; ⟨r, h5, h2.later.ren r l h6⟩) h2.sim h3 h4 (Nat.le_trans hbase h2.size)) ?_
        intro x3 a3 w3 h
        exact h.trans h2
      | exit id =>
        simp only [Option.some.injEq, Prod.mk.injEq] at hev
        obtain ⟨rfl, rfl, rfl⟩ := hev
        exact ⟨ρ2, Im2, rfl, h2, h3, h4⟩
      | ret =>
        simp only [Option.some.injEq, Prod.mk.injEq] at hev
        obtain ⟨rfl, rfl, rfl⟩ := hev
        exact ⟨ρ2, Im2, rfl, h2, h3, h4⟩
  | .cond c x y => by
    intro e H ex e' H' hev ro n base ρ Im w a hro hs hr hmk hbase
    simp only [comp, evC] at hev
    split at hev
    · rename_i t hc
      have hrel := rel_eval hr c
      rw [hc] at hrel
      have hcv := hrel.v_inv
      refine wpIn_cond (t := t) hcv ?_
      cases t with
      | true =>
        simp only [if_true] at hev
        exact code_ok hcall hm N rd x e H ex e' H' hev ro n base ρ Im w a hro hs hr hmk hbase
      | false =>
        simp only [Bool.false_eq_true, if_false] at hev
        exact code_ok hcall hm N rd y e H ex e' H' hev ro n base ρ Im w a hro hs hr hmk hbase
    · cases hev
  | .block id b => by
    intro e H ex e' H' hev ro n base ρ Im w a hro hs hr hmk hbase
    simp only [comp, evC] at hev
    refine wpIn_block ?_
    cases hb : evC call N rd (comp P b) e H with
    | none => rw [hb] at hev; cases hev
    | some r =>
      obtain ⟨x1, e1, H1⟩ := r
      rw [hb] at hev
      refine wpIn_mono (code_ok hcall hm N rd b e H x1 e1 H1 hb ro n base ρ Im w a hro hs hr hmk hbase) ?_
      rintro x2 a2 w2 ⟨ρ2, Im2, rfl, h2, h3, h4⟩
      cases x1 with
      | normal =>
        simp only [Option.some.injEq, Prod.mk.injEq] at hev
        obtain ⟨rfl, rfl, rfl⟩ := hev
        exact ⟨ρ2, Im2, rfl, h2, h3, h4⟩
      | exit id' =>
        simp only at hev
        simp only [exOf, Exit.inBlock]
        split at hev
        · rename_i hid
          rw [if_pos hid]
          simp only [Option.some.injEq, Prod.mk.injEq] at hev
          obtain ⟨rfl, rfl, rfl⟩ := hev
          exact ⟨ρ2, Im2, rfl, h2, h3, h4⟩
        · rename_i hid
          rw [if_neg hid]
          simp only [Option.some.injEq, Prod.mk.injEq] at hev
          obtain ⟨rfl, rfl, rfl⟩ := hev
          exact ⟨ρ2, Im2, rfl, h2, h3, h4⟩
      | ret =>
        simp only [Option.some.injEq, Prod.mk.injEq] at hev
        obtain ⟨rfl, rfl, rfl⟩ := hev
        exact ⟨ρ2, Im2, rfl, h2, h3, h4⟩
  | .loop b => (loop_ok (code_ok hcall hm N rd b) N).of_eq fun e H => by simp only [comp, evC]
  | .rangeFunc g ps x y => (rfun_ok hcall (N := N) (rd := rd) (g := g) (ps := ps) (assign := x) (body := y)).of_eq fun e H => by simp only [comp]
  | .region id ops draw => by
    cases draw with
    | true =>
      cases hd : compDraw P ops (masks ops.toList) (ops.toList.map fun o => (compOp P o.op).2) ops.toList 0 with
      | none => exact bad_ok.of_eq fun e H => by simp only [comp, if_true, hd, evC]
      | some ps =>
        cases hok : drawOk ops.toList (masks ops.toList) (ops.toList.map fun o => (compOp P o.op).2) ps with
        | true => exact (dreg_ok hcall hm hd hok).of_eq fun e H => by simp only [comp, if_true, hd, hok, evC]
        | false => exact bad_ok.of_eq fun e H => by simp only [comp, if_true, hd, hok, Bool.false_eq_true, if_false, evC]
    | false =>
      cases hd : compPlain P ops ops.toList with
      | none => exact bad_ok.of_eq fun e H => by simp only [comp, Bool.false_eq_true, if_false, hd, evC]
      | some ps =>
        intro e H ex e' H' hev ro n base ρ Im w a hro hs hr hmk hbase
        simp only [comp, Bool.false_eq_true, if_false, hd, evC, Option.map_eq_some_iff, Prod.mk.injEq] at hev
        obtain ⟨⟨e1, H1⟩, hev, rfl, rfl, rfl⟩ := hev
        refine wpIn_region ?_
        have := evOps_ok hcall (ro := ro) (n := n) (Q := Out P base ρ Im H w .normal e1 H1) (ops := ops) ops.toList 0 ps e H e1 H1 ρ Im w a (by simp) hd hev hs hr fun a' w' ρ' Im' hp hr' hdf => ⟨ρ', Im', rfl, hp, hr', by rw [hdf]; exact hmk.post hs hp⟩
        rw [List.range_eq_range']
        simpa using this
  | .goto _ => bad_ok.of_eq fun e H => by simp only [comp, evC]
  | .refuse _ => bad_ok.of_eq fun e H => by simp only [comp, evC]
end Go.Aug
namespace Go.Aug
variable {P : Program} {ρ : Ren} {Im : Nat → Prop} {H : Heap} {w : World}
theorem rel_set {e : Env} {tmps : Array Value} (hr : RelL ρ Im w e tmps) {i : Nat} {d : D} {v : Value} (hd : Rel ρ Im w d v) : RelL ρ Im w (e.set i d) (tmps.setIfInBounds i v) :=
  rel_put (a := { tmps := tmps, defers := [] }) hr (dst := some i) hd
theorem rel_fold : ∀ (params : List Nat) (args : List D) (vs : List Value) (e : Env) (tmps : Array Value), args.length = vs.length → (∀ (i : Nat) (d : D), args[i]? = some d → Rel ρ Im w d ((vs[i]?).getD undef)) → RelL ρ Im w e tmps →
    RelL ρ Im w ((params.zip args).foldl (fun e p => e.set p.1 p.2) e) ((params.zip vs).foldl (fun tmps p => tmps.setIfInBounds p.1 p.2) tmps)
  | [], args, vs, e, tmps, _, _, hr => by simpa using hr
  | p :: ps, [], vs, e, tmps, hl, _, hr => by
    have : vs = [] := List.length_eq_zero_iff.1 hl.symm
    subst this
    simpa using hr
  | p :: ps, d :: args, [], e, tmps, hl, _, hr => by simp at hl
  | p :: ps, d :: args, v :: vs, e, tmps, hl, hrel, hr => by
    simp only [List.zip_cons_cons, List.foldl_cons]
    refine rel_fold ps args vs _ _ (by simpa using hl) (fun i d' hd => ?_) (rel_set hr ?_)
    · have := hrel (i + 1) d' (by simpa using hd)
      simpa using this
    · have := hrel 0 d (by simp)
      simpa using this
theorem round_ok {call : CallF} (hcall : CallOk P call) (hm : P.follows .mixedOrders = true) {N q : Nat} {args : List D} {r : D} {H' : Heap} (hev : evRound call N q args H = some (r, H')) {vs : Array Value} (hs : Sim P ρ Im H w) (hr : RelL ρ Im w args vs) {b : Nat} (hb : ρ q = some b) :
    ∃ f tmps assign body, (Instr.yield b vs).run P w = .ok (.round b f tmps assign body) w ∧ ∀ n, RoundIn Fence.wide n P b f tmps assign body w (Ret P ρ Im H w r H') := by
  unfold evRound at hev
  split at hev
  · rename_i jump e params assign body hg
    split at hev
    · rename_i hlen
      have hlen : params.length = args.length := by simpa using hlen
      obtain ⟨lp, q1, q2, q3, q4, q5, q6, q7, q8⟩ := loop_at hs hg hb
      have hps : vs.size = lp.params.size := by
        have h1 := hr.1
        have h2 : lp.params.size = params.length := by rw [← q6]; simp
        omega
      refine ⟨_, _, _, _, run_yield q1 hps, fun n => ?_⟩
      have hframe : RelL ρ Im w ((params.zip args).foldl (fun e p => e.set p.1 p.2) e) ((lp.params.zip vs).foldl (fun tmps (t, a) => tmps.setIfInBounds t a) lp.tmps) := by
        have h1 := rel_fold params args vs.toList e lp.tmps (by simpa using hr.1) (fun i d hd => by have := hr.2 i d hd; simpa [gv] using this) q5
        have h2 : (lp.params.zip vs).foldl (fun tmps (t, a) => tmps.setIfInBounds t a) lp.tmps = (params.zip vs.toList).foldl (fun tmps p => tmps.setIfInBounds p.1 p.2) lp.tmps := by
          rw [← Array.foldl_toList, Array.toList_zip, q6]
        rw [h2]
        exact h1
      split at hev
      · rename_i e1 H1 ha
        split at hev
        · rename_i j1 e1' p1 a1 b1 hg1
          refine roundIn_of_wpIn trivial ?_
          have hro : ∀ (ρ1 : Ren), ρ1 q = some b → ∀ l, (some b : Option Nat) = some l → ∃ r, (some q : Option Nat) = some r ∧ ρ1 r = some l := fun ρ1 h l hl => ⟨q, rfl, by cases hl; exact h⟩
          rw [q7] at ha
          have hA := code_ok hcall hm N (some q) lp.assign _ H .normal e1 H1 ha (some b) n w.heap.size ρ Im w { tmps := (lp.params.zip vs).foldl (fun tmps (t, a) => tmps.setIfInBounds t a) lp.tmps, defers := [] } (hro ρ hb) hs hframe ⟨[], rfl, List.Pairwise.nil, fun _ h => by cases h⟩ (Nat.le_refl _)
          refine wpIn_mono (show Code.wpIn (Fence.wide.inRound b) n P lp.assign _ _ w from hA) ?_
          rintro x a2 w2 ⟨ρ2, Im2, rfl, h2, h3, h4⟩
          have hb2 := h2.later.ren q b hb
          obtain ⟨lp2, s1, s2, s3, s4, s5, s6, s7, s8⟩ := loop_at h2.sim hg1 hb2
          refine ⟨_, run_beginRound s1 (by simpa using s3), ?_⟩
          have hlt := (Array.getElem?_eq_some_iff.1 s1).1
          have hset := Post.set (o := .loop true false j1 e1' p1 a1 b1) (x := .loop { lp2 with state := .busy }) (w' := w2.putObj b (.loop { lp2 with state := .busy })) h2.sim hg1 hb2
            (by rw [s7, s8]; exact RelO.loop (lp := { lp2 with state := .busy }) rfl s4 s5 s6) (World.putObj_heap_same hlt) (fun k hk => World.putObj_heap_other hk) World.putObj_size (fun cs e f h => by rw [s1] at h; cases h) ⟨rfl, rfl, rfl⟩
          split at hev
          · rename_i x e3 H2 hbd
            split at hev
            · rename_i b1' o1' j1' e2 p2 a2' b2 hg2
              have hp2 := h2.trans hset
              rw [q8] at hbd
              have hB := code_ok hcall hm N (some q) lp.body _ _ x e3 H2 hbd (some b) n w.heap.size ρ2 Im2 _ a2 (hro ρ2 hb2) hset.sim (h3.mono hset.later) (h4.post h2.sim hset) (Nat.le_trans h2.size hset.size)
              refine wpIn_mono (show Code.wpIn (Fence.wide.inRound b) n P lp.body _ _ _ from hB) ?_
              rintro x' a3 w3 ⟨ρ3, Im3, rfl, g2, g3, g4⟩
              have hb3 := g2.later.ren q b hb2
              obtain ⟨lp3, t1, t2, t3, t4, t5, t6, t7, t8⟩ := loop_at g2.sim hg2 hb3
              have hlt3 := (Array.getElem?_eq_some_iff.1 t1).1
              have fin : ∀ (jj : Option Code) (over : Bool) (jx : Ex), jj = jumpOf jx → over = !jj.isNone →
                  ∃ v w', (Instr.endRound b jj).run P w3 = .ok v w' ∧ v = .bool jj.isNone ∧ Post P ρ Im H w ρ3 Im3 (H2.set q (.loop false over jx e2 p2 a2' b2)) w' := by
                intro jj over jx h1 h2
                have hset3 := Post.set (o := .loop false over jx e2 p2 a2' b2) (x := .loop { lp3 with state := if jj.isNone then .ready else .done, pending := jj }) (w' := w3.putObj b (.loop { lp3 with state := if jj.isNone then .ready else .done, pending := jj })) g2.sim hg2 hb3
                  (by rw [t7, t8]; exact RelO.loop (lp := { lp3 with state := if jj.isNone then .ready else .done, pending := jj }) (by rw [h2]; cases jj <;> rfl) h1 t5 t6) (World.putObj_heap_same hlt3) (fun k hk => World.putObj_heap_other hk) World.putObj_size (fun cs e f h => by rw [t1] at h; cases h) ⟨rfl, rfl, rfl⟩
                exact ⟨_, _, run_endRound jj t1, rfl, hp2.trans (g2.trans hset3)⟩
              cases x with
              | normal =>
                simp only [Option.some.injEq, Prod.mk.injEq] at hev
                obtain ⟨rfl, rfl⟩ := hev
                obtain ⟨v, w', f1, f2, f3⟩ := fin none false .normal rfl rfl
                exact ⟨v, w', f1, v, ρ3, Im3, rfl, f3, by rw [f2]; exact .v _⟩
              | exit id =>
                simp only [Option.some.injEq, Prod.mk.injEq] at hev
                obtain ⟨rfl, rfl⟩ := hev
                obtain ⟨v, w', f1, f2, f3⟩ := fin (some (.exit id)) true (.exit id) rfl rfl
                exact ⟨v, w', f1, v, ρ3, Im3, rfl, f3, by rw [f2]; exact .v _⟩
              | ret =>
                simp only [Option.some.injEq, Prod.mk.injEq] at hev
                obtain ⟨rfl, rfl⟩ := hev
                obtain ⟨v, w', f1, f2, f3⟩ := fin (some .ret) true .ret rfl rfl
                exact ⟨v, w', f1, v, ρ3, Im3, rfl, f3, by rw [f2]; exact .v _⟩
            · cases hev
          · cases hev
        · cases hev
      · cases hev
    · cases hev
  · cases hev
end Go.Aug
namespace Go.Aug
variable {P : Program} {ρ : Ren} {Im : Nat → Prop} {H : Heap} {w : World}
def resVar (tmps : Array Value) : ResultVar → Sem Value
  | .tmp t => pure (tmps.getD t undef)
  | .cell a t => do loadVar t (← asAddr (tmps.getD a undef))
theorem run_resVars {e : Env} {tmps : Array Value} (hs : Sim P ρ Im H w) (hr : RelL ρ Im w e tmps) : ∀ (l : List ResultVar) (rs : List RV) (ds : List D), compRVs P l = some rs → evRVs e H rs = some ds →
    ∃ vs : List Value, (l.mapM (resVar tmps)).run P w = .ok vs w ∧ RelL ρ Im w ds vs.toArray
  | [], rs, ds, hc, he => by
    simp only [compRVs, Option.some.injEq] at hc
    subst hc
    simp only [evRVs, Option.some.injEq] at he
    subst he
    exact ⟨[], by simp [Sem.run_pure], rfl, fun i d hd => by simp at hd⟩
  | r :: l, rs, ds, hc, he => by
    simp only [compRVs] at hc
    split at hc
    · rename_i x l' hx hl'
      cases hc
      simp only [evRVs] at he
      split at he
      · rename_i d ds' hd hds
        cases he
        obtain ⟨vs, h1, h2⟩ := run_resVars hs hr l l' ds' hl' hds
        have hone : ∃ v, (resVar tmps r).run P w = .ok v w ∧ Rel ρ Im w d v := by
          cases r with
          | tmp t =>
            simp only [compRV, Option.some.injEq] at hx
            subst hx
            simp only [evRV, Option.some.injEq] at hd
            subst hd
            exact ⟨_, by simp [resVar, Sem.run_pure], rel_get (a := { tmps := tmps, defers := [] }) hr t⟩
          | cell a t =>
            simp only [compRV, Option.map_eq_some_iff] at hx
            obtain ⟨k, hk, rfl⟩ := hx
            simp only [evRV, evLoad] at hd
            split at hd
            · cases hd
            · rename_i cl hcl
              obtain ⟨b, o, h3, cs, h4, h5⟩ := cellsAt_ok hs.has (rel_get (a := { tmps := tmps, defers := [] }) hr a) hcl
              obtain ⟨v, h6, h7⟩ := run_load_kind (P := P) hk h4 h5 hd
              refine ⟨v, ?_, h7⟩
              simp only [resVar, h3, asAddr, Sem.run_bind, Sem.run_pure, Result.andThen_ok]
              exact h6
        obtain ⟨v, h3, h4⟩ := hone
        refine ⟨v :: vs, ?_, ?_⟩
        · simp only [List.mapM_cons, Sem.run_bind, h3, h1, Result.andThen_ok, Sem.run_pure]
        · have := RelL.append (rel_one h4) h2
          simpa using this
      · cases he
    · cases hc
theorem run_results {fn : Func} {e : Env} {tmps : Array Value} {rs : List RV} {ds : List D} (hs : Sim P ρ Im H w) (hr : RelL ρ Im w e tmps) (hc : compRVs P fn.results.toList = some rs) (he : evRVs e H rs = some ds) :
    ∃ v, (results fn tmps).run P w = .ok v w ∧ Rel ρ Im w (resOf ds) v := by
  obtain ⟨vs, h1, h2⟩ := run_resVars hs hr _ _ _ hc he
  have hm : (fn.results.mapM (resVar tmps)).run P w = .ok vs.toArray w := by
    rw [Array.mapM_eq_mapM_toList]
    simp only [map_eq_pure_bind, Sem.run_bind, h1, Result.andThen_ok, Sem.run_pure]
  refine ⟨if h : vs.toArray.size = 1 then vs.toArray[0] else .tuple vs.toArray, ?_, ?_⟩
  · unfold results
    rw [Sem.run_bind]
    show (Sem.run P (fn.results.mapM (resVar tmps)) w).andThen _ = _
    rw [hm]
    simp only [Result.andThen_ok, Sem.run_pure]
  · have hl := h2.1
    match ds, vs with
    | [], [] => exact .tup rfl h2.2
    | [d], [v] =>
      have := h2.2 0 d rfl
      simpa [resOf, gv] using this
    | d :: d' :: ds, v :: v' :: vs => exact .tup h2.1 h2.2
    | [], _ :: _ => simp at hl
    | _ :: _, [] => simp at hl
    | [_], _ :: _ :: _ => simp at hl
    | _ :: _ :: _, [_] => simp at hl
theorem leaves_ok {fn : Func} {tmps : Array Value} {n : Nat} {R : Ending → World → Prop} : ∀ (rs : List Nat) (w1 : World) (ρ' : Ren) (Im' : Nat → Prop) (H' : Heap), Post P ρ Im H w ρ' Im' H' w1 → rs.Pairwise (· ≠ ·) →
    (∀ r ∈ rs, w1.heap[r]? = some (.deferred (some [])) ∧ ¬ Im' r ∧ w.heap.size ≤ r) →
    (∀ w2, Post P ρ Im H w ρ' Im' H' w2 → Later ρ' Im' w1 ρ' Im' w2 → ∃ v, (results fn tmps).run P w2 = .ok v w2 ∧ R (.returned v) w2) →
    LeavesInM Fence.wide n P fn tmps R (rs.map fun r => { target := .collected r, args := #[] }) .returning w1
  | [], w1, ρ', Im', H', hp, _, _, hR => by
    obtain ⟨v, h1, h2⟩ := hR w1 hp (.refl _ _ _)
    exact ⟨v, h1, h2⟩
  | r :: rs, w1, ρ', Im', H', hp, hd, hm, hR => by
    obtain ⟨h1, h2, h3⟩ := hm r (by simp)
    obtain ⟨d1, d2⟩ := List.pairwise_cons.1 hd
    have hno := hp.sim.deferred h1
    have hp' := Post.beside (w' := w1.putObj r (.deferred none)) hp h3 h2 hno (fun cs e f h => by rw [h1] at h; cases h) (fun k hk => World.putObj_heap_other hk) World.putObj_size ⟨rfl, rfl, rfl⟩
    have hl : Later ρ' Im' w1 ρ' Im' (w1.putObj r (.deferred none)) := by
      refine ⟨fun _ _ h => h, fun _ h => h, fun k hk => World.putObj_heap_other fun e => h2 (e ▸ hk), fun k cs e f hk => ?_⟩
      have : k ≠ r := fun e' => by rw [e', h1] at hk; cases hk
      exact ⟨cs, f, by rw [World.putObj_heap_other this]; exact hk, rfl⟩
    refine ⟨by simp, .inl ⟨r, _, rfl, run_takeDeferred h1, ?_⟩⟩
    refine leaves_ok rs _ ρ' Im' H' hp' d2 (fun q hq => ?_) fun w2 hp2 hl2 => hR w2 hp2 (hl.trans hl2)
    obtain ⟨g1, g2, g3⟩ := hm q (by simp [hq])
    exact ⟨by rw [World.putObj_heap_other fun e => d1 q hq e.symm]; exact g1, g2, g3⟩
theorem rel_pad {l : List D} {vs : Array Value} (h : RelL ρ Im w l vs) (n : Nat) : RelL ρ Im w (l ++ List.replicate (n - l.length) uD) (vs ++ Array.replicate (n - vs.size) undef) := by
  refine RelL.append h ⟨by simp [h.1], fun i d hd => ?_⟩
  have hd' : d = uD := by
    have := List.getElem?_eq_some_iff.1 hd
    obtain ⟨h1, h2⟩ := this
    simpa using h2.symm
  subst hd'
  have hi : i < n - vs.size := by
    have := (List.getElem?_eq_some_iff.1 hd).1
    rw [← h.1]
    simpa using this
  have : gv (Array.replicate (n - vs.size) undef) i = undef := by simp [gv, hi]
  rw [this]
  exact .v undef
theorem frzL_get {f : D → Option D} : ∀ {l l' : List D}, frzL f l = some l' → l'.length = l.length ∧ ∀ (i : Nat) (d' : D), l'[i]? = some d' → ∃ d, l[i]? = some d ∧ f d = some d'
  | [], l', h => by
    simp only [frzL, Option.some.injEq] at h
    subst h
    exact ⟨rfl, fun i d' h => by simp at h⟩
  | d :: l, l', h => by
    simp only [frzL] at h
    split at h
    · rename_i x r hx hr
      cases h
      obtain ⟨h1, h2⟩ := frzL_get hr
      refine ⟨by simp [h1], fun i d' hd => ?_⟩
      cases i with
      | zero => simp at hd; subst hd; exact ⟨d, rfl, hx⟩
      | succ i => exact h2 i d' (by simpa using hd)
    · cases h
theorem frz_ok {ρ' : Ren} {Im' Im'' : Nat → Prop} {H' : Heap} {w' : World} {lo : Nat} (hs : Sim P ρ' Im' H' w') (hρ : ∀ r, r < lo → ρ r = ρ' r) (him : ∀ b, Im' b → Im'' b) (hnew : ∀ r o b, lo ≤ r → H'.get r = some o → ρ' r = some b → Im'' b) :
    ∀ (n : Nat) (d d' : D) (v : Value), frz H' lo n d = some d' → Rel ρ' Im' w' d v → Rel ρ Im'' w' d' v
  | 0, d, d', v, h, _ => by simp [frz] at h
  | n + 1, d, d', v, h, hr => by
    have ih := frz_ok hs hρ him hnew n
    -- cells that lie in a block of its own
    have cells : ∀ {r b : Nat} {l : List D}, lo ≤ r → H'.get r = some (.cells l) → ρ' r = some b → Im'' b ∧ ∃ cs : Array Value, (∀ i, i < l.length → w'.cell? ⟨b, i, none⟩ = some (gv cs i) ∧ (gv cs i).oneCell' = true) ∧ ∀ (i : Nat) (d : D), l[i]? = some d → Rel ρ' Im' w' d (gv cs i) := by
      intro r b l h1 h2 h3
      obtain ⟨b', x, g1, g2, g3, g4⟩ := hs.obj r _ h2
      obtain rfl : b' = b := by rw [h3] at g1; exact (Option.some.inj g1).symm
      refine ⟨hnew r _ b' h1 h2 h3, ?_⟩
      cases g4 with
      | cells hl h1 hrr =>
        rename_i cs e
        refine ⟨cs, fun i hi => ⟨?_, h1 i hi⟩, hrr⟩
        have : i < cs.size := by omega
        simp [World.cell?, g3, gv, this]
    unfold frz at h
    split at h
    · rename_i hu
      cases h
      have hl : Later ρ Im' w' ρ Im'' w' := ⟨fun _ _ h => h, him, fun _ _ => rfl, fun b cs e f h => ⟨cs, f, h, rfl⟩⟩
      exact (hr.restrict hρ hu).mono hl
    cases d with
    | v x => simp only [Option.some.injEq] at h; subst h; rw [hr.v_inv]; exact .v x
    | sl m l cap =>
      simp only [Option.map_eq_some_iff] at h
      obtain ⟨l', h1, rfl⟩ := h
      obtain ⟨h2, h3⟩ := frzL_get h1
      cases hr with
      | sz hc =>
        simp only [frzL, Option.some.injEq] at h1
        subst h1
        exact .sz hc
      | sl cs hn hc hi hrr => exact .sl cs hn hc (fun i hlt => ⟨him _ (hi i (by omega)).1, (hi i (by omega)).2⟩) fun i d' hd => let ⟨d, e1, e2⟩ := h3 i d' hd; ih d d' _ e2 (hrr i d e1)
    | cp l =>
      simp only [Option.map_eq_some_iff] at h
      obtain ⟨l', h1, rfl⟩ := h
      obtain ⟨h2, h3⟩ := frzL_get h1
      cases hr with
      | cp cs hi hrr => exact .cp cs (fun i hlt => ⟨him _ (hi i (by omega)).1, (hi i (by omega)).2⟩) fun i d' hd => let ⟨d, e1, e2⟩ := h3 i d' hd; ih d d' _ e2 (hrr i d e1)
    | rf r off =>
      simp only at h
      cases hr with
      | rf hb =>
        split at h
        · rename_i hlt
          cases h
          exact .rf ((hρ r hlt).trans hb)
        · rename_i hlt
          split at h
          · rename_i l hg
            simp only [Option.map_eq_some_iff] at h
            obtain ⟨l', h1, rfl⟩ := h
            obtain ⟨h2, h3⟩ := frzL_get h1
            obtain ⟨hI, cs, c1, c2⟩ := cells (by omega) hg hb
            refine .cp (fun i => gv cs (off + i)) (fun i hlt' => ?_) fun i d' hd => ?_
            · have : off + i < l.length := by simp at h2; omega
              exact ⟨hI, c1 _ this⟩
            · obtain ⟨d, e1, e2⟩ := h3 i d' hd
              rw [List.getElem?_drop] at e1
              exact ih d d' _ e2 (c2 _ d e1)
          · cases h
    | rs r off m cap size =>
      simp only at h
      cases hr with
      | rs hb hn hc hbk =>
        split at h
        · rename_i hlt
          cases h
          exact .rs ((hρ r hlt).trans hb) hn hc hbk
        · rename_i hlt
          split at h
          · rename_i l hg
            split at h
            · rename_i hle
              simp only [Option.map_eq_some_iff] at h
              obtain ⟨l', h1, rfl⟩ := h
              obtain ⟨h2, h3⟩ := frzL_get h1
              obtain ⟨hI, cs, c1, c2⟩ := cells (by omega) hg hb
              refine .sl (fun i => gv cs (off + i)) hn hc (fun i hlt' => ?_) fun i d' hd => ?_
              · have : off + i < l.length := by simp at h2; omega
                exact ⟨hI, c1 _ this⟩
              · obtain ⟨d, e1, e2⟩ := h3 i d' hd
                rw [List.getElem?_take] at e1
                split at e1
                · rw [List.getElem?_drop] at e1
                  exact ih d d' _ e2 (c2 _ d e1)
                · cases e1
            · cases h
          · cases h
    | mp r =>
      simp only at h
      split at h
      · rename_i hlt
        cases h
        cases hr with
        | mp hb => exact .mp ((hρ r hlt).trans hb)
      · cases h
    | agg l =>
      simp only [Option.map_eq_some_iff] at h
      obtain ⟨l', h1, rfl⟩ := h
      obtain ⟨h2, h3⟩ := frzL_get h1
      cases hr with
      | agg hl h1 hrr => exact .agg (h2.trans hl) h1 fun i d' hd => let ⟨d, e1, e2⟩ := h3 i d' hd; ih d d' _ e2 (hrr i d e1)
    | tup l =>
      simp only [Option.map_eq_some_iff] at h
      obtain ⟨l', h1, rfl⟩ := h
      obtain ⟨h2, h3⟩ := frzL_get h1
      cases hr with
      | tup hl hrr => exact .tup (h2.trans hl) fun i d' hd => let ⟨d, e1, e2⟩ := h3 i d' hd; ih d d' _ e2 (hrr i d e1)
    | fn f x y =>
      simp only at h
      split at h
      · rename_i x' y' hx hy
        cases h
        obtain ⟨x2, x3⟩ := frzL_get hx
        obtain ⟨y2, y3⟩ := frzL_get hy
        cases hr with
        | fn hx hrx hy hry => exact .fn (x2.trans hx) (fun i d' hd => let ⟨d, e1, e2⟩ := x3 i d' hd; ih d d' _ e2 (hrx i d e1)) (y2.trans hy) (fun i d' hd => let ⟨d, e1, e2⟩ := y3 i d' hd; ih d d' _ e2 (hry i d e1))
      · cases h
    | ifc t d =>
      simp only [Option.map_eq_some_iff] at h
      obtain ⟨d2, h1, rfl⟩ := h
      cases hr with
      | ifc hr => exact .ifc (ih d d2 _ h1 hr)
    | yl r =>
      simp only at h
      split at h
      · rename_i hlt
        cases h
        cases hr with
        | yl hb => exact .yl ((hρ r hlt).trans hb)
      · cases h
theorem Post.freeze {ρ' : Ren} {Im' : Nat → Prop} {H' : Heap} {w' : World} (h : Sim P ρ Im H w) (hp : Post P ρ Im ⟨H.next, H.next, H.objs⟩ w ρ' Im' H' w') (hlow : H.next ≤ H'.low) :
    Post P ρ Im H w ρ (fun b => Im' b ∨ ∃ r o, H.next ≤ r ∧ H'.get r = some o ∧ ρ' r = some b) H w' := by
  have hf := Post.forget h hp hlow
  have hl : Later ρ Im' w' ρ (fun b => Im' b ∨ ∃ r o, H.next ≤ r ∧ H'.get r = some o ∧ ρ' r = some b) w' := ⟨fun _ _ h => h, fun _ h => .inl h, fun _ _ => rfl, fun b cs e f h => ⟨cs, f, h, rfl⟩⟩
  refine { later := hf.later.trans hl, calm := hf.calm, sim := ?_, size := hf.size, foot := hf.foot, imfoot := fun b hb hi => ?_, live := hf.live, old := hf.old, next := hf.next, keep := hf.keep, sub := hf.sub }
  · refine ⟨fun r o hg => ?_, hf.sim.inj, hf.sim.fresh, fun b hb => ?_, hf.sim.low, hf.sim.glob.later hl⟩
    · obtain ⟨b, x, a1, a2, a3, a4⟩ := hf.sim.obj r o hg
      refine ⟨b, x, a1, fun hi => ?_, a3, a4.mono hl⟩
      rcases hi with hi | ⟨r2, o2, g1, g2, g3⟩
      · exact a2 hi
      · have hrn : r < H.next := lt_of_fresh h.fresh a1
        have hr' : H'.get r = some o := by rw [hp.keep.2 r (by omega)]; exact hg
        have := hp.sim.inj r r2 o o2 b hr' g2 ((hp.old r hrn).trans a1) g3
        omega
    · rcases hb with hb | ⟨r2, o2, g1, g2, g3⟩
      · exact hf.sim.imlt b hb
      · exact hp.sim.lt g2 g3
  · rcases hi with hi | ⟨r2, o2, g1, g2, g3⟩
    · exact hf.imfoot b hb hi
    · rcases hp.live r2 o2 b g2 g3 with h1 | ⟨r3, o3, h1, h2⟩
      · omega
      · exact .inr ⟨r3, o3, h1, h2⟩
theorem leave_ok {ρ' : Ren} {Im' : Nat → Prop} {H' : Heap} {w' : World} {d : D} {v : Value} (fz : Bool) (h : Sim P ρ Im H w) (hp : Post P ρ Im ⟨H.next, H.next, H.objs⟩ w ρ' Im' H' w') (hr : Rel ρ' Im' w' d v) :
    Ret P ρ Im H w (leaveF fz H d H').1 (leaveF fz H d H').2 (.returned v) w' := by
  have plain : Ret P ρ Im H w (leave H d H').1 (leave H d H').2 (.returned v) w' := by
    unfold leave
    split
    · rename_i hle
      simp only [Bool.and_eq_true, decide_eq_true_eq] at hle
      exact ⟨v, ρ, Im', rfl, Post.forget h hp hle.1, hr.restrict (fun r hr => (hp.old r hr).symm) hle.2⟩
    · exact ⟨v, ρ', Im', rfl, Post.stay h hp, hr⟩
  unfold leaveF
  cases fz with
  | false => exact plain
  | true =>
    simp only
    split
    · rename_i hle
      split
      · rename_i d' hd
        refine ⟨v, ρ, _, rfl, Post.freeze h hp hle, ?_⟩
        exact frz_ok hp.sim (fun r hr => (hp.old r hr).symm) (fun b hb => .inl hb) (fun r o b h1 h2 h3 => .inr ⟨r, o, h1, h2, h3⟩) 64 d d' v hd hr
      · exact plain
    · exact plain
theorem body_ok {call : CallF} (hcall : CallOk P call) (hm : P.follows .mixedOrders = true) {N f : Nat} {fn : Func} {fi : FI} (hf : P.funcs[f]? = some fn) (hc : compFn P fn = some fi) {args : List D} {r : D} {H' : Heap}
    {fz : Bool} (hev : evBody call N fz fi args H = some (r, H')) {vs : Array Value} (hs : Sim P ρ Im H w) (hr : RelL ρ Im w args vs) :
    (callFunc f vs).run P w = .ok (.enter f vs) w ∧ ∀ n, CallsIn Fence.wide n P f vs w (Ret P ρ Im H w r H') := by
  unfold compFn at hc
  split at hc
  · rename_i c rs hb hrs
    split at hc
    · cases hc
    · rename_i hname
      simp only [Option.some.injEq] at hc
      subst hc
      refine ⟨?_, fun n => ?_⟩
      · unfold callFunc
        have hname' : ¬ fn.name = "runtime.NumGoroutine" := fun h => hname (by simp [h])
        simp [Sem.run_bind, program, Sem.run, hf, hname', hb]
      · unfold evBody at hev
        have hs' : Sim P ρ Im ⟨H.next, H.next, H.objs⟩ w := ⟨hs.obj, hs.inj, hs.fresh, hs.imlt, Nat.le_refl _, hs.glob⟩
        have fin : ∀ (ex : Ex) (e : Env) (H1 : Heap) (ds : List D), evC call N none (comp P c) (args ++ List.replicate (fn.ntmps - args.length) uD) ⟨H.next, H.next, H.objs⟩ = some (ex, e, H1) → (∀ id, ex ≠ .exit id) → evRVs e H1 rs = some ds →
            CallsIn Fence.wide n P f vs w (Ret P ρ Im H w (leaveF fz H (resOf ds) H1).1 (leaveF fz H (resOf ds) H1).2) := by
          intro ex e H1 ds hcode hex hds
          refine callsIn_of_wp_marks hf hb trivial ?_
          have h1 := code_ok hcall hm N none c _ _ ex e H1 hcode none n w.heap.size ρ Im w { tmps := vs ++ Array.replicate (fn.ntmps - vs.size) undef, defers := [] } (fun l hl => by cases hl) hs' (rel_pad hr fn.ntmps) ⟨[], rfl, List.Pairwise.nil, fun _ h => by cases h⟩ (Nat.le_refl _)
          refine wpIn_mono (show Code.wpIn Fence.wide n P c _ _ w from h1) ?_
          rintro x a1 w1 ⟨ρ1, Im1, rfl, g1, g2, ⟨ms, m1, m2, m3⟩⟩
          have key : LeavesInM Fence.wide n P fn a1.tmps (Ret P ρ Im H w (leaveF fz H (resOf ds) H1).1 (leaveF fz H (resOf ds) H1).2) a1.defers .returning w1 := by
            rw [m1]
            refine leaves_ok ms w1 ρ1 Im1 H1 g1 m2 m3 fun w2 p2 l2 => ?_
            obtain ⟨v, v1, v2⟩ := run_results p2.sim (g2.mono l2) hrs hds
            exact ⟨v, v1, leave_ok fz hs p2 v2⟩
          cases ex with
          | normal => exact key
          | ret => exact key
          | exit id => exact absurd rfl (hex id)
        split at hev
        · cases hev
        · rename_i ex e H1 hcode hne
          split at hev
          · rename_i ds hds
            simp only [Option.some.injEq] at hev
            rename_i hne'
            have := fin _ _ _ ds hne (fun id h => hcode id h) hds
            rw [hev] at this
            exact this
          · cases hev
        · cases hev
  · cases hc
def OrcOk (P : Program) (f : FuncId) (g : List D → Heap → Option (D × Heap)) : Prop :=
  ∀ args H r H', g args H = some (r, H') → ∀ ρ Im w vs, Sim P ρ Im H w → RelL ρ Im w args vs → Came P ρ Im H w f args vs r H'
structure TabOk (P : Program) (T : Tab) : Prop where
  mixed : P.follows .mixedOrders = true
  fn : ∀ f fi, T.fn f = some fi → ∃ fn, P.funcs[f]? = some fn ∧ compFn P fn = some fi
  orc : ∀ f g, T.orc f = some g → OrcOk P f g
theorem ev_ok {T : Tab} (hT : TabOk P T) : ∀ n, CallOk P (ev T n)
  | 0 => ⟨fun f args H r H' h => by simp [ev] at h, fun q args H r H' h => by simp [ev] at h⟩
  | n + 1 => by
    have ih := ev_ok hT n
    refine ⟨fun f args H r H' h ρ Im w vs hs hr => ?_, fun q args H r H' h ρ Im w vs hs hr b hb => ?_⟩
    · simp only [ev] at h
      split at h
      · rename_i g hg
        exact hT.orc f g hg args H r H' h ρ Im w vs hs hr
      · split at h
        · rename_i fi hfi
          obtain ⟨fn, h1, h2⟩ := hT.fn f fi hfi
          exact .inl (body_ok ih hT.mixed h1 h2 h hs hr)
        · cases h
    · simp only [ev] at h
      exact round_ok ih hT.mixed h hs hr hb
theorem ev_in {T : Tab} (hT : TabOk P T) {n : Nat} {f : FuncId} (ho : T.orc f = none) {args : List D} {H : Heap} {r : D} {H' : Heap} (h : ev T n (.fn f) args H = some (r, H')) {ρ : Ren} {Im : Nat → Prop} {w : World} {vs : Array Value} (hs : Sim P ρ Im H w) (hr : RelL ρ Im w args vs) :
    (callFunc f vs).run P w = .ok (.enter f vs) w ∧ ∀ n, CallsIn Fence.wide n P f vs w (Ret P ρ Im H w r H') := by
  cases n with
  | zero => simp [ev] at h
  | succ n =>
    simp only [ev, ho] at h
    split at h
    · rename_i fi hfi
      obtain ⟨fn, h1, h2⟩ := hT.fn f fi hfi
      exact body_ok (ev_ok hT n) hT.mixed h1 h2 h hs hr
    · cases h
theorem Came.at {ρ0 : Ren} {Im0 : Nat → Prop} {H0 : Heap} {w : World} {f : FuncId} {args args0 : List D} {vs : Array Value} {r : D} {H0' H' : Heap} (c : Came P ρ0 Im0 H0 w f args0 vs r H0')
    (conv : ∀ e w', Ret P ρ0 Im0 H0 w r H0' e w' → Ret P ρ Im H w r H' e w') (hy : ∀ q, D.yl q ∉ args) : Came P ρ Im H w f args vs r H' := by
  rcases c with ⟨c1, c2⟩ | ⟨-, v, w', c1, c2⟩
  · exact .inl ⟨c1, fun m => (c2 m).mono fun e w' h => conv e w' h⟩
  · exact .inr ⟨hy, v, w', c1, conv _ _ c2⟩
end Go.Aug
namespace Go.Aug
open Go.RowKit
variable {P : Program} {ρ : Ren} {Im : Nat → Prop} {H : Heap} {w w' : World}
def H0 : Heap := ⟨0, 0, []⟩
def ρ0 : Ren := fun _ => none
theorem Sim.empty (h : ∀ b, Im b → b < w.heap.size) (hG : GlobOk P Im w) : Sim P ρ0 Im H0 w :=
  ⟨fun r o hr => by simp [Heap.get, H0, look] at hr, fun r r' o o' b hr => by simp [Heap.get, H0, look] at hr, fun r _ => rfl, h, Nat.le_refl _, hG⟩
theorem Post.quiet {Im' : Nat → Prop} (h : Sim P ρ Im H w) (hsz : w.heap.size ≤ w'.heap.size) (hf : ∀ b, b < w.heap.size → w'.heap[b]? = w.heap[b]?) (hi : ∀ b, Im b → Im' b) (hi' : ∀ b, b < w.heap.size → Im' b → Im b) (hlt : ∀ b, Im' b → b < w'.heap.size) (hcalm : Calm w w') :
    Post P ρ Im H w ρ Im' H w' := by
  have hl : Later ρ Im w ρ Im' w' := ⟨fun _ _ h => h, hi, fun b hb => hf b (h.imlt b hb), fun b cs e f hb => ⟨cs, f, by rw [hf b (Array.getElem?_eq_some_iff.1 hb).1]; exact hb, rfl⟩⟩
  have hs : Sim P ρ Im' H w' := ⟨fun r o hr => let ⟨b, x, a1, a2, a3, a4⟩ := h.obj r o hr; ⟨b, x, a1, fun hb => a2 (hi' b (Array.getElem?_eq_some_iff.1 a3).1 hb), by rw [hf b (Array.getElem?_eq_some_iff.1 a3).1]; exact a3, a4.mono hl⟩, h.inj, h.fresh, hlt, h.low, h.glob.later hl⟩
  exact { later := hl, calm := hcalm, sim := hs, size := hsz, foot := fun b hb _ => hf b hb, imfoot := fun b hb h => .inl (hi' b hb h), live := fun r o b hg e => .inr ⟨r, o, hg, e⟩, old := fun _ _ => rfl, next := Nat.le_refl _, keep := ⟨Nat.le_refl _, fun _ _ => rfl⟩, sub := fun r o _ hg => ⟨o, hg⟩ }
def flat : D → Bool
  | .v _ => true
  | .agg l => flatL l
  | .tup l => flatL l
  | .ifc _ d => flat d
  | _ => false
where flatL : List D → Bool
  | [] => true
  | d :: l => flat d && flatL l
theorem flatL_iff (l : List D) : flat.flatL l = true ↔ ∀ (i : Nat) (d : D), l[i]? = some d → flat d = true := by
  induction l with
  | nil => simp [flat.flatL]
  | cons d l ih =>
    simp only [flat.flatL, Bool.and_eq_true, ih]
    constructor
    · rintro ⟨h1, h2⟩ i e he
      cases i with
      | zero => simp at he; exact he ▸ h1
      | succ i => exact h2 i e (by simpa using he)
    · intro h
      exact ⟨h 0 d rfl, fun i e he => h (i + 1) e (by simpa using he)⟩
theorem Rel.flat {ρ' : Ren} {Im' : Nat → Prop} {d : D} {v : Value} (h : Rel ρ Im w d v) (hf : Aug.flat d = true) : Rel ρ' Im' w' d v := by
  induction h with
  | v x => exact .v x
  | agg hl h1 _ ih => simp only [Aug.flat] at hf; exact .agg hl h1 fun i d e => ih i d e ((flatL_iff _).1 hf i d e)
  | tup hl _ ih => simp only [Aug.flat] at hf; exact .tup hl fun i d e => ih i d e ((flatL_iff _).1 hf i d e)
  | ifc _ ih => simp only [Aug.flat] at hf; exact .ifc (ih hf)
  | _ => simp [Aug.flat] at hf
def pureOrc (spec : List D → Option D) (args : List D) (H : Heap) : Option (D × Heap) :=
  if D.under.underAll 0 args then (spec args).map fun d => (d, H)
  else match frzL (frz H 0 64) args with
    | some args' => match spec args' with
      | some d => if flat d then some (d, H) else none
      | none => none
    | none => none
theorem RelL.restrict {l : List D} {cs : Array Value} (h : RelL ρ Im w l cs) {n : Nat} {ρ' : Ren} (hρ : ∀ r, r < n → ρ' r = ρ r) (hu : D.under.underAll n l = true) : RelL ρ' Im w l cs :=
  ⟨h.1, fun i d hd => (h.2 i d hd).restrict hρ ((underAll_iff n l).1 hu i d hd)⟩
theorem yl_under {args : List D} (hu : D.under.underAll 0 args = true) (q : Nat) : D.yl q ∉ args := by
  intro h
  obtain ⟨i, hi, e⟩ := List.getElem_of_mem h
  have := (underAll_iff 0 args).1 hu i (.yl q) (by rw [List.getElem?_eq_getElem hi, e])
  simp [D.under] at this
theorem yl_frz {H : Heap} {n : Nat} {args args' : List D} (ha : frzL (frz H 0 n) args = some args') (q : Nat) : D.yl q ∉ args := by
  intro h
  obtain ⟨i, hi, e⟩ := List.getElem_of_mem h
  obtain ⟨h1, h2⟩ := frzL_get ha
  obtain ⟨d, g1, g2⟩ := h2 i (args'[i]'(by omega)) (List.getElem?_eq_getElem _)
  rw [List.getElem?_eq_getElem hi, e] at g1
  cases g1
  cases n with
  | zero => simp [frz] at g2
  | succ n => simp [frz, D.under] at g2
theorem pure_ok {T : Tab} (hT : TabOk P T) {f : FuncId} {spec : List D → Option D} (h : ∀ args d, spec args = some d → ∃ n, ev T n (.fn f) args H0 = some (d, H0)) : OrcOk P f (pureOrc spec) := by
  intro args H r H' hg ρ Im w vs hs hr
  unfold pureOrc at hg
  split at hg
  · rename_i hu
    simp only [Option.map_eq_some_iff, Prod.mk.injEq] at hg
    obtain ⟨d, hd, rfl, rfl⟩ := hg
    obtain ⟨n, hn⟩ := h args d hd
    refine Came.at ((ev_ok hT n).fn f args H0 d H0 hn ρ0 Im w vs (Sim.empty hs.imlt hs.glob) (hr.restrict (fun r hr => by omega) hu)) ?_ (yl_under hu)
    rintro e w' ⟨v, ρ', Im', rfl, hp, hrel⟩
    have hud : d.under 0 = true := hrel.under hp.sim.fresh
    refine ⟨v, ρ, Im', rfl, Post.quiet hs hp.size (fun b hb => hp.foot b hb fun r o hr => by simp [Heap.get, H0, look] at hr) hp.later.im (fun b hb hi => ?_) hp.sim.imlt hp.calm, hrel.restrict (fun r hr => by omega) hud⟩
    rcases hp.imfoot b hb hi with h1 | ⟨r, o, h1, _⟩
    · exact h1
    · simp [Heap.get, H0, look] at h1
  · split at hg
    · rename_i args' ha
      split at hg
      · rename_i d hd
        split at hg
        · rename_i hfl
          simp only [Option.some.injEq, Prod.mk.injEq] at hg
          obtain ⟨rfl, rfl⟩ := hg
          obtain ⟨n, hn⟩ := h args' d hd
          have him : ∀ b, (Im b ∨ ∃ r o, H.get r = some o ∧ ρ r = some b) → b < w.heap.size := fun b hb => by
            rcases hb with hb | ⟨r, o, h1, h2⟩
            · exact hs.imlt b hb
            · exact hs.lt h1 h2
          have hr' : RelL ρ0 (fun b => Im b ∨ ∃ r o, H.get r = some o ∧ ρ r = some b) w args' vs := by
            obtain ⟨g1, g2⟩ := frzL_get ha
            refine ⟨by rw [g1, hr.1], fun i d' hd' => ?_⟩
            obtain ⟨d, e1, e2⟩ := g2 i d' hd'
            exact frz_ok (ρ := ρ0) (lo := 0) hs (fun r hr => by omega) (fun b hb => .inl hb) (fun r o b _ h1 h2 => .inr ⟨r, o, h1, h2⟩) 64 d d' _ e2 (hr.2 i d e1)
          refine Came.at ((ev_ok hT n).fn f args' H0 d H0 hn ρ0 _ w vs (Sim.empty him (hs.glob.more fun b hb => .inl hb)) hr') ?_ (yl_frz ha)
          rintro e w' ⟨v, ρ', Im', rfl, hp, hrel⟩
          refine ⟨v, ρ, Im, rfl, Post.quiet hs hp.size (fun b hb => hp.foot b hb fun r o hr => by simp [Heap.get, H0, look] at hr) (fun _ h => h) (fun _ _ h => h) (fun b hb => Nat.lt_of_lt_of_le (hs.imlt b hb) hp.size) hp.calm, hrel.flat hfl⟩
        · cases hg
      · cases hg
    · cases hg
theorem law_calls {T : Tab} (hT : TabOk P T) {n : Nat} {f : FuncId} (ho : T.orc f = none) {args : List D} {d : D} {H' : Heap} (hev : ev T n (.fn f) args H0 = some (d, H')) {W : World} {vs : Array Value} (hG : GlobOk P (fun b => b < W.heap.size) W) (hr : RelL ρ0 (fun b => b < W.heap.size) W args vs) (hd : flat d = true) :
    Calls P f vs W fun e w' => (∃ v, e = .returned v ∧ Rel ρ0 (fun _ => False) w' d v) ∧ Below W.heap.size W w' := by
  obtain ⟨_, c2⟩ := ev_in hT ho hev (Sim.empty (fun _ h => h) hG) hr
  refine (callsIn_wide.1 (c2 0)).mono ?_
  rintro e w' ⟨v, ρ', Im', rfl, hp, hrel⟩
  refine ⟨⟨v, rfl, hrel.flat hd⟩, ?_⟩
  exact ⟨hp.calm.os, hp.calm.tape, hp.calm.output, hp.size, fun b hb => hp.foot b hb fun r o hr => by simp [Heap.get, H0, look] at hr⟩
end Go.Aug
