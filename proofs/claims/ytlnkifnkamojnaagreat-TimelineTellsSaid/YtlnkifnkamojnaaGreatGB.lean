/-
What the evaluator's values and memory say of the model's: the relation, and that it abides later worlds. Conditions: none.
-/
import Derived.Test.YtlnkifnkamojnaaGreatGA
import Derived.RangeFuncLeaves
import Derived.OrdersIn
import Derived.RangeFuncIn
import GoSem.ClaimJoined
import Derived.Lib.ItoaNum
import Derived.Laws.StructEq
namespace Go.Aug
abbrev Ren := Nat → Option Nat
def gv (cs : Array Value) (i : Nat) : Value := (cs[i]?).getD undef
inductive Rel (ρ : Ren) (Im : Nat → Prop) (w : World) : D → Value → Prop
  | v (x : Value) : Rel ρ Im w (.v x) x
  | sl {n : Nat} {l : List D} {cap : Option Nat} {b o c : Nat} (cs : Nat → Value) (hn : n ≤ c) (hc : ∀ k, cap = some k → c = k)
      (hi : ∀ i, i < l.length → Im b ∧ w.cell? ⟨b, o + i, none⟩ = some (cs i) ∧ (cs i).oneCell' = true) (hr : ∀ (i : Nat) (d : D), l[i]? = some d → Rel ρ Im w d (cs i)) :
      Rel ρ Im w (.sl n l cap) (.slice (some ⟨b, o, none⟩) n c)
  | sz {cap : Option Nat} {a : Addr} {c : Nat} (hc : ∀ k, cap = some k → c = k) : Rel ρ Im w (.sl 0 [] cap) (.slice (some a) 0 c)
  | cp {l : List D} {b o : Nat} (cs : Nat → Value)
      (hi : ∀ i, i < l.length → Im b ∧ w.cell? ⟨b, o + i, none⟩ = some (cs i) ∧ (cs i).oneCell' = true) (hr : ∀ (i : Nat) (d : D), l[i]? = some d → Rel ρ Im w d (cs i)) :
      Rel ρ Im w (.cp l) (.pointer (some ⟨b, o, none⟩))
  | rf {r off b : Nat} (h : ρ r = some b) : Rel ρ Im w (.rf r off) (.pointer (some ⟨b, off, none⟩))
  | rs {r off n : Nat} {cap : Option Nat} {size b c : Nat} (h : ρ r = some b) (hn : n ≤ c) (hc : ∀ k, cap = some k → c = k)
      (hb : ∃ (cs : Array Value) (e : TypeId) (f : Nat × Nat), w.heap[b]? = some (Obj.cells cs e f) ∧ off + c * size ≤ cs.size) :
      Rel ρ Im w (.rs r off n cap size) (.slice (some ⟨b, off, none⟩) n c)
  | mp {r b : Nat} (h : ρ r = some b) : Rel ρ Im w (.mp r) (.map (some b))
  | agg {l : List D} {cs : Array Value} (hl : l.length = cs.size) (h1 : ∀ i, i < cs.size → (gv cs i).oneCell' = true) (hr : ∀ (i : Nat) (d : D), l[i]? = some d → Rel ρ Im w d (gv cs i)) : Rel ρ Im w (.agg l) (.agg cs)
  | tup {l : List D} {cs : Array Value} (hl : l.length = cs.size) (hr : ∀ (i : Nat) (d : D), l[i]? = some d → Rel ρ Im w d (gv cs i)) : Rel ρ Im w (.tup l) (.tuple cs)
  | fn {f : Fn} {x y : List D} {xs ys : Array Value} (hx : x.length = xs.size) (hrx : ∀ (i : Nat) (d : D), x[i]? = some d → Rel ρ Im w d (gv xs i))
      (hy : y.length = ys.size) (hry : ∀ (i : Nat) (d : D), y[i]? = some d → Rel ρ Im w d (gv ys i)) : Rel ρ Im w (.fn f x y) (.func f xs ys)
  | ifc {t : TypeId} {d : D} {x : Value} (h : Rel ρ Im w d x) : Rel ρ Im w (.ifc t d) (.iface t x)
  | yl {r b : Nat} (h : ρ r = some b) : Rel ρ Im w (.yl r) (.func (.yield b) #[] #[])
def RelL (ρ : Ren) (Im : Nat → Prop) (w : World) (l : List D) (cs : Array Value) : Prop :=
  l.length = cs.size ∧ ∀ (i : Nat) (d : D), l[i]? = some d → Rel ρ Im w d (gv cs i)
structure Later (ρ : Ren) (Im : Nat → Prop) (w : World) (ρ' : Ren) (Im' : Nat → Prop) (w' : World) : Prop where
  ren : ∀ r b, ρ r = some b → ρ' r = some b
  im : ∀ b, Im b → Im' b
  imk : ∀ b, Im b → w'.heap[b]? = w.heap[b]?
  shp : ∀ (b : Nat) (cs : Array Value) (e : TypeId) (f : Nat × Nat), w.heap[b]? = some (Obj.cells cs e f) → ∃ (cs' : Array Value) (f' : Nat × Nat), w'.heap[b]? = some (Obj.cells cs' e f') ∧ cs'.size = cs.size
theorem Later.refl (ρ : Ren) (Im : Nat → Prop) (w : World) : Later ρ Im w ρ Im w :=
  ⟨fun _ _ h => h, fun _ h => h, fun _ _ => rfl, fun _b cs _e f h => ⟨cs, f, h, rfl⟩⟩
theorem Later.trans {ρ Im w ρ' Im' w' ρ'' Im'' w''} (h : Later ρ Im w ρ' Im' w') (h' : Later ρ' Im' w' ρ'' Im'' w'') : Later ρ Im w ρ'' Im'' w'' where
  ren r b e := h'.ren r b (h.ren r b e)
  im b e := h'.im b (h.im b e)
  imk b e := (h'.imk b (h.im b e)).trans (h.imk b e)
  shp b cs e f hb := by
    obtain ⟨cs', f', h1, h2⟩ := h.shp b cs e f hb
    obtain ⟨cs'', f'', h3, h4⟩ := h'.shp b cs' e f' h1
    exact ⟨cs'', f'', h3, h4.trans h2⟩
theorem cell_eq {w w' : World} {b : Nat} (h : w'.heap[b]? = w.heap[b]?) (o : Nat) : w'.cell? ⟨b, o, none⟩ = w.cell? ⟨b, o, none⟩ := by
  simp only [World.cell?, h]
theorem Rel.mono {ρ Im w ρ' Im' w' d x} (h : Rel ρ Im w d x) (hl : Later ρ Im w ρ' Im' w') : Rel ρ' Im' w' d x := by
  induction h with
  | v x => exact .v x
  | sl cs hn hc hi _ ih => exact .sl cs hn hc (fun i h => ⟨hl.im _ (hi i h).1, (cell_eq (hl.imk _ (hi i h).1) _).trans (hi i h).2.1, (hi i h).2.2⟩) ih
  | sz hc => exact .sz hc
  | cp cs hi _ ih => exact .cp cs (fun i h => ⟨hl.im _ (hi i h).1, (cell_eq (hl.imk _ (hi i h).1) _).trans (hi i h).2.1, (hi i h).2.2⟩) ih
  | rf h => exact .rf (hl.ren _ _ h)
  | rs h hn hc hb =>
    obtain ⟨cs, e, f, h1, h2⟩ := hb
    obtain ⟨cs', f', h3, h4⟩ := hl.shp _ _ _ _ h1
    exact .rs (hl.ren _ _ h) hn hc ⟨cs', e, f', h3, by omega⟩
  | mp h => exact .mp (hl.ren _ _ h)
  | agg hl' h1 _ ih => exact .agg hl' h1 ih
  | tup hl' _ ih => exact .tup hl' ih
  | fn hx _ hy _ ihx ihy => exact .fn hx ihx hy ihy
  | ifc _ ih => exact .ifc ih
  | yl h => exact .yl (hl.ren _ _ h)
theorem RelL.mono {ρ Im w ρ' Im' w' l cs} (h : RelL ρ Im w l cs) (hl : Later ρ Im w ρ' Im' w') : RelL ρ' Im' w' l cs :=
  ⟨h.1, fun i d e => (h.2 i d e).mono hl⟩
theorem underAll_iff (n : Nat) (l : List D) : D.under.underAll n l = true ↔ ∀ (i : Nat) (d : D), l[i]? = some d → d.under n = true := by
  induction l with
  | nil => simp [D.under.underAll]
  | cons d l ih =>
    simp only [D.under.underAll, Bool.and_eq_true, ih]
    constructor
    · rintro ⟨h1, h2⟩ i e he
      cases i with
      | zero => simp at he; exact he ▸ h1
      | succ i => exact h2 i e (by simpa using he)
    · intro h
      exact ⟨h 0 d rfl, fun i e he => h (i + 1) e (by simpa using he)⟩
theorem Rel.restrict {ρ Im w d x} (h : Rel ρ Im w d x) {n : Nat} {ρ' : Ren} (hρ : ∀ r, r < n → ρ' r = ρ r) (hu : d.under n = true) : Rel ρ' Im w d x := by
  induction h with
  | v x => exact .v x
  | sl cs hn hc hi _ ih => simp only [D.under] at hu; exact .sl cs hn hc hi fun i d e => ih i d e ((underAll_iff n _).1 hu i d e)
  | sz hc => exact .sz hc
  | cp cs hi _ ih => simp only [D.under] at hu; exact .cp cs hi fun i d e => ih i d e ((underAll_iff n _).1 hu i d e)
  | rf h => simp only [D.under, decide_eq_true_eq] at hu; exact .rf ((hρ _ hu).trans h)
  | rs h hn hc hb => simp only [D.under, decide_eq_true_eq] at hu; exact .rs ((hρ _ hu).trans h) hn hc hb
  | mp h => simp only [D.under, decide_eq_true_eq] at hu; exact .mp ((hρ _ hu).trans h)
  | agg hl' h1 _ ih => simp only [D.under] at hu; exact .agg hl' h1 fun i d e => ih i d e ((underAll_iff n _).1 hu i d e)
  | tup hl' _ ih => simp only [D.under] at hu; exact .tup hl' fun i d e => ih i d e ((underAll_iff n _).1 hu i d e)
  | fn hx _ hy _ ihx ihy =>
    simp only [D.under, Bool.and_eq_true] at hu
    exact .fn hx (fun i d e => ihx i d e ((underAll_iff n _).1 hu.1 i d e)) hy (fun i d e => ihy i d e ((underAll_iff n _).1 hu.2 i d e))
  | ifc _ ih => simp only [D.under] at hu; exact .ifc (ih hu)
  | yl h => simp only [D.under, decide_eq_true_eq] at hu; exact .yl ((hρ _ hu).trans h)
theorem lt_of_fresh {ρ : Ren} {n r b : Nat} (hf : ∀ r, n ≤ r → ρ r = none) (h : ρ r = some b) : r < n := by
  rcases Nat.lt_or_ge r n with h' | h'
  · exact h'
  · rw [hf r h'] at h; cases h
theorem Rel.under {ρ Im w d x} (h : Rel ρ Im w d x) {n : Nat} (hf : ∀ r, n ≤ r → ρ r = none) : d.under n = true := by
  induction h with
  | v x => rfl
  | sl cs hn hc hi _ ih => simp only [D.under]; exact (underAll_iff n _).2 ih
  | sz hc => rfl
  | cp cs hi _ ih => simp only [D.under]; exact (underAll_iff n _).2 ih
  | rf h => simp only [D.under, decide_eq_true_eq]; exact lt_of_fresh hf h
  | rs h hn hc hb => simp only [D.under, decide_eq_true_eq]; exact lt_of_fresh hf h
  | mp h => simp only [D.under, decide_eq_true_eq]; exact lt_of_fresh hf h
  | agg hl' _ _ ih => simp only [D.under]; exact (underAll_iff n _).2 ih
  | tup hl' _ ih => simp only [D.under]; exact (underAll_iff n _).2 ih
  | fn hx _ hy _ ihx ihy => simp only [D.under, Bool.and_eq_true]; exact ⟨(underAll_iff n _).2 ihx, (underAll_iff n _).2 ihy⟩
  | ifc _ ih => simp only [D.under]; exact ih
  | yl h => simp only [D.under, decide_eq_true_eq]; exact lt_of_fresh hf h
def jumpOf : Ex → Option Code
  | .normal => none
  | .exit id => some (.exit id)
  | .ret => some .ret
inductive RelO (P : Program) (ρ : Ren) (Im : Nat → Prop) (w : World) : O → Obj → Prop
  | cells {l : List D} {cs : Array Value} {e : TypeId} (hl : l.length ≤ cs.size) (h1 : ∀ i, i < l.length → (gv cs i).oneCell' = true) (hr : ∀ (i : Nat) (d : D), l[i]? = some d → Rel ρ Im w d (gv cs i)) :
      RelO P ρ Im w (.cells l) (.cells cs e (0, 0))
  | map {es : List (D × D)} {ms : Array MapEntry} (hl : es.length = ms.size)
      (hr : ∀ (i : Nat) (e : D × D), es[i]? = some e → ∃ m, ms[i]? = some m ∧ m.born = i ∧ Rel ρ Im w e.1 m.key ∧ Rel ρ Im w e.2 m.val) :
      RelO P ρ Im w (.map es) (.map ms ms.size)
  | loop {busy over : Bool} {jump : Ex} {e : List D} {params : List Nat} {lp : Loop}
      (hs : lp.state = if busy then .busy else if over then .done else .ready) (hj : lp.pending = jumpOf jump)
      (ht : RelL ρ Im w e lp.tmps) (hp : lp.params.toList = params) :
      RelO P ρ Im w (.loop busy over jump e params (comp P lp.assign) (comp P lp.body)) (.loop lp)
  | iter {m since clk bm : Nat} {seen : List Nat} {sa : Array Nat} (hm : ρ m = some bm) (hs : sa.toList = seen) : RelO P ρ Im w (.iter m since clk seen) (.mapIter (some bm) since sa clk)
theorem RelO.mono {P ρ Im w ρ' Im' w' o x} (h : RelO P ρ Im w o x) (hl : Later ρ Im w ρ' Im' w') : RelO P ρ' Im' w' o x := by
  cases h with
  | cells h1 h2 hr => exact .cells h1 h2 fun i d e => (hr i d e).mono hl
  | map h1 hr => exact .map h1 fun i e he => let ⟨m, a, b, c, d⟩ := hr i e he; ⟨m, a, b, c.mono hl, d.mono hl⟩
  | loop hs hj ht hp => exact .loop hs hj (ht.mono hl) hp
  | iter hm hs => exact .iter (hl.ren _ _ hm) hs
def O.under (n : Nat) : O → Prop
  | .cells l => ∀ (i : Nat) (d : D), l[i]? = some d → d.under n = true
  | .map es => ∀ (i : Nat) (e : D × D), es[i]? = some e → e.1.under n = true ∧ e.2.under n = true
  | .loop _ _ _ l _ _ _ => ∀ (i : Nat) (d : D), l[i]? = some d → d.under n = true
  | .iter m _ _ _ => m < n
theorem RelO.under {P ρ Im w o x} (h : RelO P ρ Im w o x) {n : Nat} (hf : ∀ r, n ≤ r → ρ r = none) : o.under n := by
  cases h with
  | cells h1 h2 hr => exact fun i d e => (hr i d e).under hf
  | map h1 hr => exact fun i e he => let ⟨m, a, b, c, d⟩ := hr i e he; ⟨c.under hf, d.under hf⟩
  | loop hs hj ht hp => exact fun i d e => (ht.2 i d e).under hf
  | iter hm hs => exact lt_of_fresh hf hm
theorem RelO.restrict {P ρ Im w o x} (h : RelO P ρ Im w o x) {n : Nat} {ρ' : Ren} (hρ : ∀ r, r < n → ρ' r = ρ r) (hu : o.under n) : RelO P ρ' Im w o x := by
  cases h with
  | cells h1 h2 hr => exact .cells h1 h2 fun i d e => (hr i d e).restrict hρ (hu i d e)
  | map h1 hr => exact .map h1 fun i e he => let ⟨m, a, b, c, d⟩ := hr i e he; ⟨m, a, b, c.restrict hρ (hu i e he).1, d.restrict hρ (hu i e he).2⟩
  | loop hs hj ht hp => exact .loop hs hj ⟨ht.1, fun i d e => (ht.2 i d e).restrict hρ (hu i d e)⟩ hp
  | iter hm hs => exact .iter (by rw [hρ _ hu, hm]) hs
theorem look_putAt_same (l : List (Nat × O)) (r : Nat) (o : O) {x : O} (h : look l r = some x) : look (putAt l r o) r = some o := by
  induction l with
  | nil => simp [look] at h
  | cons p l ih =>
    obtain ⟨k, y⟩ := p
    by_cases hk : r == k
    · simp [putAt, hk, look]
    · simp only [look, hk, Bool.false_eq_true, if_false] at h
      simp only [putAt, hk, look, Bool.false_eq_true, if_false]
      exact ih h
theorem look_putAt_ne (l : List (Nat × O)) (r q : Nat) (o : O) (h : q ≠ r) : look (putAt l r o) q = look l q := by
  induction l with
  | nil => rfl
  | cons p l ih =>
    obtain ⟨k, y⟩ := p
    by_cases hk : r == k
    · have hq : (q == k) = false := by simp at hk ⊢; omega
      simp [putAt, hk, look, hq]
    · by_cases hq : q == k
      · simp [putAt, hk, look, hq]
      · simp only [putAt, hk, look, hq, Bool.false_eq_true, if_false]; exact ih
theorem look_dropAt (l : List (Nat × O)) (r q : Nat) : look (dropAt l r) q = if q = r then none else look l q := by
  induction l with
  | nil => simp [dropAt, look]
  | cons p l ih =>
    obtain ⟨k, y⟩ := p
    by_cases hk : r == k
    · simp only [dropAt, hk, if_true, ih]
      by_cases hq : q = r
      · simp [hq]
      · have : (q == k) = false := by simp at hk ⊢; omega
        simp [hq, look, this]
    · by_cases hq : q == k
      · have : q ≠ r := by simp at hk hq; omega
        simp [dropAt, hk, look, hq, this]
      · simp only [dropAt, hk, look, hq, Bool.false_eq_true, if_false]; exact ih
def globNeed (P : Program) (name : String) : Bool := name == "internal/bytealg.MaxLen" || name == "internal/strconv.uint64pow10" || name == "errors.errorType"
def globFact (P : Program) (name : String) (o : Option Obj) : Prop := ∃ (cs : Array Value) (e : TypeId) (f : Nat × Nat), o = some (Obj.cells cs e f) ∧
  if name = "internal/bytealg.MaxLen" then ∃ m : Int, cs[0]? = some (.int .i64 m)
  else if name = "internal/strconv.uint64pow10" then cs = (Lib.pow10Tab.map fun z => Value.int .u64 z).toArray
  else ∃ rt ty, (P.cutTypes.find? (·.1 == "internal/reflectlite.rtype")).map (·.2) = some rt ∧ ty < P.types.size ∧ P.rowNamed ty [101, 114, 114, 111, 114] = true ∧ cs[0]? = some (.iface rt (.agg #[typeHandle P ty]))
def GlobOk (P : Program) (Im : Nat → Prop) (w : World) : Prop := ∀ g gl, P.globals[g]? = some gl → globNeed P gl.name = true → Im g ∧ globFact P gl.name w.heap[g]?
theorem GlobOk.later {P : Program} {ρ : Ren} {Im : Nat → Prop} {w : World} {ρ' : Ren} {Im' : Nat → Prop} {w' : World} (h : GlobOk P Im w) (hl : Later ρ Im w ρ' Im' w') : GlobOk P Im' w' :=
  fun g gl hg hn => let ⟨a, b⟩ := h g gl hg hn; ⟨hl.im g a, by rw [hl.imk g a]; exact b⟩
theorem GlobOk.more {P : Program} {Im Im' : Nat → Prop} {w : World} (h : GlobOk P Im w) (hi : ∀ b, Im b → Im' b) : GlobOk P Im' w :=
  fun g gl hg hn => let ⟨a, b⟩ := h g gl hg hn; ⟨hi g a, b⟩
theorem GlobOk.none {P : Program} {Im : Nat → Prop} {w : World} (h : (P.globals.toList.any fun g => globNeed P g.name) = false) : GlobOk P Im w := by
  intro g gl hg hn
  have hm : gl ∈ P.globals.toList := by
    rw [← Array.getElem?_toList] at hg
    exact List.mem_of_getElem? hg
  have := List.any_eq_false.1 h gl hm
  exact absurd hn this
structure Sim (P : Program) (ρ : Ren) (Im : Nat → Prop) (H : Heap) (w : World) : Prop where
  obj : ∀ r o, H.get r = some o → ∃ b x, ρ r = some b ∧ ¬ Im b ∧ w.heap[b]? = some x ∧ RelO P ρ Im w o x
  inj : ∀ r r' o o' b, H.get r = some o → H.get r' = some o' → ρ r = some b → ρ r' = some b → r = r'
  fresh : ∀ r, H.next ≤ r → ρ r = none
  imlt : ∀ b, Im b → b < w.heap.size
  low : H.low ≤ H.next
  glob : GlobOk P Im w
structure Calm (w w' : World) : Prop where
  os : w'.os = w.os
  tape : w'.tape = w.tape
  output : w'.output = w.output
theorem Calm.refl (w : World) : Calm w w := ⟨rfl, rfl, rfl⟩
theorem Calm.trans {a b c : World} (h : Calm a b) (k : Calm b c) : Calm a c := ⟨k.os.trans h.os, k.tape.trans h.tape, k.output.trans h.output⟩
structure Post (P : Program) (ρ : Ren) (Im : Nat → Prop) (H : Heap) (w : World) (ρ' : Ren) (Im' : Nat → Prop) (H' : Heap) (w' : World) : Prop where
  later : Later ρ Im w ρ' Im' w'
  calm : Calm w w'
  sim : Sim P ρ' Im' H' w'
  size : w.heap.size ≤ w'.heap.size
  foot : ∀ b, b < w.heap.size → (∀ r o, H.get r = some o → ρ r ≠ some b) → w'.heap[b]? = w.heap[b]?
  imfoot : ∀ b, b < w.heap.size → Im' b → Im b ∨ ∃ r o, H.get r = some o ∧ ρ r = some b
  live : ∀ r o b, H'.get r = some o → ρ' r = some b → w.heap.size ≤ b ∨ ∃ r' o', H.get r' = some o' ∧ ρ r' = some b
  old : ∀ r, r < H.next → ρ' r = ρ r
  next : H.next ≤ H'.next
  keep : H'.low ≤ H.low ∧ ∀ r, r < H'.low → H'.get r = H.get r
  sub : ∀ r o, r < H.next → H'.get r = some o → ∃ o', H.get r = some o'
theorem Post.refl {P ρ Im H w} (h : Sim P ρ Im H w) : Post P ρ Im H w ρ Im H w where
  later := .refl ρ Im w
  calm := .refl w
  sim := h
  size := Nat.le_refl _
  foot _ _ _ := rfl
  imfoot _ _ h := .inl h
  live r o _b h e := .inr ⟨r, o, h, e⟩
  old _ _ := rfl
  next := Nat.le_refl _
  keep := ⟨Nat.le_refl _, fun _ _ => rfl⟩
  sub _r o _ h := ⟨o, h⟩
theorem Sim.lt {P ρ Im H w} (h : Sim P ρ Im H w) {r o b} (hg : H.get r = some o) (hb : ρ r = some b) : b < w.heap.size := by
  obtain ⟨b', x, h1, _, h3, _⟩ := h.obj r o hg
  obtain rfl : b' = b := by rw [hb] at h1; exact (Option.some.inj h1).symm
  exact (Array.getElem?_eq_some_iff.1 h3).1
theorem Post.trans {P ρ Im H w ρ' Im' H' w' ρ'' Im'' H'' w''} (h : Post P ρ Im H w ρ' Im' H' w') (h' : Post P ρ' Im' H' w' ρ'' Im'' H'' w'') :
    Post P ρ Im H w ρ'' Im'' H'' w'' where
  later := h.later.trans h'.later
  calm := h.calm.trans h'.calm
  sim := h'.sim
  size := Nat.le_trans h.size h'.size
  foot b hb hn := by
    rw [h'.foot b (Nat.lt_of_lt_of_le hb h.size) fun r o hg e => ?_, h.foot b hb hn]
    rcases h.live r o b hg e with h1 | ⟨r', o', h1, h2⟩
    · omega
    · exact hn r' o' h1 h2
  imfoot b hb hi := by
    rcases h'.imfoot b (Nat.lt_of_lt_of_le hb h.size) hi with h1 | ⟨r, o, h1, h2⟩
    · exact h.imfoot b hb h1
    · rcases h.live r o b h1 h2 with h3 | h3
      · omega
      · exact .inr h3
  live r o b hg e := by
    rcases h'.live r o b hg e with h1 | ⟨r', o', h1, h2⟩
    · exact .inl (Nat.le_trans h.size h1)
    · exact h.live r' o' b h1 h2
  old r hr := (h'.old r (Nat.lt_of_lt_of_le hr h.next)).trans (h.old r hr)
  next := Nat.le_trans h.next h'.next
  keep := ⟨Nat.le_trans h'.keep.1 h.keep.1, fun r hr => (h'.keep.2 r hr).trans (h.keep.2 r (Nat.lt_of_lt_of_le hr h'.keep.1))⟩
  sub r o hr hg := let ⟨o', h1⟩ := h'.sub r o (Nat.lt_of_lt_of_le hr h.next) hg; h.sub r o' hr h1
end Go.Aug
namespace Go.Aug
variable {P : Program} {ρ : Ren} {Im : Nat → Prop} {H : Heap} {w : World}
def renAdd (ρ : Ren) (r b : Nat) : Ren := fun q => if q = r then some b else ρ q
theorem Heap.get_add (H : Heap) (o : O) (r : Nat) : (H.add o).get r = if r = H.next then some o else H.get r := by
  by_cases h : r = H.next
  · simp [Heap.get, Heap.add, look, h]
  · simp [Heap.get, Heap.add, look, h]
theorem Heap.get_set (H : Heap) (r q : Nat) (o : O) {x : O} (hx : H.get r = some x) : (H.set r o).get q = if q = r then some o else H.get q := by
  by_cases h : q = r
  · subst h; simp [Heap.get, Heap.set, look_putAt_same H.objs q o hx]
  · simp [Heap.get, Heap.set, look_putAt_ne H.objs r q o h, h]
theorem Heap.get_del (H : Heap) (r q : Nat) : (H.del r).get q = if q = r then none else H.get q := look_dropAt H.objs r q
theorem Post.of_heap (h : Sim P ρ Im H w) {w' : World} (hw : w'.heap = w.heap) (hcalm : Calm w w') : Post P ρ Im H w ρ Im H w' := by
  have hl : Later ρ Im w ρ Im w' := ⟨fun _ _ h => h, fun _ h => h, fun _ _ => by rw [hw], fun b cs e f hb => ⟨cs, f, by rw [hw]; exact hb, rfl⟩⟩
  exact {
    later := hl
    calm := hcalm
    sim := ⟨fun r o hg => let ⟨b, x, a1, a2, a3, a4⟩ := h.obj r o hg; ⟨b, x, a1, a2, by rw [hw]; exact a3, a4.mono hl⟩, h.inj, h.fresh, fun b hb => by rw [hw]; exact h.imlt b hb, h.low, h.glob.later hl⟩
    size := by rw [hw]; exact Nat.le_refl _
    foot := fun _ _ _ => by rw [hw]
    imfoot := fun _ _ h => .inl h
    live := fun r o b hg e => .inr ⟨r, o, hg, e⟩
    old := fun _ _ => rfl
    next := Nat.le_refl _
    keep := ⟨Nat.le_refl _, fun _ _ => rfl⟩
    sub := fun r o _ h => ⟨o, h⟩ }
theorem Post.add (h : Sim P ρ Im H w) {o : O} {x : Obj} (hx : RelO P ρ Im w o x) :
    Post P ρ Im H w (renAdd ρ H.next w.heap.size) Im (H.add o) (w.alloc x) ∧ renAdd ρ H.next w.heap.size H.next = some w.heap.size := by
  have hold : ∀ r b, ρ r = some b → renAdd ρ H.next w.heap.size r = some b := fun r b e => by
    have := lt_of_fresh h.fresh e
    simp [renAdd, Nat.ne_of_lt this, e]
  have hget : ∀ b, b < w.heap.size → (w.alloc x).heap[b]? = w.heap[b]? := fun b hb => by
    show (w.heap.push x)[b]? = w.heap[b]?
    simp [Array.getElem?_push, Nat.ne_of_lt hb]
  have hl : Later ρ Im w (renAdd ρ H.next w.heap.size) Im (w.alloc x) :=
    ⟨hold, fun _ h => h, fun b hb => hget b (h.imlt b hb), fun b cs e f hb => ⟨cs, f, by rw [hget b (Array.getElem?_eq_some_iff.1 hb).1]; exact hb, rfl⟩⟩
  refine ⟨{ later := hl, calm := ⟨rfl, rfl, rfl⟩, sim := ?_, size := by simp, foot := fun b hb _ => hget b hb, imfoot := fun _ _ h => .inl h, live := ?_, old := fun r hr => by simp [renAdd, Nat.ne_of_lt hr], next := Nat.le_succ _, keep := ⟨Nat.le_refl _, fun r hr => ?_⟩, sub := fun r o' hr hg => by rw [Heap.get_add, if_neg (Nat.ne_of_lt hr)] at hg; exact ⟨o', hg⟩ }, by simp [renAdd]⟩
  · refine ⟨fun r o' hg => ?_, fun r r' o1 o2 b h1 h2 e1 e2 => ?_, fun r hr => ?_, fun b hb => ?_, Nat.le_succ_of_le h.low, h.glob.later hl⟩
    · rw [Heap.get_add] at hg
      by_cases hr : r = H.next
      · rw [if_pos hr] at hg
        cases hg
        refine ⟨w.heap.size, x, by simp [renAdd, hr], fun hi => Nat.lt_irrefl _ (h.imlt _ hi), (by show (w.heap.push x)[w.heap.size]? = some x; simp), hx.mono hl⟩
      · rw [if_neg hr] at hg
        obtain ⟨b, y, a1, a2, a3, a4⟩ := h.obj r o' hg
        exact ⟨b, y, hold r b a1, a2, by rw [hget b (Array.getElem?_eq_some_iff.1 a3).1]; exact a3, a4.mono hl⟩
    · rw [Heap.get_add] at h1 h2
      by_cases hr : r = H.next
      · by_cases hr' : r' = H.next
        · omega
        · rw [if_neg hr'] at h2
          simp only [renAdd, hr', if_false] at e2
          simp only [renAdd, hr, if_true, Option.some.injEq] at e1
          have := h.lt h2 e2
          omega
      · rw [if_neg hr] at h1
        simp only [renAdd, hr, if_false] at e1
        by_cases hr' : r' = H.next
        · simp only [renAdd, hr', if_true, Option.some.injEq] at e2
          have := h.lt h1 e1
          omega
        · rw [if_neg hr'] at h2
          simp only [renAdd, hr', if_false] at e2
          exact h.inj r r' o1 o2 b h1 h2 e1 e2
    · simp only [Heap.add] at hr
      have : r ≠ H.next := by omega
      simp only [renAdd, this, if_false]
      exact h.fresh r (by omega)
    · have := h.imlt b hb
      simp
      omega
  · intro r o' b hg e
    rw [Heap.get_add] at hg
    by_cases hr : r = H.next
    · simp only [renAdd, hr, if_true, Option.some.injEq] at e
      exact .inl (by omega)
    · rw [if_neg hr] at hg
      simp only [renAdd, hr, if_false] at e
      exact .inr ⟨r, o', hg, e⟩
  · rw [Heap.get_add, if_neg]
    have := h.low
    simp only [Heap.add] at hr
    omega
theorem Post.write (h : Sim P ρ Im H w) {r b : Nat} {o0 o : O} {x : Obj} {w' : World} (hg : H.get r = some o0) (hb : ρ r = some b)
    (hx : RelO P ρ Im w o x) (h1 : w'.heap[b]? = some x) (h2 : ∀ k, k ≠ b → w'.heap[k]? = w.heap[k]?) (h3 : w'.heap.size = w.heap.size)
    (hs : ∀ (cs : Array Value) (e : TypeId) (f : Nat × Nat), w.heap[b]? = some (Obj.cells cs e f) → ∃ (cs' : Array Value) (f' : Nat × Nat), x = Obj.cells cs' e f' ∧ cs'.size = cs.size)
    {H' : Heap} (hn : H'.next = H.next) (hlow : H'.low ≤ H.low) (hget : ∀ q, H'.get q = if q = r then some o else H.get q) (hk : r < H'.low → o = o0) (hcalm : Calm w w') :
    Post P ρ Im H w ρ Im H' w' := by
  obtain ⟨b0, x0, a1, a2, a3, a4⟩ := h.obj r o0 hg
  obtain rfl : b0 = b := by rw [hb] at a1; exact (Option.some.inj a1).symm
  have hl : Later ρ Im w ρ Im w' := by
    refine ⟨fun _ _ h => h, fun _ h => h, fun k hk => h2 k (fun e => a2 (e ▸ hk)), fun k cs e f hc => ?_⟩
    by_cases hkb : k = b0
    · subst hkb
      obtain ⟨cs', f', e1, e2⟩ := hs cs e f hc
      exact ⟨cs', f', by rw [h1, e1], e2⟩
    · exact ⟨cs, f, by rw [h2 k hkb]; exact hc, rfl⟩
  refine { later := hl, calm := hcalm, sim := ?_, size := by omega, foot := fun k _ hn => h2 k (fun e => hn r o0 hg (e ▸ hb)), imfoot := fun _ _ h => .inl h, live := ?_, old := fun _ _ => rfl, next := by omega, keep := ⟨hlow, fun q hq => ?_⟩, sub := fun q o' _ hq => by rw [hget] at hq; by_cases hqr : q = r; exact ⟨o0, hqr ▸ hg⟩; rw [if_neg hqr] at hq; exact ⟨o', hq⟩ }
  · refine ⟨fun q o' hq => ?_, fun q q' o1 o2 k e1 e2 f1 f2 => ?_, fun q hq => h.fresh q (by omega), fun k hk => by rw [h3]; exact h.imlt k hk, by have := h.low; omega, h.glob.later hl⟩
    · rw [hget] at hq
      by_cases hqr : q = r
      · rw [if_pos hqr] at hq
        cases hq
        exact ⟨b0, x, by rw [hqr]; exact hb, a2, h1, hx.mono hl⟩
      · rw [if_neg hqr] at hq
        obtain ⟨k, y, c1, c2, c3, c4⟩ := h.obj q o' hq
        refine ⟨k, y, c1, c2, ?_, c4.mono hl⟩
        rw [h2 k (fun e => hqr (h.inj q r o' o0 k hq hg c1 (e ▸ hb)))]
        exact c3
    · have g1 : ∃ o', H.get q = some o' := by
        rw [hget] at e1
        by_cases hqr : q = r
        · exact ⟨o0, hqr ▸ hg⟩
        · rw [if_neg hqr] at e1; exact ⟨o1, e1⟩
      have g2 : ∃ o', H.get q' = some o' := by
        rw [hget] at e2
        by_cases hqr : q' = r
        · exact ⟨o0, hqr ▸ hg⟩
        · rw [if_neg hqr] at e2; exact ⟨o2, e2⟩
      obtain ⟨p1, g1⟩ := g1
      obtain ⟨p2, g2⟩ := g2
      exact h.inj q q' p1 p2 k g1 g2 f1 f2
  · intro q o' k hq e
    rw [hget] at hq
    by_cases hqr : q = r
    · exact .inr ⟨r, o0, hg, hqr ▸ e⟩
    · rw [if_neg hqr] at hq
      exact .inr ⟨q, o', hq, e⟩
  · rw [hget]
    by_cases hqr : q = r
    · rw [if_pos hqr, hqr, hg, hk (hqr ▸ hq)]
    · rw [if_neg hqr]
theorem Post.set (h : Sim P ρ Im H w) {r b : Nat} {o0 o : O} {x : Obj} {w' : World} (hg : H.get r = some o0) (hb : ρ r = some b)
    (hx : RelO P ρ Im w o x) (h1 : w'.heap[b]? = some x) (h2 : ∀ k, k ≠ b → w'.heap[k]? = w.heap[k]?) (h3 : w'.heap.size = w.heap.size)
    (hs : ∀ (cs : Array Value) (e : TypeId) (f : Nat × Nat), w.heap[b]? = some (Obj.cells cs e f) → ∃ (cs' : Array Value) (f' : Nat × Nat), x = Obj.cells cs' e f' ∧ cs'.size = cs.size) (hcalm : Calm w w') :
    Post P ρ Im H w ρ Im (H.set r o) w' :=
  Post.write h hg hb hx h1 h2 h3 hs rfl (by simp only [Heap.set]; split <;> omega) (fun q => Heap.get_set H r q o hg) (fun hk => by
    simp only [Heap.set] at hk
    split at hk <;> omega) hcalm
theorem Post.del (h : Sim P ρ Im H w) (r : Nat) : Post P ρ Im H w ρ Im (H.del r) w := by
  have hl := Later.refl ρ Im w
  have hsub : ∀ q o, (H.del r).get q = some o → H.get q = some o := fun q o hq => by
    rw [Heap.get_del] at hq
    split at hq
    · cases hq
    · exact hq
  exact {
    later := hl
    calm := .refl w
    sim := ⟨fun q o hq => h.obj q o (hsub q o hq), fun q q' o1 o2 b h1 h2 e1 e2 => h.inj q q' o1 o2 b (hsub _ _ h1) (hsub _ _ h2) e1 e2, h.fresh, h.imlt, by have := h.low; simp only [Heap.del]; split <;> omega, h.glob⟩
    size := Nat.le_refl _
    foot := fun _ _ _ => rfl
    imfoot := fun _ _ h => .inl h
    live := fun q o b hq e => .inr ⟨q, o, hsub q o hq, e⟩
    old := fun _ _ => rfl
    next := Nat.le_refl _
    keep := ⟨by simp only [Heap.del]; split <;> omega, fun q hq => by
      rw [Heap.get_del, if_neg]
      simp only [Heap.del] at hq
      split at hq <;> omega⟩
    sub := fun q o _ hq => ⟨o, hsub q o hq⟩ }
theorem Post.rename (h : Sim P ρ Im H w) {r b : Nat} {o0 o : O} {x : Obj} {w' : World} (hg : H.get r = some o0) (hb : ρ r = some b)
    (hx : RelO P ρ Im w o x) (h1 : w'.heap[b]? = some x) (h2 : ∀ k, k ≠ b → w'.heap[k]? = w.heap[k]?) (h3 : w'.heap.size = w.heap.size)
    (hs : ∀ (cs : Array Value) (e : TypeId) (f : Nat × Nat), w.heap[b]? = some (Obj.cells cs e f) → ∃ (cs' : Array Value) (f' : Nat × Nat), x = Obj.cells cs' e f' ∧ cs'.size = cs.size) (hcalm : Calm w w') :
    Post P ρ Im H w (renAdd ρ H.next b) Im ((H.del r).add o) w' ∧ renAdd ρ H.next b H.next = some b := by
  obtain ⟨b0, x0, a1, a2, a3, a4⟩ := h.obj r o0 hg
  obtain rfl : b0 = b := by rw [hb] at a1; exact (Option.some.inj a1).symm
  have hrlt : r < H.next := lt_of_fresh h.fresh hb
  have hold : ∀ q k, ρ q = some k → renAdd ρ H.next b0 q = some k := fun q k e => by
    have := lt_of_fresh h.fresh e
    simp [renAdd, Nat.ne_of_lt this, e]
  have hl : Later ρ Im w (renAdd ρ H.next b0) Im w' := by
    refine ⟨hold, fun _ h => h, fun k hk => h2 k (fun e => a2 (e ▸ hk)), fun k cs e f hc => ?_⟩
    by_cases hkb : k = b0
    · subst hkb
      obtain ⟨cs', f', e1, e2⟩ := hs cs e f hc
      exact ⟨cs', f', by rw [h1, e1], e2⟩
    · exact ⟨cs, f, by rw [h2 k hkb]; exact hc, rfl⟩
  have hget : ∀ q, ((H.del r).add o).get q = if q = H.next then some o else if q = r then none else H.get q := fun q => by
    rw [Heap.get_add, Heap.get_del]; rfl
  have hsub : ∀ q o', ((H.del r).add o).get q = some o' → q ≠ H.next → q ≠ r ∧ H.get q = some o' := fun q o' hq hn => by
    rw [hget, if_neg hn] at hq
    split at hq
    · cases hq
    · exact ⟨‹_›, hq⟩
  refine ⟨{ later := hl, calm := hcalm, sim := ?_, size := by omega, foot := fun k _ hn => h2 k (fun e => hn r o0 hg (e ▸ hb)), imfoot := fun _ _ h => .inl h, live := ?_, old := fun q hq => by simp [renAdd, Nat.ne_of_lt hq], next := Nat.le_succ _, keep := ⟨?_, fun q hq => ?_⟩, sub := fun q o' hq hg' => ⟨o', (hsub q o' hg' (Nat.ne_of_lt hq)).2⟩ }, by simp [renAdd]⟩
  · refine ⟨fun q o' hq => ?_, fun q q' o1 o2 k e1 e2 f1 f2 => ?_, fun q hq => ?_, fun k hk => by rw [h3]; exact h.imlt k hk, ?_, h.glob.later hl⟩
    · by_cases hqn : q = H.next
      · rw [hget, if_pos hqn] at hq
        cases hq
        exact ⟨b0, x, by simp [renAdd, hqn], a2, h1, hx.mono hl⟩
      · obtain ⟨hqr, hq⟩ := hsub q o' hq hqn
        obtain ⟨k, y, c1, c2, c3, c4⟩ := h.obj q o' hq
        refine ⟨k, y, hold q k c1, c2, ?_, c4.mono hl⟩
        rw [h2 k (fun e => hqr (h.inj q r o' o0 k hq hg c1 (e ▸ hb)))]
        exact c3
    · by_cases hqn : q = H.next
      · by_cases hqn' : q' = H.next
        · omega
        · obtain ⟨hqr, hq⟩ := hsub q' o2 e2 hqn'
          simp only [renAdd, hqn, if_true, Option.some.injEq] at f1
          simp only [renAdd, hqn', if_false] at f2
          exact absurd (h.inj q' r o2 o0 k hq hg f2 (f1 ▸ hb)) hqr
      · obtain ⟨hqr, hq⟩ := hsub q o1 e1 hqn
        simp only [renAdd, hqn, if_false] at f1
        by_cases hqn' : q' = H.next
        · simp only [renAdd, hqn', if_true, Option.some.injEq] at f2
          exact absurd (h.inj q r o1 o0 k hq hg f1 (f2 ▸ hb)) hqr
        · obtain ⟨hqr', hq'⟩ := hsub q' o2 e2 hqn'
          simp only [renAdd, hqn', if_false] at f2
          exact h.inj q q' o1 o2 k hq hq' f1 f2
    · simp only [Heap.add, Heap.del] at hq
      have : q ≠ H.next := by omega
      simp only [renAdd, this, if_false]
      exact h.fresh q (by omega)
    · have := h.low
      simp only [Heap.add, Heap.del]
      split <;> omega
  · intro q o' k hq e
    by_cases hqn : q = H.next
    · simp only [renAdd, hqn, if_true, Option.some.injEq] at e
      exact .inr ⟨r, o0, hg, e ▸ hb⟩
    · obtain ⟨_, hq⟩ := hsub q o' hq hqn
      simp only [renAdd, hqn, if_false] at e
      exact .inr ⟨q, o', hq, e⟩
  · simp only [Heap.add, Heap.del]; split <;> omega
  · have hlow := h.low
    simp only [Heap.add, Heap.del] at hq
    have h1 : q ≠ r := by split at hq <;> omega
    have h2 : q ≠ H.next := by split at hq <;> omega
    rw [hget, if_neg h2, if_neg h1]
theorem Post.forget {ρ' : Ren} {Im' : Nat → Prop} {H' : Heap} {w' : World} (h : Sim P ρ Im H w) (hp : Post P ρ Im ⟨H.next, H.next, H.objs⟩ w ρ' Im' H' w') (hlow : H.next ≤ H'.low) :
    Post P ρ Im H w ρ Im' H w' := by
  have hg : ∀ r, (⟨H.next, H.next, H.objs⟩ : Heap).get r = H.get r := fun _ => rfl
  have hρ : ∀ r, r < H.next → ρ r = ρ' r := fun r hr => (hp.old r hr).symm
  have hl : Later ρ Im w ρ Im' w' := ⟨fun _ _ h => h, hp.later.im, hp.later.imk, hp.later.shp⟩
  refine { later := hl, calm := hp.calm, sim := ?_, size := hp.size, foot := hp.foot, imfoot := hp.imfoot, live := fun r o b hg e => .inr ⟨r, o, hg, e⟩, old := fun _ _ => rfl, next := Nat.le_refl _, keep := ⟨Nat.le_refl _, fun _ _ => rfl⟩, sub := fun r o _ h => ⟨o, h⟩ }
  refine ⟨fun r o hr => ?_, h.inj, h.fresh, hp.sim.imlt, h.low, hp.sim.glob⟩
  obtain ⟨b, x, a1, a2, a3, a4⟩ := h.obj r o hr
  have hrn : r < H.next := lt_of_fresh h.fresh a1
  have hr' : H'.get r = some o := by rw [hp.keep.2 r (by omega)]; exact hr
  obtain ⟨b', x', c1, c2, c3, c4⟩ := hp.sim.obj r o hr'
  rw [hp.old r hrn] at c1
  exact ⟨b', x', c1, c2, c3, c4.restrict hρ (a4.under h.fresh)⟩
theorem Post.stay {ρ' : Ren} {Im' : Nat → Prop} {H' : Heap} {w' : World} (h : Sim P ρ Im H w) (hp : Post P ρ Im ⟨H.next, H.next, H.objs⟩ w ρ' Im' H' w') :
    Post P ρ Im H w ρ' Im' ⟨H'.next, if H.low < H'.low then H.low else H'.low, H'.objs⟩ w' := by
  have hlow := h.low
  have hn := hp.next
  have hlow' := hp.sim.low
  refine { later := hp.later, calm := hp.calm, sim := ⟨hp.sim.obj, hp.sim.inj, hp.sim.fresh, hp.sim.imlt, ?_, hp.sim.glob⟩, size := hp.size, foot := hp.foot, imfoot := hp.imfoot, live := hp.live, old := hp.old, next := hp.next, keep := ⟨?_, fun r hr => ?_⟩, sub := fun r o hr hg => hp.sub r o hr hg }
  · show (if H.low < H'.low then H.low else H'.low) ≤ H'.next
    split <;> omega
  · show (if H.low < H'.low then H.low else H'.low) ≤ H.low
    split <;> omega
  · refine hp.keep.2 r ?_
    have hr' : r < (if H.low < H'.low then H.low else H'.low) := hr
    split at hr' <;> omega
end Go.Aug
namespace Go.Aug
variable {P : Program} {ρ : Ren} {Im : Nat → Prop} {w : World} {e : Env} {a : Act}
theorem Rel.v_inv {x y : Value} (h : Rel ρ Im w (.v x) y) : y = x := by cases h; rfl
theorem gv_eq {cs : Array Value} {i : Nat} {v : Value} (h : cs[i]? = some v) : gv cs i = v := by simp [gv, h]
theorem gv_lt {cs : Array Value} {i : Nat} (h : i < cs.size) : cs[i]? = some (gv cs i) := by simp [gv, h]
theorem rel_ofV (v : Value) : Rel ρ Im w (ofV v) v := by
  unfold ofV
  split
  · rename_i cs
    split
    · rename_i h1
      refine .agg (by simp) (fun i hi => ?_) (fun i d hd => ?_)
      · have := gv_lt hi
        rw [List.all_eq_true] at h1
        exact h1 _ (by rw [Array.mem_toList_iff]; exact Array.mem_of_getElem? this)
      · rw [List.getElem?_map] at hd
        cases hc : cs.toList[i]? with
        | none => simp [hc] at hd
        | some c =>
          simp only [hc, Option.map_some, Option.some.injEq] at hd
          subst hd
          have : gv cs i = c := gv_eq (by simpa using hc)
          rw [this]
          exact .v c
    · exact .v _
  · exact .v _
theorem rel_get (hr : RelL ρ Im w e a.tmps) (t : Nat) : Rel ρ Im w (Env.get e t) (a.tmps.getD t undef) := by
  unfold Env.get
  cases h : e[t]? with
  | none =>
    have h1 := List.getElem?_eq_none_iff.1 h
    have h2 : a.tmps[t]? = none := by rw [Array.getElem?_eq_none_iff, ← hr.1]; exact h1
    simp only [Option.getD_none, Array.getD_eq_getD_getElem?, h2]
    exact .v undef
  | some d =>
    have := hr.2 t d h
    simpa [gv, Array.getD_eq_getD_getElem?] using this
theorem rel_eval (hr : RelL ρ Im w e a.tmps) (x : Operand) : Rel ρ Im w (evR e (ofR x)) (a.eval x) := by
  cases x with
  | tmp t => exact rel_get hr t
  | const v => exact rel_ofV v
  | global g => exact .v _
  | func f => exact .fn rfl (fun i d h => by simp at h) rfl (fun i d h => by simp at h)
theorem rel_list (hr : RelL ρ Im w e a.tmps) (xs : Array Operand) : RelL ρ Im w ((xs.toList.map ofR).map (evR e)) (xs.map a.eval) := by
  refine ⟨by simp, fun i d h => ?_⟩
  simp only [List.map_map, List.getElem?_map] at h
  cases hx : xs.toList[i]? with
  | none => simp [hx] at h
  | some x =>
    simp only [hx, Option.map_some, Option.some.injEq] at h
    subst h
    have : gv (xs.map a.eval) i = a.eval x := gv_eq (by rw [Array.getElem?_map]; simp [← Array.getElem?_toList, hx])
    rw [this]
    exact rel_eval hr x
theorem cellsOf_rel {d : D} {v : Value} {l : List D} (h : Rel ρ Im w d v) (hc : cellsOf d = some l) :
    l.length = v.cells.size ∧ (∀ i, i < v.cells.size → (gv v.cells i).oneCell' = true) ∧ ∀ (i : Nat) (d : D), l[i]? = some d → Rel ρ Im w d (gv v.cells i) := by
  have one : ∀ {d : D} {v : Value}, Rel ρ Im w d v → v.oneCell' = true → v.cells = #[v] →
      [d].length = v.cells.size ∧ (∀ i, i < v.cells.size → (gv v.cells i).oneCell' = true) ∧ ∀ (i : Nat) (d' : D), [d][i]? = some d' → Rel ρ Im w d' (gv v.cells i) := by
    intro d v h h1 hc
    rw [hc]
    refine ⟨rfl, fun i hi => ?_, fun i d' hd => ?_⟩
    · obtain rfl : i = 0 := by simp at hi; omega
      simpa [gv] using h1
    · cases i with
      | zero => simp at hd; subst hd; simpa [gv] using h
      | succ i => simp at hd
  cases h with
  | agg hl h1 hr => simp only [cellsOf, Option.some.injEq] at hc; subst hc; exact ⟨hl, h1, hr⟩
  | tup hl hr => simp [cellsOf] at hc
  | v _ => cases v <;> simp only [cellsOf, Option.some.injEq, reduceCtorEq] at hc <;> subst hc <;> exact one (.v _) rfl rfl
  | sl cs hn hcp hi hr => simp only [cellsOf, Option.some.injEq] at hc; subst hc; exact one (.sl cs hn hcp hi hr) rfl rfl
  | sz hcp => simp only [cellsOf, Option.some.injEq] at hc; subst hc; exact one (.sz hcp) rfl rfl
  | cp cs hi hr => simp only [cellsOf, Option.some.injEq] at hc; subst hc; exact one (.cp cs hi hr) rfl rfl
  | rf h => simp only [cellsOf, Option.some.injEq] at hc; subst hc; exact one (.rf h) rfl rfl
  | rs h a b c => simp only [cellsOf, Option.some.injEq] at hc; subst hc; exact one (.rs h a b c) rfl rfl
  | mp h => simp only [cellsOf, Option.some.injEq] at hc; subst hc; exact one (.mp h) rfl rfl
  | fn a b c d => simp only [cellsOf, Option.some.injEq] at hc; subst hc; exact one (.fn a b c d) rfl rfl
  | ifc h => simp only [cellsOf, Option.some.injEq] at hc; subst hc; exact one (.ifc h) rfl rfl
  | yl h => simp only [cellsOf, Option.some.injEq] at hc; subst hc; exact one (.yl h) rfl rfl
theorem run_bin {o1 o2 : Operand} {op : BinOp} {t : TypeId} {x y d : D} {vx vy : Value} (hx : Rel ρ Im w x vx) (hy : Rel ρ Im w y vy) (h : evBin op x y = some d) :
    ∃ v, (do eqGuard op t o1 o2 vx vy; binOp op t vx vy : Sem Value).run P w = .ok v w ∧ Rel ρ Im w d v := by
  unfold evBin at h
  split at h
  · rename_i k a k' b
    obtain rfl := hx.v_inv
    obtain rfl := hy.v_inv
    split at h
    · split at h
      · cases h
      · cases h; exact ⟨_, by simp [eqGuard, binOp, Op.shift, *], .v _⟩
    · split at h
      · cases h
      · cases h; exact ⟨_, by simp [eqGuard, binOp, Op.shift, *], .v _⟩
    · rename_i hs1 hs2
      split at h
      · rename_i hk
        subst hk
        simp only [Option.map_eq_some_iff] at h
        obtain ⟨v, hv, rfl⟩ := h
        refine ⟨v, ?_, .v v⟩
        unfold binInt at hv
        cases op <;> simp only [Option.some.injEq, reduceCtorEq] at hv <;> first
          | (subst hv; simp [eqGuard, binOp, Op.intArith, Op.intCmp, Op.intBits]; done)
          | (exact absurd rfl hs1)
          | (exact absurd rfl hs2)
          | (split at hv
             · cases hv
             · cases hv; simp [eqGuard, binOp, Op.intDiv, *])
      · cases h
  · rename_i a b
    obtain rfl := hx.v_inv
    obtain rfl := hy.v_inv
    simp only [Option.map_eq_some_iff] at h
    obtain ⟨v, hv, rfl⟩ := h
    refine ⟨v, ?_, .v v⟩
    unfold binStr at hv
    cases op <;> simp only [Option.some.injEq, reduceCtorEq] at hv <;> first
      | (subst hv; simp [eqGuard, binOp, Op.stringOp]; done)
      | (split at hv
         · cases hv
         · rename_i hle
           cases hv; simp [eqGuard, binOp, Op.stringOp]; simpa using hle)
  · cases h
theorem run_un {op : UnOp} {x d : D} {vx : Value} (hx : Rel ρ Im w x vx) (h : evUn op x = some d) : ∃ v, (Op.unary op vx).run P w = .ok v w ∧ Rel ρ Im w d v := by
  unfold evUn at h
  split at h
  · obtain rfl := hx.v_inv
    split at h
    · cases h; exact ⟨_, by simp [Op.unary, Op.intArith], .v _⟩
    · cases h
  · obtain rfl := hx.v_inv
    split at h
    · cases h; exact ⟨_, by simp [Op.unary], .v _⟩
    · cases h
  · cases h
theorem eqL_append (k1 k2 : List CK) : ∀ (x y : List D) (b : Bool), eqL (k1 ++ k2) x y = some b →
    ∃ b1, eqL k1 x y = some b1 ∧ (b1 = true → eqL k2 (x.drop k1.length) (y.drop k1.length) = some b) ∧ (b1 = false → b = false) := by
  induction k1 with
  | nil => intro x y b h; exact ⟨true, by simp [eqL], fun _ => by simpa using h, fun h => by cases h⟩
  | cons k k1 ih =>
    intro x y b h
    cases x with
    | nil => simp [eqL] at h
    | cons p x =>
      cases y with
      | nil => simp [eqL] at h
      | cons q y =>
        simp only [List.cons_append, eqL] at h ⊢
        cases hk : eqK k p q with
        | none => simp [hk] at h
        | some c =>
          cases c with
          | true =>
            simp only [hk] at h ⊢
            obtain ⟨b1, h1, h2, h3⟩ := ih x y b h
            exact ⟨b1, h1, fun e => by simpa using h2 e, h3⟩
          | false =>
            simp only [hk, Option.some.injEq] at h ⊢
            exact ⟨false, rfl, (fun e => by cases e), (fun _ => h.symm)⟩
def Told (ρ : Ren) (Im : Nat → Prop) (w : World) (n : Nat) (l : List D) (cs : Array Value) : Prop :=
  ∀ i, i < n → ∀ d, l[i]? = some d → i < cs.size ∧ Rel ρ Im w d (gv cs i)
def KindAt (P : Program) (t : TypeId) (k : CK) : Prop :=
  match k with | .bool => P.underlying t = some .bool | .int => ∃ q, P.underlying t = some (.int q) | .text => P.underlying t = some .string | .row _ => False
theorem eqK_run {d : Nat} {t : TypeId} {k : CK} {x y : D} {vx vy : Value} {b : Bool} (hx : Rel ρ Im w x vx) (hy : Rel ρ Im w y vy) (h : eqK k x y = some b)
    (hk : KindAt P t k) :
    (Op.equalIn (d + 1) t vx vy).run P w = .ok b w := by
  cases k with
  | bool =>
    simp only [eqK] at h
    split at h
    · obtain rfl := hx.v_inv; obtain rfl := hy.v_inv; cases h; exact run_equalIn_bool w d t _ _ hk
    · cases h
  | int =>
    simp only [eqK] at h
    obtain ⟨q, hk⟩ : ∃ q, P.underlying t = some (.int q) := hk
    split at h
    · split at h
      · rename_i hkk; subst hkk
        obtain rfl := hx.v_inv; obtain rfl := hy.v_inv; cases h; exact run_equalIn_int w d t _ q _ _ hk
      · cases h
    · cases h
  | text =>
    simp only [eqK] at h
    split at h
    · obtain rfl := hx.v_inv; obtain rfl := hy.v_inv; cases h; exact run_equalIn_string w d t _ _ hk
    · cases h
  | row ks => exact hk.elim
theorem isAgg_scalar {t : TypeId} {td : TypeDesc} (h : P.underlying t = some td) (h1 : ∀ fs, td ≠ .struct fs) (h2 : ∀ n e, td ≠ .array n e) : (isAgg t).run P w = .ok false w := by
  unfold isAgg
  simp only [Sem.run_bind, run_underlying h, Result.andThen_ok]
  cases td <;> first | rfl | (exact absurd rfl (h1 _)) | (exact absurd rfl (h2 _ _))
theorem isAgg_struct {t : TypeId} {fs : Array Field} (h : P.underlying t = some (.struct fs)) : (isAgg t).run P w = .ok true w := by
  unfold isAgg
  simp [run_underlying h]
theorem isAgg_array {t : TypeId} {n : Nat} {e : TypeId} (h : P.underlying t = some (.array n e)) : (isAgg t).run P w = .ok true w := by
  unfold isAgg
  simp [run_underlying h]
theorem sizeAt_run {t : TypeId} {n : Nat} (h : sizeAt P t = some n) : (sizeOf t).run P w = .ok n w := by
  unfold sizeAt at h
  cases hi : P.info? t with
  | none => simp [hi] at h
  | some i => simp only [hi, Option.map_some, Option.some.injEq] at h; simp [sizeOf, typeInfo, hi, h]
def ofCells (P : Program) (t : TypeId) (cs : Array Value) : Value :=
  match P.underlying t with
  | some (.struct _) => .agg cs
  | some (.array _ _) => .agg cs
  | _ => gv cs 0
theorem run_part_struct {t : TypeId} {fs : Array Field} {n off : Nat} {cs : Array Value} (h : P.underlying t = some (.struct fs)) (hn : sizeAt P t = some n) :
    (part t cs off).run P w = .ok (.agg (cs.extract off (off + n))) w := by
  unfold part
  simp [isAgg_struct h, sizeAt_run hn]
theorem run_part_array {t : TypeId} {m : Nat} {e : TypeId} {n off : Nat} {cs : Array Value} (h : P.underlying t = some (.array m e)) (hn : sizeAt P t = some n) :
    (part t cs off).run P w = .ok (.agg (cs.extract off (off + n))) w := by
  unfold part
  simp [isAgg_array h, sizeAt_run hn]
theorem run_part_one {t : TypeId} {td : TypeDesc} {off : Nat} {cs : Array Value} (h : P.underlying t = some td) (h1 : ∀ fs, td ≠ .struct fs) (h2 : ∀ n e, td ≠ .array n e) (hl : off < cs.size) :
    (part t cs off).run P w = .ok (gv cs off) w := by
  unfold part
  simp [isAgg_scalar h h1 h2, gv, hl]
theorem gv_extract {cs : Array Value} {off n i : Nat} (hi : i < n) (hl : off + i < cs.size) : gv (cs.extract off (off + n)) i = gv cs (off + i) ∧ i < (cs.extract off (off + n)).size := by
  have hs : i < (cs.extract off (off + n)).size := by simp; omega
  refine ⟨?_, hs⟩
  unfold gv
  rw [Array.getElem?_extract]
  rw [if_pos (by omega)]
theorem Told.drop {n off m : Nat} {l : List D} {cs : Array Value} (h : Told ρ Im w n l cs) (hm : off + m ≤ n) : Told ρ Im w m (l.drop off) (cs.extract off (off + m)) := by
  intro i hi d hd
  rw [List.getElem?_drop] at hd
  obtain ⟨h1, h2⟩ := h (off + i) (by omega) d hd
  obtain ⟨e1, e2⟩ := gv_extract (n := m) hi h1
  exact ⟨e2, by rw [e1]; exact h2⟩
theorem eqL_some {ks : List CK} {x y : List D} {b : Bool} (h : eqL ks x y = some b) (hk : ks ≠ []) : (∃ p, x[0]? = some p) ∧ ∃ q, y[0]? = some q := by
  cases ks with
  | nil => exact absurd rfl hk
  | cons k ks =>
    cases x with
    | nil => simp [eqL] at h
    | cons p x =>
      cases y with
      | nil => simp [eqL] at h
      | cons q y => exact ⟨⟨p, rfl⟩, q, rfl⟩
theorem kindsOf_run : ∀ (m : Nat) (t : TypeId) (ks : List CK), kindsOf P m t = some ks → ∀ (d : Nat) (lx ly : List D) (xs ys : Array Value) (b : Bool),
    Told ρ Im w ks.length lx xs → Told ρ Im w ks.length ly ys → eqL ks lx ly = some b → (Op.equalIn (d + m) t (ofCells P t xs) (ofCells P t ys)).run P w = .ok b w
  | 0, t, ks, h => by simp [kindsOf] at h
  | m + 1, t, ks, h => by
    intro d lx ly xs ys b hx hy he
    have one : ∀ k, KindAt P t k → ks = [k] →
        (Op.equalIn (d + (m + 1)) t (gv xs 0) (gv ys 0)).run P w = .ok b w := by
      rintro k hk rfl
      obtain ⟨⟨p, hp⟩, q, hq⟩ := eqL_some he (by simp)
      have h1 := (hx 0 (by simp) p hp).2
      have h2 := (hy 0 (by simp) q hq).2
      cases lx with
      | nil => simp at hp
      | cons p' lx =>
        cases ly with
        | nil => simp at hq
        | cons q' ly =>
          simp only [List.getElem?_cons_zero, Option.some.injEq] at hp hq
          subst hp; subst hq
          simp only [eqL] at he
          refine eqK_run (d := d + m) h1 h2 ?_ hk
          cases hkk : eqK k p' q' with
          | none => simp [hkk] at he
          | some c => cases c <;> simp_all
    unfold kindsOf at h
    split at h
    · rename_i hu; cases h; simp only [ofCells, hu]; exact one .bool hu rfl
    · rename_i q hu; cases h; simp only [ofCells, hu]; exact one .int ⟨_, hu⟩ rfl
    · rename_i hu; cases h; simp only [ofCells, hu]; exact one .text hu rfl
    · rename_i fs hu
      split at h
      · cases h
      · rename_i hst
        split at h
        · rename_i ks' hks
          split at h
          · cases h
            simp only [ofCells, hu]
            have hf : P.fieldsOf t = fs := by simp [Program.fieldsOf, hu]
            rw [show d + (m + 1) = (d + m) + 1 from rfl, run_equalIn_struct w (d + m) t xs ys (by rw [hf]; exact hu) (by simpa using hst), hf]
            have key : ∀ (l : List Field) (at_ : Nat) (kl : List CK) (b : Bool), kindsOf.kindsFs (kindsOf P m) at_ l = some kl → at_ + kl.length ≤ ks.length →
                eqL kl (lx.drop at_) (ly.drop at_) = some b → (Op.eqFields (d + m) xs ys l).run P w = .ok b w := by
              intro l
              induction l with
              | nil =>
                intro at_ kl b hkl _ hb
                simp only [kindsOf.kindsFs, Option.some.injEq] at hkl
                subst hkl
                simp only [eqL, Option.some.injEq] at hb
                subst hb
                simp [Op.eqFields]
              | cons f l ih =>
                intro at_ kl b hkl hle hb
                simp only [kindsOf.kindsFs] at hkl
                split at hkl
                · cases hkl
                · rename_i hcond
                  simp only [Bool.or_eq_true, beq_iff_eq, bne_iff_ne, ne_eq, not_or, Decidable.not_not] at hcond
                  obtain ⟨hname, hoff⟩ := hcond
                  split at hkl
                  · rename_i kf hkf
                    split at hkl
                    · rename_i kr hkr
                      cases hkl
                      simp only [List.length_append] at hle
                      obtain ⟨b1, h1, h2, h3⟩ := eqL_append kf kr _ _ b hb
                      -- the field's two parts
                      have hp : ∀ (l0 : List D) (cs : Array Value), Told ρ Im w ks.length l0 cs → (∃ p, (l0.drop at_)[0]? = some p) ∨ kf = [] →
                          (part f.type cs f.offset).run P w = .ok (ofCells P f.type (cs.extract at_ (at_ + kf.length))) w := by
                        intro l0 cs ht hex
                        rw [hoff]
                        unfold kindsOf at hkf
                        cases m with
                        | zero => simp at hkf
                        | succ m =>
                          simp only at hkf
                          have scalar : ∀ td, P.underlying f.type = some td → (∀ fs, td ≠ .struct fs) → (∀ n e, td ≠ .array n e) → kf.length = 1 →
                              (part f.type cs at_).run P w = .ok (ofCells P f.type (cs.extract at_ (at_ + kf.length))) w := by
                            intro td htd hn1 hn2 hlen
                            have hex' : ∃ p, (l0.drop at_)[0]? = some p := by
                              rcases hex with h | h
                              · exact h
                              · simp [h] at hlen
                            obtain ⟨p, hp⟩ := hex'
                            rw [List.getElem?_drop] at hp
                            have hlt := (ht (at_ + 0) (by omega) p hp).1
                            rw [run_part_one htd hn1 hn2 (by simpa using hlt)]
                            obtain ⟨e1, _⟩ := gv_extract (cs := cs) (off := at_) (n := kf.length) (i := 0) (by omega) hlt
                            have : ofCells P f.type (cs.extract at_ (at_ + kf.length)) = gv (cs.extract at_ (at_ + kf.length)) 0 := by
                              unfold ofCells
                              rw [htd]
                              cases td <;> first | rfl | (exact absurd rfl (hn1 _)) | (exact absurd rfl (hn2 _ _))
                            rw [this, e1]
                            rfl
                          split at hkf
                          · rename_i hu'; cases hkf; exact scalar _ hu' (by simp) (by simp) rfl
                          · rename_i hu'; cases hkf; exact scalar _ hu' (by simp) (by simp) rfl
                          · rename_i hu'; cases hkf; exact scalar _ hu' (by simp) (by simp) rfl
                          · rename_i fs' hu'
                            split at hkf
                            · cases hkf
                            · split at hkf
                              · split at hkf
                                · rename_i hsz
                                  cases hkf
                                  rw [run_part_struct hu' (by simpa using hsz)]
                                  simp [ofCells, hu']
                                · cases hkf
                              · cases hkf
                          · cases hkf
                      have hexx : (∃ p, (lx.drop at_)[0]? = some p) ∨ kf = [] := by
                        by_cases hkn : kf = []
                        · exact .inr hkn
                        · exact .inl (eqL_some h1 hkn).1
                      have hexy : (∃ p, (ly.drop at_)[0]? = some p) ∨ kf = [] := by
                        by_cases hkn : kf = []
                        · exact .inr hkn
                        · exact .inl (eqL_some h1 hkn).2
                      have hrec := kindsOf_run m f.type kf hkf d (lx.drop at_) (ly.drop at_) (xs.extract at_ (at_ + kf.length)) (ys.extract at_ (at_ + kf.length)) b1 (hx.drop (by omega)) (hy.drop (by omega)) h1
                      simp only [Op.eqFields, ne_eq, hname, not_false_eq_true, if_true, Sem.run_bind, hp lx xs hx hexx, hp ly ys hy hexy, Result.andThen_ok, hrec]
                      cases b1 with
                      | true =>
                        simp only [Bool.not_true, Bool.false_eq_true, if_false]
                        refine ih (at_ + kf.length) kr b hkr (by omega) ?_
                        have := h2 rfl
                        simpa [List.drop_drop, Nat.add_comm] using this
                      | false =>
                        simp [h3 rfl]
                    · cases hkl
                  · cases hkl
            exact key fs.toList 0 ks b hks (by omega) (by simpa using he)
          · cases h
        · cases h
    · cases h
end Go.Aug
namespace Go.Aug
variable {P : Program} {ρ : Ren} {Im : Nat → Prop} {w : World} {e : Env} {a : Act}
theorem asI_rel {d : D} {v : Value} {n : Int} (h : Rel ρ Im w d v) (hi : asI d = some n) : ∃ k, v = .int k n := by
  unfold asI at hi
  split at hi
  · obtain rfl := h.v_inv; cases hi; exact ⟨_, rfl⟩
  · cases hi
theorem Rel.agg_inv {l : List D} {v : Value} (h : Rel ρ Im w (.agg l) v) : ∃ cs, v = .agg cs ∧ l.length = cs.size ∧ (∀ i, i < cs.size → (gv cs i).oneCell' = true) ∧ ∀ (i : Nat) (d : D), l[i]? = some d → Rel ρ Im w d (gv cs i) := by
  cases h with
  | agg a b c => exact ⟨_, rfl, a, b, c⟩
theorem equal_of {t : TypeId} {x y : Value} {b : Bool} (h : ∀ d, (Op.equalIn (d + 1) t x y).run P w = .ok b w) : (Op.equal t x y).run P w = .ok b w := h 9999
theorem run_eqt {o1 o2 : Operand} {neg : Bool} {t : TypeId} {k : EK} {x y : D} {vx vy : Value} {b : Bool} (hk : eqKind P t = some k) (hx : Rel ρ Im w x vx) (hy : Rel ρ Im w y vy)
    (h : eqAny k x y = some b) :
    (do eqGuard (if neg then .neq else .eql) t o1 o2 vx vy; binOp (if neg then .neq else .eql) t vx vy : Sem Value).run P w = .ok (.bool (b != neg)) w := by
  have fin : ∀ (hg : ∀ op, (eqGuard op t o1 o2 vx vy).run P w = .ok () w) (hs1 : ∀ op, op = BinOp.eql ∨ op = BinOp.neq → binOp op t vx vy = (if op = BinOp.eql then (do pure (.bool (← Op.equal t vx vy))) else (do pure (.bool (!(← Op.equal t vx vy))))))
      (he : (Op.equal t vx vy).run P w = .ok b w), (do eqGuard (if neg then .neq else .eql) t o1 o2 vx vy; binOp (if neg then .neq else .eql) t vx vy : Sem Value).run P w = .ok (.bool (b != neg)) w := by
    intro hg hs1 he
    cases neg
    · simp [hg, hs1 _ (.inl rfl), he]
    · simp [hg, hs1 _ (.inr rfl), he]
  unfold eqKind at hk
  split at hk
  · rename_i hu
    cases hk
    simp only [eqAny] at h
    split at h
    · obtain rfl := hx.v_inv; obtain rfl := hy.v_inv; cases h
      exact fin (fun op => by cases op <;> simp [eqGuard]) (fun op h => by rcases h with rfl | rfl <;> rfl) (run_equal_bool w t _ _ hu)
    · cases h
  · rename_i el hu
    cases hk
    simp only [eqAny] at h
    split at h
    · obtain rfl := hx.v_inv; obtain rfl := hy.v_inv; cases h
      exact fin (fun op => by cases op <;> simp [eqGuard]) (fun op h => by rcases h with rfl | rfl <;> rfl) (equal_of fun d => by simp [Op.equalIn, run_underlying hu])
    · obtain rfl := hx.v_inv; cases hy <;> cases h <;>
      exact fin (fun op => by cases op <;> simp [eqGuard]) (fun op h => by rcases h with rfl | rfl <;> rfl) (equal_of fun d => by simp [Op.equalIn, run_underlying hu])
    · obtain rfl := hy.v_inv; cases hx <;> cases h <;>
      exact fin (fun op => by cases op <;> simp [eqGuard]) (fun op h => by rcases h with rfl | rfl <;> rfl) (equal_of fun d => by simp [Op.equalIn, run_underlying hu])
    · obtain rfl := hx.v_inv; cases hy <;> cases h <;>
      exact fin (fun op => by cases op <;> simp [eqGuard]) (fun op h => by rcases h with rfl | rfl <;> rfl) (equal_of fun d => by simp [Op.equalIn, run_underlying hu])
    · obtain rfl := hy.v_inv; cases hx <;> cases h <;>
      exact fin (fun op => by cases op <;> simp [eqGuard]) (fun op h => by rcases h with rfl | rfl <;> rfl) (equal_of fun d => by simp [Op.equalIn, run_underlying hu])
    · cases h
  · rename_i el hu
    cases hk
    simp only [eqAny] at h
    split at h
    · obtain rfl := hx.v_inv; obtain rfl := hy.v_inv; cases h
      exact fin (fun op => by cases op <;> simp [eqGuard]) (fun op h => by rcases h with rfl | rfl <;> rfl) (equal_of fun d => by simp [Op.equalIn, run_underlying hu])
    · obtain rfl := hx.v_inv; cases hy <;> cases h <;>
      exact fin (fun op => by cases op <;> simp [eqGuard]) (fun op h => by rcases h with rfl | rfl <;> rfl) (equal_of fun d => by simp [Op.equalIn, run_underlying hu])
    · obtain rfl := hy.v_inv; cases hx <;> cases h <;>
      exact fin (fun op => by cases op <;> simp [eqGuard]) (fun op h => by rcases h with rfl | rfl <;> rfl) (equal_of fun d => by simp [Op.equalIn, run_underlying hu])
    · cases h
  · rename_i hu
    cases hk
    simp only [eqAny] at h
    split at h
    · obtain rfl := hx.v_inv; obtain rfl := hy.v_inv; cases h
      exact fin (fun op => by cases op <;> simp [eqGuard]) (fun op h => by rcases h with rfl | rfl <;> rfl) (equal_of fun d => by simp [Op.equalIn, run_underlying hu])
    · obtain rfl := hx.v_inv; cases hy <;> cases h <;>
      exact fin (fun op => by cases op <;> simp [eqGuard]) (fun op h => by rcases h with rfl | rfl <;> rfl) (equal_of fun d => by simp [Op.equalIn, run_underlying hu])
    · obtain rfl := hy.v_inv; cases hx <;> cases h <;>
      exact fin (fun op => by cases op <;> simp [eqGuard]) (fun op h => by rcases h with rfl | rfl <;> rfl) (equal_of fun d => by simp [Op.equalIn, run_underlying hu])
    · cases h
  · rename_i hu
    cases hk
    simp only [eqAny] at h
    split at h
    · obtain rfl := hx.v_inv; cases hy <;> cases h <;>
      exact fin (fun op => by cases op <;> simp [eqGuard]) (fun op h => by rcases h with rfl | rfl <;> rfl) (equal_of fun d => by simp [Op.equalIn, run_underlying hu])
    · obtain rfl := hy.v_inv; cases hx <;> cases h <;>
      exact fin (fun op => by cases op <;> simp [eqGuard]) (fun op h => by rcases h with rfl | rfl <;> rfl) (equal_of fun d => by simp [Op.equalIn, run_underlying hu])
    · cases h
  · rename_i fs hu
    split at hk
    · cases hk
    · rename_i hgt
      simp only [Option.map_eq_some_iff] at hk
      obtain ⟨ks, hks, rfl⟩ := hk
      simp only [eqAny] at h
      split at h
      · rename_i lx ly
        obtain ⟨xs, rfl, hl1, _, hr1⟩ := hx.agg_inv
        obtain ⟨ys, rfl, hl2, _, hr2⟩ := hy.agg_inv
        refine fin (fun op => run_eqGuard_agg w op t o1 o2 xs ys (by simpa using hgt)) (fun op h => by rcases h with rfl | rfl <;> rfl) ?_
        have := kindsOf_run (ρ := ρ) (Im := Im) (w := w) 20 t ks hks 9980 lx ly xs ys b (fun i hi d hd => ⟨by have := (List.getElem?_eq_some_iff.1 hd).1; omega, hr1 i d hd⟩) (fun i hi d hd => ⟨by have := (List.getElem?_eq_some_iff.1 hd).1; omega, hr2 i d hd⟩) h
        simp only [ofCells, hu] at this
        exact this
      · cases h
  · cases hk
theorem Rel.drop_cells {l : List D} {b o : Nat} {cs : Nat → Value} (m : Nat)
    (hi : ∀ i, i < l.length → Im b ∧ w.cell? ⟨b, o + i, none⟩ = some (cs i) ∧ (cs i).oneCell' = true) (hr : ∀ (i : Nat) (d : D), l[i]? = some d → Rel ρ Im w d (cs i)) :
    (∀ i, i < (l.drop m).length → Im b ∧ w.cell? ⟨b, (o + m) + i, none⟩ = some (cs (m + i)) ∧ (cs (m + i)).oneCell' = true) ∧ ∀ (i : Nat) (d : D), (l.drop m)[i]? = some d → Rel ρ Im w d (cs (m + i)) := by
  refine ⟨fun i h => ?_, fun i d h => ?_⟩
  · rw [List.length_drop] at h
    have := hi (m + i) (by omega)
    rwa [show o + m + i = o + (m + i) from by omega]
  · rw [List.getElem?_drop] at h
    exact hr (m + i) d h
theorem Rel.take_cells {l : List D} {b o : Nat} {cs : Nat → Value} (m : Nat)
    (hi : ∀ i, i < l.length → Im b ∧ w.cell? ⟨b, o + i, none⟩ = some (cs i) ∧ (cs i).oneCell' = true) (hr : ∀ (i : Nat) (d : D), l[i]? = some d → Rel ρ Im w d (cs i)) :
    (∀ i, i < (l.take m).length → Im b ∧ w.cell? ⟨b, o + i, none⟩ = some (cs i) ∧ (cs i).oneCell' = true) ∧ ∀ (i : Nat) (d : D), (l.take m)[i]? = some d → Rel ρ Im w d (cs i) := by
  refine ⟨fun i h => hi i (by rw [List.length_take] at h; omega), fun i d h => hr i d ?_⟩
  rw [List.getElem?_take] at h
  split at h
  · exact h
  · cases h
theorem add_none (b o n : Nat) : (⟨b, o, none⟩ : Addr).add n = ⟨b, o + n, none⟩ := by
  unfold Addr.add; split <;> simp_all
theorem run_fadr {off : Nat} {x d : D} {vx : Value} {s f : Nat} {fs : Array Field} {fl : Field} {n : Nat} (hs : P.underlying s = some (.struct fs)) (hf : fs[f]? = some fl) (hn : sizeAt P fl.type = some n) (h0 : n ≠ 0)
    (hoff : fl.offset = off) (hx : Rel ρ Im w x vx) (h : evFadr off x = some d) : ∃ v, (Instr.fieldAt s vx f).run P w = .ok v w ∧ Rel ρ Im w d v := by
  have hsz : ∀ w', (sizeOf fl.type).run P w' = .ok n w' := fun w' => sizeAt_run hn
  unfold evFadr at h
  split at h
  · rename_i r o
    cases hx with
    | rf hr =>
    cases h
    refine ⟨_, ?_, .rf hr⟩
    simp [Instr.fieldAt, run_underlying hs, hf, Instr.sureAddr, fieldPlace, hsz, h0, add_none, hoff]
  · rename_i l
    cases hx with
    | cp cs hi hr =>
    cases h
    obtain ⟨h1, h2⟩ := Rel.drop_cells off hi hr
    refine ⟨_, ?_, .cp _ h1 h2⟩
    simp [Instr.fieldAt, run_underlying hs, hf, Instr.sureAddr, fieldPlace, hsz, h0, add_none, hoff]
  · cases h
theorem kindOf_none {t : TypeId} (h : kindOf P t = some none) : ∃ td, P.underlying t = some td ∧ (∀ fs, td ≠ .struct fs) ∧ ∀ n e, td ≠ .array n e := by
  unfold kindOf at h
  split at h
  · simp at h
  · simp at h
  · rename_i td hn1 hn2 hu
    exact ⟨td, hu, fun fs e => hn1 fs e, fun n e' e => hn2 n e' e⟩
  · cases h
theorem kindOf_some {t : TypeId} {n : Nat} (h : kindOf P t = some (some n)) : sizeAt P t = some n ∧ ((∃ fs, P.underlying t = some (.struct fs)) ∨ ∃ m e, P.underlying t = some (.array m e)) := by
  unfold kindOf at h
  split at h
  · rename_i fs hu
    refine ⟨?_, .inl ⟨fs, hu⟩⟩
    unfold sizeAt
    cases hi : P.info? t with
    | none => simp [hi] at h
    | some i => simpa [hi] using h
  · rename_i m e hu
    refine ⟨?_, .inr ⟨m, e, hu⟩⟩
    unfold sizeAt
    cases hi : P.info? t with
    | none => simp [hi] at h
    | some i => simpa [hi] using h
  · simp at h
  · cases h
theorem run_part {t : TypeId} {k : Option Nat} {off : Nat} {x d : D} {vx : Value} (hk : kindOf P t = some k) (hx : Rel ρ Im w x vx) (h : evFld k off x = some d) :
    ∃ cs v, vx = .agg cs ∧ (part t cs off).run P w = .ok v w ∧ Rel ρ Im w d v := by
  unfold evFld at h
  split at h
  · rename_i l
    obtain ⟨cs, rfl, hl, h1, hr⟩ := hx.agg_inv
    refine ⟨cs, ?_⟩
    cases k with
    | some n =>
      simp only at h
      split at h
      · rename_i hle
        cases h
        obtain ⟨hsz, hu⟩ := kindOf_some hk
        refine ⟨.agg (cs.extract off (off + n)), rfl, ?_, .agg (by simp; omega) (fun i hi => ?_) (fun i d hd => ?_)⟩
        · rcases hu with ⟨fs, hu⟩ | ⟨m, e, hu⟩
          · exact run_part_struct hu hsz
          · exact run_part_array hu hsz
        · simp at hi
          rw [(gv_extract (n := n) (by omega) (by omega)).1]
          exact h1 _ (by omega)
        · rw [List.getElem?_take] at hd
          split at hd
          · rename_i hin
            rw [List.getElem?_drop] at hd
            rw [(gv_extract (n := n) hin (by omega)).1]
            exact hr _ d hd
          · cases hd
      · cases h
    | none =>
      simp only at h
      obtain ⟨td, hu, hn1, hn2⟩ := kindOf_none hk
      have hlt := (List.getElem?_eq_some_iff.1 h).1
      exact ⟨gv cs off, rfl, run_part_one hu hn1 hn2 (by omega), hr off d h⟩
  · cases h
theorem run_iadr {size : Nat} {x i d : D} {vx vi : Value} {t elem : TypeId} (ht : P.underlying t = some (.slice elem)) (hn : sizeAt P elem = some size)
    (hx : Rel ρ Im w x vx) (hi : Rel ρ Im w i vi) (h : evIadr size x i = some d) : ∃ v, (Instr.indexAt t vx vi).run P w = .ok v w ∧ Rel ρ Im w d v := by
  have hsz : ∀ w', (sizeOf elem).run P w' = .ok size w' := fun w' => sizeAt_run hn
  unfold evIadr at h
  split at h
  · cases h
  · rename_i n hasI
    obtain ⟨k, rfl⟩ := asI_rel hi hasI
    split at h
    · rename_i m l cap
      split at h
      · rename_i hb
        cases hx with
        | sz hc => omega
        | sl cs hn' hc hcell hr =>
        cases h
        obtain ⟨h1, h2⟩ := Rel.drop_cells (n.toNat * size) hcell hr
        refine ⟨_, ?_, .cp _ h1 h2⟩
        simp [Instr.indexAt, asIntOf, run_underlying ht, hsz, hb.1, hb.2, add_none]
      · cases h
    · rename_i r off m cap sz
      split at h
      · rename_i hb
        cases hx with
        | rs hr hn' hc hblk =>
        cases h
        refine ⟨_, ?_, .rf hr⟩
        simp [Instr.indexAt, asIntOf, run_underlying ht, hsz, hb.1, hb.2, add_none]
      · cases h
    · cases h
theorem run_iadrA {size len : Nat} {x i d : D} {vx vi : Value} {t elem : TypeId} (ht : P.underlying t = some (.array len elem)) (hn : sizeAt P elem = some size)
    (hx : Rel ρ Im w x vx) (hi : Rel ρ Im w i vi) (h : evIadrA size len x i = some d) : ∃ v, (Instr.indexAt t vx vi).run P w = .ok v w ∧ Rel ρ Im w d v := by
  have hsz : ∀ w', (sizeOf elem).run P w' = .ok size w' := fun w' => sizeAt_run hn
  unfold evIadrA at h
  split at h
  · cases h
  · rename_i n hasI
    obtain ⟨k, rfl⟩ := asI_rel hi hasI
    split at h
    · rename_i hb
      split at h
      · cases hx with
        | cp cs hcell hr =>
        cases h
        obtain ⟨h1, h2⟩ := Rel.drop_cells (n.toNat * size) hcell hr
        refine ⟨_, ?_, .cp _ h1 h2⟩
        simp [Instr.indexAt, asIntOf, run_underlying ht, Instr.sureAddr, hsz, hb.1, hb.2, add_none]
      · cases hx with
        | rf hr =>
        cases h
        refine ⟨_, ?_, .rf hr⟩
        simp [Instr.indexAt, asIntOf, run_underlying ht, Instr.sureAddr, hsz, hb.1, hb.2, add_none]
      · cases h
    · cases h
theorem run_idxS {x i d : D} {vx vi : Value} {t : TypeId} (ht : P.underlying t = some .string)
    (hx : Rel ρ Im w x vx) (hi : Rel ρ Im w i vi) (h : evIdxS x i = some d) : ∃ v, (Instr.index t vx vi).run P w = .ok v w ∧ Rel ρ Im w d v := by
  unfold evIdxS at h
  split at h
  · rename_i s k n
    obtain rfl := hx.v_inv
    obtain rfl := hi.v_inv
    split at h
    · rename_i h0
      split at h
      · rename_i b hb
        cases h
        refine ⟨_, ?_, .v _⟩
        simp [Instr.index, asIntOf, run_underlying ht, h0, hb]
      · cases h
    · cases h
  · cases h
theorem run_idxA {k : Option Nat} {size len : Nat} {x i d : D} {vx vi : Value} {t elem : TypeId} (ht : P.underlying t = some (.array len elem)) (hk : kindOf P elem = some k) (hn : sizeAt P elem = some size)
    (hx : Rel ρ Im w x vx) (hi : Rel ρ Im w i vi) (h : evIdxA k size len x i = some d) : ∃ v, (Instr.index t vx vi).run P w = .ok v w ∧ Rel ρ Im w d v := by
  have hsz : ∀ w', (sizeOf elem).run P w' = .ok size w' := fun w' => sizeAt_run hn
  unfold evIdxA at h
  split at h
  · cases h
  · rename_i n hasI
    obtain ⟨q, rfl⟩ := asI_rel hi hasI
    split at h
    · rename_i hb
      obtain ⟨cs, v, rfl, hp, hr⟩ := run_part hk hx h
      refine ⟨v, ?_, hr⟩
      simp [Instr.index, asIntOf, run_underlying ht, hb.1, hb.2, hsz, hp]
    · cases h
theorem run_bound {o : Option Operand} {other most n : Nat} {code : BoundsCode} (hr : RelL ρ Im w e a.tmps) (h : bound e (o.map ofR) other most = some n) :
    (match o.map a.eval with | some v => Instr.sliceBound v most code | none => pure other).run P w = .ok n w := by
  unfold bound at h
  cases o with
  | none => simp at h; simp [h]
  | some x =>
    simp only [Option.map_some] at h ⊢
    split at h
    · rename_i i hi
      obtain ⟨k, hv⟩ := asI_rel (rel_eval hr x) hi
      split at h
      · rename_i hb
        cases h
        simp [Instr.sliceBound, asIntOf, hv, hb.1, hb.2]
      · cases h
    · cases h
end Go.Aug
namespace Go.Aug
variable {P : Program} {ρ : Ren} {Im : Nat → Prop} {w : World} {e : Env} {a : Act}
theorem bound_le {o : Option Rand} {other most n : Nat} (h : bound e o other most = some n) (ho : other ≤ most) : n ≤ most := by
  unfold bound at h
  split at h
  · cases h; exact ho
  · split at h
    · split at h
      · rename_i hb; cases h; omega
      · cases h
    · cases h
theorem run_bounds {lo hi mx : Option Operand} {n c m h k : Nat} {isS : Bool} (hr : RelL ρ Im w e a.tmps) (hnc : n ≤ c)
    (h1 : bound e (mx.map ofR) n n = some m) (h2 : bound e (hi.map ofR) n m = some h) (h3 : bound e (lo.map ofR) 0 h = some k) (hsome : mx.isSome = true → hi.isSome = true) :
    (Instr.sliceBounds isS n c (lo.map a.eval) (hi.map a.eval) (mx.map a.eval)).run P w = .ok (k, h, if mx.isSome then m else c) w := by
  have hlo : ∀ code, (match lo.map a.eval with | some v => Instr.sliceBound v h code | none => pure 0).run P w = .ok k w := fun code => run_bound hr h3
  have hm : m ≤ n := bound_le h1 (Nat.le_refl _)
  cases mx with
  | none =>
    simp only [Option.map_none, bound, Option.some.injEq] at h1
    subst h1
    cases hi with
    | none =>
      simp only [Option.map_none, bound, Option.some.injEq] at h2
      subst h2
      have hlo' := hlo .sliceB
      cases lo with
      | none => simp only [Option.map_none, Sem.run_pure, Result.ok.injEq, and_true] at hlo'; subst hlo'; simp [Instr.sliceBounds]
      | some x => simp only [Option.map_some] at hlo'; simp [Instr.sliceBounds, hlo']
    | some y =>
      have hhi : (Instr.sliceBound (a.eval y) c (if isS then .sliceAcap else .sliceAlen)).run P w = .ok h w := by
        have h2' := h2
        simp only [Option.map_some, bound] at h2'
        split at h2'
        · rename_i i hi
          obtain ⟨q, hv⟩ := asI_rel (rel_eval hr y) hi
          split at h2'
          · rename_i hb
            cases h2'
            have : i ≤ (c : Int) := by omega
            simp [Instr.sliceBound, asIntOf, hv, hb.1, this]
          · cases h2'
        · cases h2'
      have hlo' := hlo .sliceB
      cases lo with
      | none => simp only [Option.map_none, Sem.run_pure, Result.ok.injEq, and_true] at hlo'; subst hlo'; simp [Instr.sliceBounds, hhi]
      | some x => simp only [Option.map_some] at hlo'; simp [Instr.sliceBounds, hhi, hlo']
  | some z =>
    obtain ⟨y, rfl⟩ : ∃ y, hi = some y := by
      cases hi with
      | none => exact absurd (hsome rfl) (by simp)
      | some y => exact ⟨y, rfl⟩
    have hmx : (Instr.sliceBound (a.eval z) c (if isS then .slice3Acap else .slice3Alen)).run P w = .ok m w := by
      have h1' := h1
      simp only [Option.map_some, bound] at h1'
      split at h1'
      · rename_i i hi
        obtain ⟨q, hv⟩ := asI_rel (rel_eval hr z) hi
        split at h1'
        · rename_i hb
          cases h1'
          have : i ≤ (c : Int) := by omega
          simp [Instr.sliceBound, asIntOf, hv, hb.1, this]
        · cases h1'
      · cases h1'
    have hhi : (Instr.sliceBound (a.eval y) m .slice3B).run P w = .ok h w := by
      have := run_bound (P := P) (code := .slice3B) hr h2
      simpa using this
    have hlo' := hlo .slice3C
    cases lo with
    | none => simp only [Option.map_none, Sem.run_pure, Result.ok.injEq, and_true] at hlo'; subst hlo'; simp [Instr.sliceBounds, hmx, hhi]
    | some x => simp only [Option.map_some] at hlo'; simp [Instr.sliceBounds, hmx, hhi, hlo']
theorem run_slice {size : Nat} {x : Operand} {lo hi mx : Option Operand} {d : D} {t elem : TypeId} (ht : P.underlying t = some (.slice elem)) (hn : sizeAt P elem = some size)
    (hr : RelL ρ Im w e a.tmps) (hsome : mx.isSome = true → hi.isSome = true) (h : evSlice e size (evR e (ofR x)) (lo.map ofR) (hi.map ofR) (mx.map ofR) = some d) :
    ∃ v, (Instr.sliceAt t (a.eval x) (lo.map a.eval) (hi.map a.eval) (mx.map a.eval)).run P w = .ok v w ∧ Rel ρ Im w d v := by
  have hsz : ∀ w', (sizeOf elem).run P w' = .ok size w' := fun w' => sizeAt_run hn
  have hx := rel_eval hr x
  generalize evR e (ofR x) = dx at h hx
  generalize a.eval x = vx at hx
  unfold evSlice at h
  split at h
  · obtain rfl := hx.v_inv
    split at h
    · rename_i m hh k h1 h2 h3
      cases h
      have hm0 := bound_le h1 (Nat.le_refl 0)
      have hh0 := bound_le h2 (Nat.zero_le _)
      have hk0 := bound_le h3 (Nat.zero_le _)
      obtain rfl : m = 0 := by omega
      obtain rfl : hh = 0 := by omega
      obtain rfl : k = 0 := by omega
      have hb := run_bounds (P := P) (isS := true) (c := 0) hr (Nat.le_refl 0) h1 h2 h3 hsome
      refine ⟨_, ?_, .v _⟩
      simp [Instr.sliceAt, Instr.slice, run_underlying ht, hb, hsz]
    · cases h
  · rename_i n l cap
    split at h
    · cases h
    · rename_i m h1
      split at h
      · cases h
      · rename_i hh h2
        split at h
        · cases h
        · rename_i k h3
          cases h
          cases hx with
          | sz hc =>
            rename_i a c
            have hb := run_bounds (P := P) (isS := true) (c := c) hr (Nat.zero_le c) h1 h2 h3 hsome
            have hm0 := bound_le h1 (Nat.le_refl 0)
            have hh0 : hh ≤ m := by
              cases hi2 : hi with
              | none =>
                cases hmx : mx with
                | none => simp only [hi2, hmx, Option.map_none, bound, Option.some.injEq] at h1 h2; omega
                | some z => have := hsome (by rw [hmx]; rfl); rw [hi2] at this; cases this
              | some y => simp only [hi2, Option.map_some] at h2; unfold bound at h2; simp only at h2; split at h2 <;> (try split at h2) <;> simp_all <;> omega
            have hk0 := bound_le h3 (Nat.zero_le _)
            have hsm : (mx.map ofR).isSome = mx.isSome := by cases mx <;> rfl
            obtain rfl : m = 0 := by omega
            obtain rfl : hh = 0 := by omega
            obtain rfl : k = 0 := by omega
            have hcap : ∀ q, (if (mx.map ofR).isSome then some (0 - 0) else cap.map (· - 0)) = some q → (if mx.isSome then 0 else c) - 0 = q := by
              intro q hq
              rw [hsm] at hq
              split at hq
              · rename_i hs
                rw [if_pos hs]
                simpa using hq
              · rename_i hns
                rw [if_neg hns]
                cases hcp : cap with
                | none => simp [hcp] at hq
                | some c0 =>
                  simp only [hcp, Option.map_some, Option.some.injEq] at hq
                  rw [hc c0 hcp]
                  exact hq
            refine ⟨.slice (some a) 0 ((if mx.isSome then 0 else c) - 0), ?_, by simpa using Rel.sz hcap⟩
            by_cases hml : (if mx.isSome then 0 else c) = 0
            · simp [Instr.sliceAt, Instr.slice, run_underlying ht, hb, hsz, hml]
            · simp [Instr.sliceAt, Instr.slice, run_underlying ht, hb, hsz, hml, Addr.add]
          | sl cs hnc hc hcell hrr =>
          rename_i b o c
          have hb := run_bounds (P := P) (isS := true) (c := c) hr hnc h1 h2 h3 hsome
          have hm0 := bound_le h1 (Nat.le_refl n)
          have hsm : (mx.map ofR).isSome = mx.isSome := by cases mx <;> rfl
          have hh0 : hh ≤ m := by
            cases hi2 : hi with
            | none =>
              cases hmx : mx with
              | none => simp only [hi2, hmx, Option.map_none, bound, Option.some.injEq] at h1 h2; omega
              | some z => have := hsome (by rw [hmx]; rfl); rw [hi2] at this; cases this
            | some y => simp only [hi2, Option.map_some] at h2; unfold bound at h2; simp only at h2; split at h2 <;> (try split at h2) <;> simp_all <;> omega
          have hk0 := bound_le h3 (Nat.zero_le _)
          obtain ⟨d1, d2⟩ := Rel.drop_cells (k * size) hcell hrr
          obtain ⟨t1, t2⟩ := Rel.take_cells ((hh - k) * size) d1 d2
          have hle1 : hh - k ≤ (if mx.isSome then m else c) - k := by split <;> omega
          have hcap : ∀ q, (if (mx.map ofR).isSome then some (m - k) else cap.map (· - k)) = some q → (if mx.isSome then m else c) - k = q := by
            intro q hq
            rw [hsm] at hq
            split at hq
            · rename_i hs
              rw [if_pos hs]
              simpa using hq
            · rename_i hns
              rw [if_neg hns]
              cases hcp : cap with
              | none => simp [hcp] at hq
              | some c0 =>
                simp only [hcp, Option.map_some, Option.some.injEq] at hq
                rw [hc c0 hcp]
                exact hq
          by_cases hml : (if mx.isSome then m else c) = k
          · have hz : hh - k = 0 := by omega
            refine ⟨.slice (some ⟨b, o, none⟩) (hh - k) ((if mx.isSome then m else c) - k), ?_, .sl cs hle1 hcap (fun i hi' => ?_) (fun i d hd => ?_)⟩
            · simp [Instr.sliceAt, Instr.slice, run_underlying ht, hb, hsz, hml]
            · simp [hz] at hi'
            · simp [hz] at hd
          · refine ⟨.slice (some ⟨b, o + k * size, none⟩) (hh - k) ((if mx.isSome then m else c) - k), ?_, .sl _ hle1 hcap t1 t2⟩
            simp [Instr.sliceAt, Instr.slice, run_underlying ht, hb, hsz, hml, add_none]
  · rename_i r off n cap sz
    split at h
    · cases h
    · rename_i m h1
      split at h
      · cases h
      · rename_i hh h2
        split at h
        · cases h
        · rename_i k h3
          cases hx with
          | rs hren hnc hc hblk =>
          rename_i b c
          have hb := run_bounds (P := P) (isS := true) (c := c) hr hnc h1 h2 h3 hsome
          have hm0 := bound_le h1 (Nat.le_refl n)
          have hsm : (mx.map ofR).isSome = mx.isSome := by cases mx <;> rfl
          have hh0 : hh ≤ m := by
            cases hi2 : hi with
            | none =>
              cases hmx : mx with
              | none => simp only [hi2, hmx, Option.map_none, bound, Option.some.injEq] at h1 h2; omega
              | some z => have := hsome (by rw [hmx]; rfl); rw [hi2] at this; cases this
            | some y => simp only [hi2, Option.map_some] at h2; unfold bound at h2; simp only at h2; split at h2 <;> (try split at h2) <;> simp_all <;> omega
          have hk0 := bound_le h3 (Nat.zero_le _)
          have hle1 : hh - k ≤ (if mx.isSome then m else c) - k := by split <;> omega
          have hcap : ∀ q, (if (mx.map ofR).isSome then some (m - k) else cap.map (· - k)) = some q → (if mx.isSome then m else c) - k = q := by
            intro q hq
            rw [hsm] at hq
            split at hq
            · rename_i hs
              rw [if_pos hs]
              simpa using hq
            · rename_i hns
              rw [if_neg hns]
              cases hcp : cap with
              | none => simp [hcp] at hq
              | some c0 =>
                simp only [hcp, Option.map_some, Option.some.injEq] at hq
                rw [hc c0 hcp]
                exact hq
          split at h
          · rename_i hcond
            simp only [Bool.and_eq_true, beq_iff_eq, decide_eq_true_eq] at hcond
            obtain ⟨hsz', hkm⟩ := hcond
            subst hsz'
            cases h
            obtain ⟨cs, te, fz, hheap, hroom⟩ := hblk
            have hmc : (if mx.isSome then m else c) ≤ c := by split <;> omega
            have hfit : off + k * sz + ((if mx.isSome then m else c) - k) * sz ≤ cs.size := by
              have hmul : ((if mx.isSome then m else c) - k) * sz + k * sz ≤ c * sz := by
                rw [← Nat.add_mul]
                refine Nat.mul_le_mul_right _ ?_
                have : k ≤ (if mx.isSome then m else c) := by split <;> omega
                omega
              omega
            refine ⟨.slice (some ⟨b, off + k * sz, none⟩) (hh - k) ((if mx.isSome then m else c) - k), ?_, .rs hren hle1 hcap ⟨cs, te, fz, hheap, hfit⟩⟩
            by_cases hml : (if mx.isSome then m else c) = k
            · have hk : k = 0 := by
                rcases hkm with hkm | hkm
                · exfalso; split at hml <;> omega
                · exact hkm
              subst hk
              simp [Instr.sliceAt, Instr.slice, run_underlying ht, hb, hsz, hml]
            · simp [Instr.sliceAt, Instr.slice, run_underlying ht, hb, hsz, hml, add_none]
          · split at h
            · rename_i hhk
              simp only [beq_iff_eq] at hhk
              cases h
              have hz : hh - k = 0 := by omega
              by_cases hml : (if mx.isSome then m else c) = k
              · refine ⟨.slice (some ⟨b, off, none⟩) 0 ((if mx.isSome then m else c) - k), ?_, .sl (fun _ => undef) (Nat.zero_le _) hcap (fun i hi' => by simp at hi') (fun i d hd => by simp at hd)⟩
                simp [Instr.sliceAt, Instr.slice, run_underlying ht, hb, hsz, hml, hz]
              · refine ⟨.slice (some ⟨b, off + k * size, none⟩) 0 ((if mx.isSome then m else c) - k), ?_, .sl (fun _ => undef) (Nat.zero_le _) hcap (fun i hi' => by simp at hi') (fun i d hd => by simp at hd)⟩
                simp [Instr.sliceAt, Instr.slice, run_underlying ht, hb, hsz, hml, add_none, hz]
            · cases h
  · cases h
theorem run_sliceS {x : Operand} {lo hi : Option Operand} {d : D} {t : TypeId} (ht : P.underlying t = some .string)
    (hr : RelL ρ Im w e a.tmps) (h : evSliceS e (evR e (ofR x)) (lo.map ofR) (hi.map ofR) = some d) :
    ∃ v, (Instr.sliceAt t (a.eval x) (lo.map a.eval) (hi.map a.eval) none).run P w = .ok v w ∧ Rel ρ Im w d v := by
  have hx := rel_eval hr x
  generalize evR e (ofR x) = dx at h hx
  generalize a.eval x = vx at hx
  unfold evSliceS at h
  split at h
  · rename_i s
    obtain rfl := hx.v_inv
    split at h
    · cases h
    · rename_i hh h2
      split at h
      · cases h
      · rename_i k h3
        cases h
        have hb := run_bounds (P := P) (isS := false) (n := s.size) (c := s.size) (mx := none) hr (Nat.le_refl _) rfl h2 h3 (by simp)
        refine ⟨_, ?_, .v _⟩
        simp only [Option.map_none] at hb
        simp [Instr.sliceAt, Instr.slice, run_underlying ht, hb]
  · cases h
theorem run_len {text : Bool} {x d : D} {vx : Value} {t ty : TypeId} {at_ : Array TypeId} (h0 : at_[0]? = some t)
    (ht : if text then P.underlying t = some .string else ∃ el, P.underlying t = some (.slice el)) (hx : Rel ρ Im w x vx)
    (h : evLen text x = some d) {vs : Array Value} (hvs : vs[0]? = some vx) :
    ∃ v, (Builtin.len_ at_ ty vs).run P w = .ok v w ∧ Rel ρ Im w d v := by
  unfold evLen at h
  split at h
  · simp only [if_true] at ht
    split at h
    · obtain rfl := hx.v_inv; cases h; exact ⟨_, by simp [Builtin.len_, h0, hvs, run_underlying ht, goInt], .v _⟩
    · cases h
  · simp only [Bool.false_eq_true, if_false] at ht
    obtain ⟨el, ht⟩ := ht
    split at h
    · obtain rfl := hx.v_inv; cases h; exact ⟨_, by simp [Builtin.len_, h0, hvs, run_underlying ht, goInt], .v _⟩
    · cases hx <;> cases h <;> exact ⟨_, by simp [Builtin.len_, h0, hvs, run_underlying ht, goInt], .v _⟩
    · cases hx <;> cases h <;> exact ⟨_, by simp [Builtin.len_, h0, hvs, run_underlying ht, goInt], .v _⟩
    · cases h
theorem run_mm2 {most : Bool} {x y d : D} {vx vy : Value} (hx : Rel ρ Im w x vx) (hy : Rel ρ Im w y vy) (h : mm2 most x y = some d) :
    ∃ v, (if most then Builtin.max2 vx vy else Builtin.min2 vx vy).run P w = .ok v w ∧ Rel ρ Im w d v ∧ ∃ k n, v = .int k n := by
  unfold mm2 at h
  split at h
  · obtain rfl := hx.v_inv
    obtain rfl := hy.v_inv
    split at h
    · rename_i hk
      subst hk
      cases h
      refine ⟨_, ?_, .v _, _, _, rfl⟩
      cases most <;> simp [Builtin.max2, Builtin.min2]
    · cases h
  · cases h
theorem run_mmAll {most : Bool} : ∀ (l : List D) (vs : List Value) (x d : D) (vx : Value), Rel ρ Im w x vx → l.length = vs.length → (∀ (i : Nat) (d : D), l[i]? = some d → ∃ v, vs[i]? = some v ∧ Rel ρ Im w d v) → mmAll most x l = some d →
    ∃ v, (vs.foldlM (if most then Builtin.max2 else Builtin.min2) vx).run P w = .ok v w ∧ Rel ρ Im w d v
  | [], vs, x, d, vx, hx, hl, _, h => by
    obtain rfl : vs = [] := by cases vs <;> simp_all
    simp only [mmAll, Option.some.injEq] at h
    subst h
    exact ⟨vx, by simp, hx⟩
  | y :: l, vs, x, d, vx, hx, hl, hr, h => by
    obtain ⟨v0, hv0, hry⟩ := hr 0 y rfl
    cases vs with
    | nil => simp at hv0
    | cons v1 vs =>
      simp only [List.getElem?_cons_zero, Option.some.injEq] at hv0
      subst hv0
      simp only [mmAll] at h
      split at h
      · rename_i z hz
        obtain ⟨v, hv, hrz, _⟩ := run_mm2 (P := P) hx hry hz
        obtain ⟨v', hv', hr'⟩ := run_mmAll l vs z d v hrz (by simpa using hl) (fun i d hd => by simpa using hr (i + 1) d (by simpa using hd)) h
        refine ⟨v', ?_, hr'⟩
        rw [List.foldlM_cons, Sem.run_bind]
        have : ((if most then Builtin.max2 else Builtin.min2) vx v1).run P w = .ok v w := by rw [← hv]; cases most <;> rfl
        rw [this]
        exact hv'
      · cases h
theorem run_minmax {most : Bool} {l : List D} {vs : Array Value} {d : D} {at_ : Array TypeId} {ty : TypeId} (hr : RelL ρ Im w l vs) (h : evMinmax most l = some d) :
    ∃ v, (if most then Builtin.max_ at_ ty vs else Builtin.min_ at_ ty vs).run P w = .ok v w ∧ Rel ρ Im w d v := by
  unfold evMinmax at h
  split at h
  · cases h
  · rename_i x rest
    have hlist : ∀ (i : Nat) (d : D), (x :: rest)[i]? = some d → ∃ v, vs.toList[i]? = some v ∧ Rel ρ Im w d v := fun i d hd => by
      have hlt : i < vs.size := by have := (List.getElem?_eq_some_iff.1 hd).1; have := hr.1; omega
      exact ⟨gv vs i, by rw [Array.getElem?_toList]; exact gv_lt hlt, hr.2 i d hd⟩
    split at h
    · obtain ⟨v0, hv0, hrx⟩ := hlist 0 _ rfl
      cases hvs : vs.toList with
      | nil => rw [hvs] at hv0; simp at hv0
      | cons u us =>
        rw [hvs] at hv0 hlist
        simp only [List.getElem?_cons_zero, Option.some.injEq] at hv0
        subst hv0
        have hlen : rest.length = us.length := by have := hr.1; rw [← Array.length_toList, hvs] at this; simpa using this
        obtain ⟨v, hv, hrv⟩ := run_mmAll (P := P) (most := most) rest us _ d u hrx hlen (fun i d hd => by simpa using hlist (i + 1) d (by simpa using hd)) h
        refine ⟨v, ?_, hrv⟩
        cases most <;> simpa [Builtin.max_, Builtin.min_, hvs] using hv
    · cases h
theorem setAll_length (l : List D) : ∀ (c : List D) (off : Nat), (setAll l off c).length = l.length := by
  intro c
  induction c generalizing l with
  | nil => intro off; rfl
  | cons d c ih => intro off; simp only [setAll]; rw [ih]; simp
theorem setAll_get (c : List D) : ∀ (l : List D) (off i : Nat), off + c.length ≤ l.length → (setAll l off c)[i]? = if off ≤ i ∧ i < off + c.length then c[i - off]? else l[i]? := by
  induction c with
  | nil => intro l off i _; simp only [setAll, List.length_nil, Nat.add_zero]; rw [if_neg (by omega)]
  | cons d c ih =>
    intro l off i h
    simp only [List.length_cons] at h
    simp only [setAll]
    rw [ih (l.set off d) (off + 1) i (by simp; omega)]
    simp only [List.length_cons]
    by_cases h1 : i = off
    · subst h1
      rw [if_neg (by omega), if_pos (by simp), List.getElem?_set_self (by omega)]
      simp
    · by_cases h2 : off + 1 ≤ i ∧ i < off + 1 + c.length
      · rw [if_pos h2, if_pos (by omega), show i - off = (i - (off + 1)) + 1 from by omega]
        rfl
      · rw [if_neg h2, if_neg (by omega), List.getElem?_set, if_neg (Ne.symm h1)]
theorem fill_len {ps : List (Nat × Nat × Rand)} : ∀ {l l' : List D}, fillD e l ps = some l' → l'.length = l.length := by
  induction ps with
  | nil => intro l l' h; simp only [fillD, Option.some.injEq] at h; rw [h]
  | cons p ps ih =>
    obtain ⟨off, size, x⟩ := p
    intro l l' h
    simp only [fillD] at h
    split at h
    · split at h
      · rw [ih h, setAll_length]
      · cases h
    · cases h
structure Cells (ρ : Ren) (Im : Nat → Prop) (w : World) (l : List D) (cs : Array Value) : Prop where
  len : l.length = cs.size
  one : ∀ i, i < cs.size → (gv cs i).oneCell' = true
  rel : ∀ (i : Nat) (d : D), l[i]? = some d → Rel ρ Im w d (gv cs i)
theorem foldl_setAll (cells : Array Value) (off : Nat) (vs : Array Value) (i : Nat) (h : off + vs.size ≤ cells.size) :
    gv (vs.zipIdx.foldl (fun cs (c, j) => cs.setIfInBounds (off + j) c) cells) i = (if off ≤ i ∧ i < off + vs.size then gv vs (i - off) else gv cells i) ∧
    (vs.zipIdx.foldl (fun cs (c, j) => cs.setIfInBounds (off + j) c) cells).size = cells.size := by
  rw [← Array.foldl_toList, Array.toList_zipIdx]
  have key : ∀ (l : List Value) (k : Nat) (cs : Array Value), off + k + l.length ≤ cs.size →
      (gv ((l.zipIdx k).foldl (fun cs (c, j) => cs.setIfInBounds (off + j) c) cs) i = if off + k ≤ i ∧ i < off + k + l.length then (l[i - (off + k)]?).getD undef else gv cs i) ∧
      ((l.zipIdx k).foldl (fun cs (c, j) => cs.setIfInBounds (off + j) c) cs).size = cs.size := by
    intro l
    induction l with
    | nil => intro k cs _; simp only [List.zipIdx_nil, List.foldl_nil, List.length_nil, Nat.add_zero, and_true]; rw [if_neg (by omega)]
    | cons v l ih =>
      intro k cs hl
      simp only [List.length_cons] at hl
      simp only [List.zipIdx_cons, List.foldl_cons]
      obtain ⟨h1, h2⟩ := ih (k + 1) (cs.setIfInBounds (off + k) v) (by simp; omega)
      refine ⟨?_, by rw [h2]; simp⟩
      rw [h1]
      simp only [List.length_cons]
      by_cases e1 : i = off + k
      · subst e1
        rw [if_neg (by omega), if_pos (by omega)]
        simp only [gv, Nat.sub_self, List.getElem?_cons_zero, Option.getD_some]
        rw [Array.getElem?_setIfInBounds_self_of_lt (by omega)]
        rfl
      · by_cases e2 : off + (k + 1) ≤ i ∧ i < off + (k + 1) + l.length
        · rw [if_pos e2, if_pos (by omega), show i - (off + k) = (i - (off + (k + 1))) + 1 from by omega]
          rfl
        · rw [if_neg e2, if_neg (by omega)]
          simp only [gv]
          rw [Array.getElem?_setIfInBounds_ne (by omega)]
  obtain ⟨h1, h2⟩ := key vs.toList 0 cells (by simpa using h)
  refine ⟨?_, h2⟩
  rw [h1]
  simp [gv]
theorem fill_ok {place : Nat → Option (Nat × Nat)} (hr : RelL ρ Im w e a.tmps) : ∀ (parts : List (Nat × Operand)) (ps : List (Nat × Nat × Rand)) (l l' : List D) (cs : Array Value),
    partsOf parts place = some ps → fillD e l ps = some l' → Cells ρ Im w l cs →
    ∃ cs', Instr.fill place cs (parts.map fun (i, x) => (i, a.eval x)) = some cs' ∧ Cells ρ Im w l' cs'
  | [], ps, l, l', cs, hp, hf, hc => by
    simp only [partsOf, Option.some.injEq] at hp
    subst hp
    simp only [fillD, Option.some.injEq] at hf
    subst hf
    exact ⟨cs, rfl, hc⟩
  | (i, x) :: parts, ps, l, l', cs, hp, hf, hc => by
    simp only [partsOf] at hp
    split at hp
    · rename_i off size rest hpl hrest
      cases hp
      simp only [fillD] at hf
      split at hf
      · rename_i c hcx
        split at hf
        · rename_i hcond
          simp only [Bool.and_eq_true, beq_iff_eq, decide_eq_true_eq] at hcond
          obtain ⟨hcl, hle⟩ := hcond
          obtain ⟨e1, e2, e3⟩ := cellsOf_rel (rel_eval hr x) hcx
          have hlen := hc.len
          have hfold := fun j => foldl_setAll cs off (a.eval x).cells j (by omega)
          have hc' : Cells ρ Im w (setAll l off c) ((a.eval x).cells.zipIdx.foldl (fun cs (c, j) => cs.setIfInBounds (off + j) c) cs) := by
            refine ⟨?_, fun j hj => ?_, fun j d hd => ?_⟩
            · rw [setAll_length, (hfold 0).2]; exact hlen
            · rw [(hfold 0).2] at hj
              rw [(hfold j).1]
              split
              · exact e2 _ (by omega)
              · exact hc.one j hj
            · rw [setAll_get c l off j (by omega)] at hd
              rw [(hfold j).1]
              split at hd
              · rename_i hin
                rw [if_pos (by omega)]
                exact e3 _ d hd
              · rename_i hin
                rw [if_neg (by omega)]
                exact hc.rel j d hd
          obtain ⟨cs', h1, h2⟩ := fill_ok (place := place) hr parts rest _ l' _ hrest hf hc'
          refine ⟨cs', ?_, h2⟩
          simp only [List.map_cons, Instr.fill, hpl]
          rw [if_neg]
          · exact h1
          · simp only [Bool.or_eq_true, ne_eq, decide_eq_true_eq, not_or, Decidable.not_not]
            omega
        · cases hf
      · cases hf
    · cases hp
theorem zeroOf_ok {t : TypeId} {z : List D} (h : zeroOf P t = some z) : ∃ i v, P.info? t = some i ∧ i.zero = some v ∧ Cells ρ Im w z v.cells := by
  unfold zeroOf at h
  split at h
  · rename_i i hi
    split at h
    · rename_i v hv
      split at h
      · rename_i hall
        cases h
        refine ⟨i, v, hi, hv, by simp, fun j hj => ?_, fun j d hd => ?_⟩
        · rw [List.all_eq_true] at hall
          exact hall _ (by rw [Array.mem_toList_iff]; exact Array.mem_of_getElem? (gv_lt hj))
        · rw [List.getElem?_map] at hd
          cases hc : v.cells.toList[j]? with
          | none => simp [hc] at hd
          | some c =>
            simp only [hc, Option.map_some, Option.some.injEq] at hd
            subst hd
            rw [gv_eq (by simpa using hc)]
            exact .v c
      · cases h
    · cases h
  · cases h
end Go.Aug
namespace Go.Aug
variable {P : Program} {ρ : Ren} {Im : Nat → Prop} {H : Heap} {w : World} {e : Env} {a : Act}
theorem map_some_pair {x : Option D} {H H' : Heap} {d : D} (h : (x.map fun d => (d, H)) = some (d, H')) : x = some d ∧ H' = H := by
  cases x with
  | none => simp at h
  | some y => simp only [Option.map_some, Option.some.injEq, Prod.mk.injEq] at h; exact ⟨by rw [h.1], h.2.symm⟩
theorem ret_ok {o : Oper} {H H' : Heap} {d d' : D} {v : Value} (h : some (d', H) = some (d, H')) (hrun : (execOp a.eval o).run P w = .ok (.value v) w) (hrel : Rel ρ Im w d' v) :
    H' = H ∧ ∃ v, (execOp a.eval o).run P w = .ok (.value v) w ∧ Rel ρ Im w d v := by
  simp only [Option.some.injEq, Prod.mk.injEq] at h
  exact ⟨h.2.symm, v, hrun, h.1 ▸ hrel⟩
theorem map_ok {o : Oper} {H H' : Heap} {d : D} {x : Option D} {s : Sem Value} (h : (x.map fun d => (d, H)) = some (d, H')) (hrun : (execOp a.eval o) = (do pure (.value (← s)) : Sem Next))
    (hs : x = some d → ∃ v, s.run P w = .ok v w ∧ Rel ρ Im w d v) : H' = H ∧ ∃ v, (execOp a.eval o).run P w = .ok (.value v) w ∧ Rel ρ Im w d v := by
  obtain ⟨hx, hH⟩ := map_some_pair h
  obtain ⟨v, hv, hr⟩ := hs hx
  exact ⟨hH, v, by rw [hrun]; simp [hv], hr⟩
theorem run_places (w : World) (fs : Array Field) (h : ∀ f ∈ fs.toList, ∃ i, P.info? f.type = some i) :
    (fs.mapM fun f => do pure (f.offset, ← sizeOf f.type) : Sem (Array (Nat × Nat))).run P w = .ok (fs.map fun f => (f.offset, P.cellsOf f.type)) w := by
  have key : ∀ l : List Field, (∀ f ∈ l, ∃ i, P.info? f.type = some i) → (l.mapM fun f => do pure (f.offset, ← sizeOf f.type) : Sem (List (Nat × Nat))).run P w = .ok (l.map fun f => (f.offset, P.cellsOf f.type)) w := by
    intro l
    induction l with
    | nil => intro _; rfl
    | cons f l ih =>
      intro hl
      obtain ⟨i, hi⟩ := hl f (by simp)
      have ih' := ih fun g hg => hl g (by simp [hg])
      have hs : (sizeOf f.type).run P w = .ok (P.cellsOf f.type) w := by simp [sizeOf, typeInfo, hi, Program.cellsOf]
      rw [List.mapM_cons]
      simp only [Sem.run_bind, hs, ih', Result.andThen_ok, Sem.run_pure, List.map_cons]
  rw [Array.mapM_eq_mapM_toList]
  simp only [Sem.run_map, key fs.toList h, Result.andThen_ok]
  congr 1
  apply Array.ext'
  simp
theorem plain_ok {o : Oper} {aop : AOp} {call : CallF} {H' : Heap} {d : D} (hc : compOp P o.op = (aop, .plain)) (he : evOp call e H aop = some (d, H')) (hr : RelL ρ Im w e a.tmps) :
    H' = H ∧ ∃ v, (execOp a.eval o).run P w = .ok (.value v) w ∧ Rel ρ Im w d v := by
  cases ho : o.op with
  | move x =>
    simp only [ho, compOp, Prod.mk.injEq, and_true] at hc; subst hc
    exact ret_ok he (by simp [execOp, ho]) (rel_eval hr x)
  | assign x =>
    simp only [ho, compOp, Prod.mk.injEq, and_true] at hc; subst hc
    exact ret_ok he (by simp [execOp, ho]) (rel_eval hr x)
  | pick c x y =>
    simp only [ho, compOp, Prod.mk.injEq, and_true] at hc; subst hc
    simp only [evOp] at he
    split at he
    · rename_i t ht
      have hv : a.eval c = .bool t := by have := rel_eval hr c; rw [ht] at this; exact this.v_inv
      refine ret_ok he (v := if t then a.eval x else a.eval y) (by simp [execOp, ho, hv, asBool]) ?_
      cases t
      · exact rel_eval hr y
      · exact rel_eval hr x
    · cases he
  | build t parts =>
    simp only [ho, compOp, Prod.mk.injEq, and_true] at hc; subst hc
    split at he
    · rename_i fs z hu hz
      split at he
      · rename_i ps hps
        split at he
        case isFalse => cases he
        rename_i hinfo
        refine map_ok (s := Instr.build t (parts.map fun (i, x) => (i, a.eval x))) (x := (fillD e z ps).map .agg) (by simpa [evOp] using he) (by simp [execOp, ho]) (fun hx => ?_)
        simp only [Option.map_eq_some_iff] at hx
        obtain ⟨l, hl, rfl⟩ := hx
        obtain ⟨i, zv, hi, hzv, hcells⟩ := zeroOf_ok (ρ := ρ) (Im := Im) (w := w) hz
        obtain ⟨cs', hf, hc'⟩ := fill_ok hr parts.toList ps z l zv.cells hps hl hcells
        refine ⟨.agg cs', ?_, .agg hc'.len hc'.one hc'.rel⟩
        have hall : ∀ f ∈ fs.toList, ∃ i, P.info? f.type = some i := fun f hf => by
          have := List.all_eq_true.1 hinfo f hf
          exact Option.isSome_iff_exists.1 this
        have hplaces := run_places (P := P) w fs hall
        have hfun : (fun (i : Nat) => (fs.map fun (f : Field) => (f.offset, P.cellsOf f.type))[i]?) = (fun (i : Nat) => match (fs[i]? : Option Field) with | some f => (sizeAt P f.type).map fun n => (f.offset, n) | none => none) := by
          funext i
          rw [Array.getElem?_map]
          cases hf : fs[i]? with
          | none => rfl
          | some f =>
            obtain ⟨q, hq⟩ := hall f (by rw [Array.mem_toList_iff]; exact Array.mem_of_getElem? hf)
            simp [sizeAt, Program.cellsOf, hq]
        have hf' : Instr.fill (fun (i : Nat) => (fs.map fun (f : Field) => (f.offset, P.cellsOf f.type))[i]?) zv.cells (parts.map fun (i, x) => (i, a.eval x)).toList = some cs' := by
          rw [hfun, Array.toList_map]; exact hf
        simp only [Instr.build, Sem.run_bind, zeroValue, typeInfo, run_program, Result.andThen_ok, hi, Sem.run_pure, hzv, run_underlying hu, hplaces, hf']
      · cases he
    · rename_i m elem z hu hz
      split at he
      · rename_i n hn
        split at he
        · rename_i ps hps
          refine map_ok (s := Instr.build t (parts.map fun (i, x) => (i, a.eval x))) (x := (fillD e z ps).map .agg) (by simpa [evOp] using he) (by simp [execOp, ho]) (fun hx => ?_)
          simp only [Option.map_eq_some_iff] at hx
          obtain ⟨l, hl, rfl⟩ := hx
          obtain ⟨i, zv, hi, hzv, hcells⟩ := zeroOf_ok (ρ := ρ) (Im := Im) (w := w) hz
          obtain ⟨cs', hf, hc'⟩ := fill_ok hr parts.toList ps z l zv.cells hps hl hcells
          refine ⟨.agg cs', ?_, .agg hc'.len hc'.one hc'.rel⟩
          have hsz : ∀ w', (sizeOf elem).run P w' = .ok n w' := fun w' => sizeAt_run hn
          have hf' : Instr.fill (fun i => some (i * n, n)) zv.cells (parts.map fun (i, x) => (i, a.eval x)).toList = some cs' := by
            rw [Array.toList_map]; exact hf
          simp only [Instr.build, Sem.run_bind, zeroValue, typeInfo, run_program, Result.andThen_ok, hi, Sem.run_pure, hzv, run_underlying hu, hsz, hf']
        · cases he
      · cases he
    · cases he
  | nilCheck x =>
    simp only [ho, compOp, Prod.mk.injEq, and_true] at hc; subst hc
    have hx := rel_eval hr x
    simp only [evOp] at he
    split at he
    · rename_i r q hd
      rw [hd] at hx
      cases hv : a.eval x with
      | pointer p =>
        rw [hv] at hx
        have hx' := hx
        cases hx with
        | rf hb => exact ret_ok he (v := .pointer (some ⟨_, q, none⟩)) (by simp [execOp, ho, hv]) (.rf hb)
      | _ => rw [hv] at hx; cases hx
    · rename_i l hd
      rw [hd] at hx
      cases hv : a.eval x with
      | pointer p =>
        rw [hv] at hx
        have hx' := hx
        cases hx with
        | cp cs h1 h2 => exact ret_ok he (by simp [execOp, ho, hv]) hx'
      | _ => rw [hv] at hx; cases hx
    · cases he
  | binOp op t x y ty =>
    simp only [ho, compOp, Prod.mk.injEq, and_true] at hc; subst hc
    have bin : ∀ op', op' = op → evOp call e H (.bin op' (ofR x) (ofR y)) = some (d, H') → H' = H ∧ ∃ v, (execOp a.eval o).run P w = .ok (.value v) w ∧ Rel ρ Im w d v := by
      rintro op' rfl he
      exact map_ok (s := do eqGuard op' t x y (a.eval x) (a.eval y); binOp op' t (a.eval x) (a.eval y)) he (by simp [execOp, ho]) (fun hx => run_bin (rel_eval hr x) (rel_eval hr y) hx)
    have eqt : ∀ neg k, (if neg then BinOp.neq else BinOp.eql) = op → eqKind P t = some k → evOp call e H (.eqt neg k (ofR x) (ofR y)) = some (d, H') → H' = H ∧ ∃ v, (execOp a.eval o).run P w = .ok (.value v) w ∧ Rel ρ Im w d v := by
      rintro neg k rfl hk he
      simp only [evOp, Option.map_eq_some_iff, Prod.mk.injEq] at he
      obtain ⟨b, hb, rfl, rfl⟩ := he
      refine ⟨rfl, _, ?_, .v _⟩
      have := run_eqt (P := P) (neg := neg) (o1 := x) (o2 := y) hk (rel_eval hr x) (rel_eval hr y) hb
      simp only [execOp, ho]
      rw [Sem.run_bind, this]
      rfl
    split at he
    · split at he
      · exact bin .eql rfl he
      · exact bin .eql rfl he
      · refine map_ok (s := do eqGuard .eql t x y (a.eval x) (a.eval y); binOp .eql t (a.eval x) (a.eval y)) he (by simp [execOp, ho]) (fun hx => ?_)
        have h1 := rel_eval hr x
        have h2 := rel_eval hr y
        unfold evEqC at hx
        split at hx
        · rename_i k p q k' p' q' e1 e2
          split at hx
          · rename_i hk
            subst hk
            cases hx
            rw [e1] at h1
            rw [e2] at h2
            exact ⟨_, by rw [h1.v_inv, h2.v_inv]; simp [eqGuard, binOp, Op.complexOp, Op.Complex.cmp, Op.floatCmp, asBool], .v _⟩
          · cases hx
        · cases hx
      · split at he
        · rename_i k hk; exact eqt false k rfl hk he
        · cases he
    · split at he
      · exact bin .neq rfl he
      · exact bin .neq rfl he
      · split at he
        · rename_i k hk; exact eqt true k rfl hk he
        · cases he
    · exact bin _ rfl he
  | unOp op t x =>
    simp only [ho, compOp, Prod.mk.injEq, and_true] at hc; subst hc
    exact map_ok (s := Op.unary op (a.eval x)) he (by simp [execOp, ho]) (fun hx => run_un (rel_eval hr x) hx)
  | makeInterface t x =>
    simp only [ho, compOp, Prod.mk.injEq, and_true] at hc; subst hc
    split at he
    · cases he
    · cases he
    · rename_i td hu1 hu2
      refine ret_ok he ?_ (.ifc (rel_eval hr x))
      cases hu : P.underlying t with
      | none => exact absurd hu hu2
      | some td =>
        simp only [execOp, ho, Instr.makeInterface, Sem.run_bind, run_underlying hu, Result.andThen_ok]
        cases td <;> first | rfl | (exact absurd hu (hu1 _))
  | makeFunc f first caps =>
    simp only [ho, compOp, Prod.mk.injEq, and_true] at hc; subst hc
    have h1 := rel_list hr first
    have h2 := rel_list hr caps
    exact ret_ok he (v := .func f (first.map a.eval) (caps.map a.eval)) (by simp [execOp, ho, Instr.makeFunc]) (.fn h1.1 h1.2 h2.1 h2.2)
  | extract x i =>
    simp only [ho, compOp, Prod.mk.injEq, and_true] at hc; subst hc
    refine map_ok (s := Instr.extract (a.eval x) i) he (by simp [execOp, ho]) (fun hx => ?_)
    have hxr := rel_eval hr x
    unfold evExt at hx
    split at hx
    · rename_i l j hd
      rw [hd] at hxr
      cases hv : a.eval x with
      | tuple cs =>
        rw [hv] at hxr
        cases hxr with
        | tup hl hrr =>
          have hlt := (List.getElem?_eq_some_iff.1 hx).1
          rw [hl] at hlt
          exact ⟨_, by simp [Instr.extract, gv_lt hlt], hrr _ d hx⟩
      | _ => rw [hv] at hxr; cases hxr
    · cases hx
  | fieldAddr s x f =>
    simp only [ho, compOp, Prod.mk.injEq, and_true] at hc; subst hc
    split at he
    · rename_i fs hu
      split at he
      · rename_i fl hf
        split at he
        · rename_i n hn
          split at he
          · cases he
          · rename_i h0
            exact map_ok (s := Instr.fieldAt s (a.eval x) f) he (by simp [execOp, ho]) (fun hx => run_fadr hu hf hn (by simpa using h0) rfl (rel_eval hr x) hx)
        · cases he
      · cases he
    · cases he
  | field s x f =>
    simp only [ho, compOp, Prod.mk.injEq, and_true] at hc; subst hc
    split at he
    · rename_i fs hu
      split at he
      · rename_i fl hf
        split at he
        · rename_i k hk
          refine map_ok (s := Instr.field s (a.eval x) f) he (by simp [execOp, ho]) (fun hx => ?_)
          obtain ⟨cs, v, hv, hp, hrel⟩ := run_part hk (rel_eval hr x) hx
          exact ⟨v, by simp [Instr.field, run_underlying hu, hf, hv, asAgg, hp], hrel⟩
        · cases he
      · cases he
    · cases he
  | indexAddr t x i =>
    simp only [ho, compOp, Prod.mk.injEq, and_true] at hc; subst hc
    split at he
    · rename_i elem hu
      split at he
      · rename_i n hn
        exact map_ok (s := Instr.indexAt t (a.eval x) (a.eval i)) he (by simp [execOp, ho]) (fun hx => run_iadr hu hn (rel_eval hr x) (rel_eval hr i) hx)
      · cases he
    · rename_i len elem hu
      split at he
      · rename_i n hn
        exact map_ok (s := Instr.indexAt t (a.eval x) (a.eval i)) he (by simp [execOp, ho]) (fun hx => run_iadrA hu hn (rel_eval hr x) (rel_eval hr i) hx)
      · cases he
    · cases he
  | index t x i =>
    simp only [ho, compOp, Prod.mk.injEq, and_true] at hc; subst hc
    split at he
    · rename_i hu
      exact map_ok (s := Instr.index t (a.eval x) (a.eval i)) he (by simp [execOp, ho]) (fun hx => run_idxS hu (rel_eval hr x) (rel_eval hr i) hx)
    · rename_i len elem hu
      split at he
      · rename_i k n hk hn
        exact map_ok (s := Instr.index t (a.eval x) (a.eval i)) he (by simp [execOp, ho]) (fun hx => run_idxA hu hk hn (rel_eval hr x) (rel_eval hr i) hx)
      · cases he
    · cases he
  | slice t x lo hi mx =>
    simp only [ho, compOp, Prod.mk.injEq, and_true] at hc; subst hc
    split at he
    · rename_i elem hu
      split at he
      · rename_i n hn
        split at he
        · cases he
        · rename_i hmx
          refine map_ok (s := Instr.sliceAt t (a.eval x) (lo.map a.eval) (hi.map a.eval) (mx.map a.eval)) he (by simp [execOp, ho]) (fun hx => run_slice hu hn hr (fun h => ?_) hx)
          simp only [h, Bool.true_and, Bool.not_eq_true', Bool.not_eq_false] at hmx
          simpa using hmx
      · cases he
    · rename_i hu
      split at he
      · cases he
      · rename_i hmx
        obtain rfl : mx = none := by cases mx <;> simp_all
        exact map_ok (s := Instr.sliceAt t (a.eval x) (lo.map a.eval) (hi.map a.eval) none) he (by simp [execOp, ho]) (fun hx => run_sliceS hu hr hx)
    · cases he
  | call c =>
    simp only [ho, compOp, compCall] at hc
    split at hc
    · cases hc
    · cases hc
    · cases hc
    · rename_i b hb
      split at hc
      · rename_i t tl x xl hat hxs
        have h0 : c.argTypes[0]? = some t := by rw [← Array.getElem?_toList, hat]; rfl
        have hx0 : (c.args.map a.eval)[0]? = some (a.eval x) := by rw [Array.getElem?_map, ← Array.getElem?_toList, hxs]; rfl
        split at hc
        · rename_i hu
          cases hc
          exact map_ok (s := Builtin.len_ c.argTypes o.type (c.args.map a.eval)) he (by simp [execOp, ho, resolve, hb, invoke, builtin]) (fun hx => run_len h0 (by simpa using hu) (rel_eval hr x) hx hx0)
        · rename_i el hu
          cases hc
          exact map_ok (s := Builtin.len_ c.argTypes o.type (c.args.map a.eval)) he (by simp [execOp, ho, resolve, hb, invoke, builtin]) (fun hx => run_len h0 (by simpa using ⟨el, hu⟩) (rel_eval hr x) hx hx0)
        · cases hc
        · cases hc
      · split at hc
        · split at hc <;> cases hc
        · split at hc <;> cases hc
        · cases hc
      · split at hc
        · split at hc <;> cases hc
        · cases hc
      · rename_i x y hxs
        have hxs' : c.args = #[x, y] := by rw [← Array.toArray_toList (xs := c.args), hxs]
        cases hc
        refine map_ok (s := Builtin.complex_ c.argTypes o.type (c.args.map a.eval)) he (by simp [execOp, ho, resolve, hb, invoke, builtin]) (fun hx => ?_)
        have h1 := rel_eval hr x
        have h2 := rel_eval hr y
        unfold evCplx at hx
        split at hx
        · rename_i k p k' q e1 e2
          split at hx
          · rename_i hk
            cases hx
            rw [e1] at h1
            rw [e2] at h2
            subst hk
            have hcx : Builtin.complex_ c.argTypes o.type #[.float k p, .float k q] = (if k = k then pure (.complex k p q) else stuck "complex: parts of different kinds") := rfl
            have hm : c.args.map a.eval = #[.float k p, .float k q] := by rw [hxs']; simp [h1.v_inv, h2.v_inv]
            exact ⟨_, by rw [hm, hcx, if_pos rfl]; rfl, .v _⟩
          · cases hx
        · cases hx
      · cases hc
        refine map_ok (s := Builtin.min_ c.argTypes o.type (c.args.map a.eval)) he (by simp [execOp, ho, resolve, hb, invoke, builtin]) (fun hx => ?_)
        have := run_minmax (P := P) (at_ := c.argTypes) (ty := o.type) (rel_list hr c.args) hx
        simpa using this
      · cases hc
        refine map_ok (s := Builtin.max_ c.argTypes o.type (c.args.map a.eval)) he (by simp [execOp, ho, resolve, hb, invoke, builtin]) (fun hx => ?_)
        have := run_minmax (P := P) (at_ := c.argTypes) (ty := o.type) (rel_list hr c.args) hx
        simpa using this
      · cases hc
  | makeMap t r => cases r <;> simp only [ho, compOp, Prod.mk.injEq, reduceCtorEq, and_false] at hc
  | _ => simp only [ho, compOp, Prod.mk.injEq, reduceCtorEq, and_false] at hc
end Go.Aug
