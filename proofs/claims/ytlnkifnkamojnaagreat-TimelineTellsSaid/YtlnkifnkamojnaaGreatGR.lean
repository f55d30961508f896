/-
What code does, told backwards, over frames that are functions and calls that are relations: for proofs with letters in them. Conditions: none.
-/
import Derived.Test.YtlnkifnkamojnaaGreatGE
namespace Go.Aug
abbrev Fr := Nat → D
def upd (E : Fr) (i : Nat) (d : D) : Fr := fun j => if j = i then d else E j
theorem upd_apply (E : Fr) (i : Nat) (d : D) (j : Nat) : upd E i d j = if j = i then d else E j := rfl
def putX (E : Fr) (dst : Option Nat) (d : D) : Fr :=
  match dst with
  | some i => upd E i d
  | none => E
def rX (E : Fr) : Rand → D
  | .t i => E i
  | .c d => d
structure Fits (n : Nat) (E : Fr) (e : Env) : Prop where
  len : e.length = n
  get : ∀ i, E i = Env.get e i
theorem Fits.put {n : Nat} {E : Fr} {e : Env} (h : Fits n E e) {dst : Option Nat} (hd : ∀ i, dst = some i → i < n) (d : D) : Fits n (putX E dst d) (putE e dst d) := by
  cases dst with
  | none => exact h
  | some i =>
    refine ⟨by simp [putE, h.len], fun j => ?_⟩
    simp only [putX, upd, putE]
    by_cases hj : j = i
    · subst hj
      have : j < e.length := by rw [h.len]; exact hd j rfl
      simp [Env.get, this]
    · have : i ≠ j := fun e => hj e.symm
      simp [hj, Env.get, List.getElem?_set_ne this, h.get]
theorem Fits.eval {n : Nat} {E : Fr} {e : Env} (h : Fits n E e) (x : Rand) : evR e x = rX E x := by
  cases x with
  | t i => exact (h.get i).symm
  | c d => rfl
def listX (n : Nat) (E : Fr) : Env := (List.range n).map E
theorem Fits.list {n : Nat} {E : Fr} {e : Env} (h : Fits n E e) : listX n E = e := by
  unfold listX
  refine List.ext_getElem (by simp [h.len]) fun i h1 h2 => ?_
  simp [h.get, Env.get, h2]
def oK {α : Type} (o : Option α) (k : α → Prop) : Prop := ∃ a, o = some a ∧ k a
theorem oK_some {α : Type} (a : α) (k : α → Prop) : oK (some a) k = k a := by simp [oK]
theorem oK_none {α : Type} (k : α → Prop) : oK none k = False := by simp [oK]
theorem oK.mono {α : Type} {o : Option α} {k k' : α → Prop} (h : oK o k) (hk : ∀ a, k a → k' a) : oK o k' := let ⟨a, h1, h2⟩ := h; ⟨a, h1, hk a h2⟩
class Bx where
  p : Prop
def gK (b : Bool) [p : Bx] [q : Bx] : Prop := if b = true then p.p else q.p
theorem gK_true (p q : Prop) : @gK true ⟨p⟩ ⟨q⟩ = p := by simp [gK]
theorem gK_false (p q : Prop) : @gK false ⟨p⟩ ⟨q⟩ = q := by simp [gK]
theorem gK_of {b : Bool} {p q : Prop} (h : b = true → p) (h' : b = false → q) : @gK b ⟨p⟩ ⟨q⟩ := by
  cases b
  · rw [gK_false]; exact h' rfl
  · rw [gK_true]; exact h rfl
theorem gK.mono {b : Bool} {p q p' q' : Prop} (h : @gK b ⟨p⟩ ⟨q⟩) (h1 : p → p') (h2 : q → q') : @gK b ⟨p'⟩ ⟨q'⟩ := by
  cases b
  · rw [gK_false] at *; exact h2 h
  · rw [gK_true] at *; exact h1 h
def bK (d : D) [p : Bx] [q : Bx] : Prop := ∃ t, d = .v (.bool t) ∧ @gK t p q
theorem bK_bool (t : Bool) (p q : Bx) : @bK (.v (.bool t)) p q = @gK t p q := by
  apply propext
  constructor
  · rintro ⟨t', h, h'⟩; cases h; exact h'
  · exact fun h => ⟨t, rfl, h⟩
theorem bK.mono {d : D} {p q p' q' : Prop} (h : @bK d ⟨p⟩ ⟨q⟩) (h1 : p → p') (h2 : q → q') : @bK d ⟨p'⟩ ⟨q'⟩ := let ⟨t, e, g⟩ := h; ⟨t, e, g.mono h1 h2⟩
def Run (T : Tab) (c : Callee) (args : List D) (H : Heap) (d : D) (H' : Heap) : Prop := ∃ n, ∀ m, n ≤ m → ev T m c args H = some (d, H')
theorem Run.same {T : Tab} {c : Callee} {args : List D} {H : Heap} {d d' : D} {H1 H2 : Heap} (h : Run T c args H d H1) (h' : Run T c args H d' H2) : d = d' ∧ H1 = H2 := by
  obtain ⟨n, hn⟩ := h
  obtain ⟨n', hn'⟩ := h'
  have a := hn (max n n') (Nat.le_max_left ..)
  have b := hn' (max n n') (Nat.le_max_right ..)
  rw [a] at b
  cases b
  exact ⟨rfl, rfl⟩
def cK (T : Tab) (c : Callee) (args : List D) (H : Heap) (k : D → Heap → Prop) : Prop := ∃ d H', Run T c args H d H' ∧ k d H'
theorem Run.cK {T : Tab} {c : Callee} {args : List D} {H : Heap} {d : D} {H' : Heap} (h : Run T c args H d H') (k : D → Heap → Prop) : Aug.cK T c args H k = k d H' := by
  apply propext
  constructor
  · rintro ⟨d1, H1, h1, h2⟩
    obtain ⟨rfl, rfl⟩ := h.same h1
    exact h2
  · exact fun hk => ⟨d, H', h, hk⟩
theorem cK.mono {T : Tab} {c : Callee} {args : List D} {H : Heap} {k k' : D → Heap → Prop} (h : cK T c args H k) (hk : ∀ d H', k d H' → k' d H') : cK T c args H k' :=
  let ⟨d, H', h1, h2⟩ := h; ⟨d, H', h1, hk d H' h2⟩
theorem cK.run {T : Tab} {c : Callee} {args : List D} {H : Heap} {d : D} {H' : Heap} (h : cK T c args H fun x y => x = d ∧ y = H') : Run T c args H d H' := by
  obtain ⟨d1, H1, h1, rfl, rfl⟩ := h
  exact h1
def caldK (T : Tab) (f : D) (args : List D) (H : Heap) (k : D → Heap → Prop) : Prop :=
  match f with
  | .fn (.func g) first caps => cK T (.fn g) (first ++ args ++ caps) H k
  | .yl r => cK T (.yl r) args H k
  | _ => False
theorem caldK_fn (T : Tab) (g : FuncId) (first caps args : List D) (H : Heap) (k : D → Heap → Prop) : caldK T (.fn (.func g) first caps) args H k = cK T (.fn g) (first ++ args ++ caps) H k := rfl
theorem caldK_yl (T : Tab) (r : Nat) (args : List D) (H : Heap) (k : D → Heap → Prop) : caldK T (.yl r) args H k = cK T (.yl r) args H k := rfl
theorem caldK.mono {T : Tab} {f : D} {args : List D} {H : Heap} {k k' : D → Heap → Prop} (h : caldK T f args H k) (hk : ∀ d H', k d H' → k' d H') : caldK T f args H k' := by
  unfold caldK at *
  split at h
  · exact h.mono hk
  · exact h.mono hk
  · exact h
def saysX (E : Fr) : Option (Nat × Bool) → Bool
  | none => true
  | some (t, b) => (E t).says b
def fillX (E : Fr) (cells : List D) : List (Nat × Nat × Rand) → Option (List D)
  | [] => some cells
  | (off, size, x) :: rest =>
    match cellsOf (rX E x) with
    | some l => if l.length == size && decide (off + size ≤ cells.length) then fillX E (setAll cells off l) rest else none
    | none => none
def pickX (c a b : D) : Option D :=
  match c with
  | .v (.bool t) => some (if t then a else b)
  | _ => none
def nilckX (x : D) : Option D :=
  match x with
  | .rf r o => some (.rf r o)
  | .cp l => some (.cp l)
  | _ => none
def boundX (x : Option D) (other most : Nat) : Option Nat :=
  match x with
  | none => some other
  | some d => match asI d with
    | some n => if 0 ≤ n ∧ n ≤ (most : Int) then some n.toNat else none
    | none => none
def sliceX (size : Nat) (x : D) (lo hi mx : Option D) (three : Bool) : Option D :=
  match x with
  | .v (.slice none 0 0) =>
    match boundX mx 0 0, boundX hi 0 0, boundX lo 0 0 with
    | some _, some _, some _ => some (.v (.slice none 0 0))
    | _, _, _ => none
  | .sl n l cap =>
    match boundX mx n n with
    | none => none
    | some m => match boundX hi n m with
      | none => none
      | some h => match boundX lo 0 h with
        | none => none
        | some k => some (.sl (h - k) ((l.drop (k * size)).take ((h - k) * size)) (if three then some (m - k) else cap.map (· - k)))
  | .rs r off n cap sz =>
    match boundX mx n n with
    | none => none
    | some m => match boundX hi n m with
      | none => none
      | some h => match boundX lo 0 h with
        | none => none
        | some k => if sz == size && decide (k < m ∨ k = 0) then some (.rs r (off + k * size) (h - k) (if three then some (m - k) else cap.map (· - k)) sz) else
          if h == k then some (.sl 0 [] (if three then some (m - k) else cap.map (· - k))) else none
  | _ => none
def sliceSX (x : D) (lo hi : Option D) : Option D :=
  match x with
  | .v (.string s) =>
    match boundX hi s.size s.size with
    | none => none
    | some h => match boundX lo 0 h with
      | none => none
      | some k => some (.v (.string (s.extract k h)))
  | _ => none
def opK (T : Tab) (E : Fr) (H : Heap) : AOp → (D → Heap → Prop) → Prop
  | .mv x, k => k (rX E x) H
  | .pick c a b, k => oK (pickX (rX E c) (rX E a) (rX E b)) fun d => k d H
  | .new x, k => oK (cellsOf (rX E x)) fun l => k (.rf H.next 0) (H.add (.cells l))
  | .zero z, k => k (.rf H.next 0) (H.add (.cells z))
  | .build z parts, k => oK (fillX E z parts) fun l => k (.agg l) H
  | .lits n size z parts, k => oK (fillX E z parts) fun l => k (.rs H.next 0 n (some n) size) (H.add (.cells l))
  | .load kk a, k => oK (evLoad H kk (rX E a)) fun d => k d H
  | .store kk a x, k => oK (evStore H kk (rX E a) (rX E x)) fun H' => k uD H'
  | .nilck x, k => oK (nilckX (rX E x)) fun d => k d H
  | .bin op x y, k => oK (evBin op (rX E x) (rX E y)) fun d => k d H
  | .eqt neg kk x y, k => oK (eqAny kk (rX E x) (rX E y)) fun b => k (.v (.bool (b != neg))) H
  | .un op x, k => oK (evUn op (rX E x)) fun d => k d H
  | .conv kk x, k => oK (evConv kk (rX E x)) fun d => k d H
  | .convI x, k => oK (evConvI (rX E x)) fun d => k d H
  | .convB x, k => oK (evConvB H (rX E x)) fun d => k d H
  | .convF kk x, k => oK (evConvF kk (rX E x)) fun d => k d H
  | .mrng x, k => oK (evMrng H (rX E x)) fun r => k r.1 r.2
  | .mnxt x, k => oK (evMnxt H (rX E x)) fun r => k r.1 r.2
  | .mcur x, k => oK (evMcur H (rX E x)) fun d => k d H
  | .cplx x y, k => oK (evCplx (rX E x) (rX E y)) fun d => k d H
  | .eqC x y, k => oK (evEqC (rX E x) (rX E y)) fun d => k d H
  | .ifc t x, k => k (.ifc t (rX E x)) H
  | .mkfn f first caps, k => k (.fn f (first.map (rX E)) (caps.map (rX E))) H
  | .ext x i, k => oK (evExt (rX E x) i) fun d => k d H
  | .fadr off x, k => oK (evFadr off (rX E x)) fun d => k d H
  | .fld kk off x, k => oK (evFld kk off (rX E x)) fun d => k d H
  | .iadr size x i, k => oK (evIadr size (rX E x) (rX E i)) fun d => k d H
  | .iadrA size len x i, k => oK (evIadrA size len (rX E x) (rX E i)) fun d => k d H
  | .idxS x i, k => oK (evIdxS (rX E x) (rX E i)) fun d => k d H
  | .idxA kk size len x i, k => oK (evIdxA kk size len (rX E x) (rX E i)) fun d => k d H
  | .slice size x lo hi mx, k => oK (sliceX size (rX E x) (lo.map (rX E)) (hi.map (rX E)) (mx.map (rX E)) mx.isSome) fun d => k d H
  | .sliceS x lo hi, k => oK (sliceSX (rX E x) (lo.map (rX E)) (hi.map (rX E))) fun d => k d H
  | .len text x, k => oK (evLen text (rX E x)) fun d => k d H
  | .app text size bytes x y, k => oK (evApp H text size bytes (rX E x) (rX E y)) fun r => k r.1 r.2
  | .minmax most xs, k => oK (evMinmax most (xs.map (rX E))) fun d => k d H
  | .call f args, k => cK T (.fn f) (args.map (rX E)) H k
  | .cald f args, k => caldK T (rX E f) (args.map (rX E)) H k
  | .mkmap, k => k (.mp H.next) (H.add (.map []))
  | .mlook ck z ok m kk, k => oK (evMlook H ck z ok (rX E m) (rX E kk)) fun d => k d H
  | .mput ck m kk x, k => oK (evMput H ck (rX E m) (rX E kk) (rX E x)) fun H' => k uD H'
  | .ment ck z m kk, k => oK (evMent H ck z (rX E m) (rX E kk)) fun r => k r.1 r.2
  | .mset m i x, k => oK (evMset H (rX E m) (rX E i) (rX E x)) fun H' => k uD H'
  | .mlen m, k => oK (evMlen H (rX E m)) fun d => k d H
  | .clr size z x, k => oK (evClr H size z (rX E x)) fun H' => k (.tup []) H'
  | .mksl size bytes z x, k => oK (evMksl H size bytes z (rX E x)) fun r => k r.1 r.2
  | .bad, _ => False
theorem opK.mono {T : Tab} {E : Fr} {H : Heap} {op : AOp} {k k' : D → Heap → Prop} (h : opK T E H op k) (hk : ∀ d H', k d H' → k' d H') : opK T E H op k' := by
  cases op with
  | mv x => exact hk _ _ h
  | zero z => exact hk _ _ h
  | ifc t x => exact hk _ _ h
  | mkfn f a b => exact hk _ _ h
  | mkmap => exact hk _ _ h
  | bad => exact h
  | call f args => exact cK.mono h hk
  | cald f args => exact caldK.mono h hk
  | _ => exact oK.mono h fun _ h' => hk _ _ h'
theorem Fits.fill {n : Nat} {E : Fr} {e : Env} (h : Fits n E e) : ∀ (ps : List (Nat × Nat × Rand)) (cells : List D), fillD e cells ps = fillX E cells ps
  | [], cells => rfl
  | (off, size, x) :: ps, cells => by
    simp only [fillD, fillX, h.eval, h.fill ps]
    rfl
theorem Fits.maps {n : Nat} {E : Fr} {e : Env} (h : Fits n E e) (xs : List Rand) : xs.map (evR e) = xs.map (rX E) := List.map_congr_left fun x _ => h.eval x
theorem Fits.bound {n : Nat} {E : Fr} {e : Env} (h : Fits n E e) (x : Option Rand) (a b : Nat) : Aug.bound e x a b = boundX (x.map (rX E)) a b := by
  cases x with
  | none => rfl
  | some x => simp only [Aug.bound, boundX, Option.map_some, h.eval]; rfl
theorem Fits.slice {n : Nat} {E : Fr} {e : Env} (h : Fits n E e) (size : Nat) (x : D) (lo hi mx : Option Rand) : evSlice e size x lo hi mx = sliceX size x (lo.map (rX E)) (hi.map (rX E)) (mx.map (rX E)) mx.isSome := by
  unfold evSlice sliceX
  simp only [h.bound]
  rfl
theorem Fits.sliceS {n : Nat} {E : Fr} {e : Env} (h : Fits n E e) (x : D) (lo hi : Option Rand) : evSliceS e x lo hi = sliceSX x (lo.map (rX E)) (hi.map (rX E)) := by
  unfold evSliceS sliceSX
  simp only [h.bound]
  rfl
theorem opK_ok {n : Nat} {T : Tab} {E : Fr} {e : Env} (h : Fits n E e) {H : Heap} {op : AOp} {k : D → Heap → Prop} (hk : opK T E H op k) : ∃ n0 d H', (∀ m, n0 ≤ m → evOp (ev T m) e H op = some (d, H')) ∧ k d H' := by
  have call : ∀ c args, cK T c args H k → ∃ n0 d H', (∀ m, n0 ≤ m → ev T m c args H = some (d, H')) ∧ k d H' := by
    rintro c args ⟨d, H', ⟨n0, h0⟩, h1⟩
    exact ⟨n0, d, H', h0, h1⟩
  cases op with
  | mv x => exact ⟨0, _, _, fun m _ => by simp only [evOp, h.eval], hk⟩
  | zero z => exact ⟨0, _, _, fun m _ => rfl, hk⟩
  | ifc t x => exact ⟨0, _, _, fun m _ => by simp only [evOp, h.eval], hk⟩
  | mkfn f a b => exact ⟨0, _, _, fun m _ => by simp only [evOp, h.maps], hk⟩
  | mkmap => exact ⟨0, _, _, fun m _ => rfl, hk⟩
  | bad => exact hk.elim
  | call f args =>
    obtain ⟨n0, d, H', h1, h2⟩ := call _ _ hk
    exact ⟨n0, d, H', fun m hm => by simp only [evOp, h.maps, h1 m hm], h2⟩
  | cald f args =>
    simp only [opK, caldK] at hk
    split at hk
    · rename_i hf
      obtain ⟨n0, d, H', h1, h2⟩ := call _ _ hk
      exact ⟨n0, d, H', fun m hm => by simp only [evOp, h.eval, h.maps, hf, h1 m hm], h2⟩
    · rename_i hf
      obtain ⟨n0, d, H', h1, h2⟩ := call _ _ hk
      exact ⟨n0, d, H', fun m hm => by simp only [evOp, h.eval, h.maps, hf, h1 m hm], h2⟩
    · exact hk.elim
  | pick c a b =>
    obtain ⟨d, h1, h2⟩ := hk
    refine ⟨0, d, H, fun m _ => ?_, h2⟩
    simp only [evOp, h.eval]
    unfold pickX at h1
    split at h1
    · rename_i hc; cases h1; rw [hc]
    · cases h1
  | nilck x =>
    obtain ⟨d, h1, h2⟩ := hk
    refine ⟨0, d, H, fun m _ => ?_, h2⟩
    simp only [evOp, h.eval]
    unfold nilckX at h1
    split at h1
    · rename_i hc; cases h1; rw [hc]
    · rename_i hc; cases h1; rw [hc]
    · cases h1
  | slice size x lo hi mx =>
    obtain ⟨d, h1, h2⟩ := hk
    exact ⟨0, _, _, fun m _ => by simp only [evOp, h.eval, h.slice, h1, Option.map_some], h2⟩
  | sliceS x lo hi =>
    obtain ⟨d, h1, h2⟩ := hk
    exact ⟨0, _, _, fun m _ => by simp only [evOp, h.eval, h.sliceS, h1, Option.map_some], h2⟩
  | app text size bytes x y =>
    obtain ⟨d, h1, h2⟩ := hk
    exact ⟨0, _, _, fun m _ => by simp only [evOp, h.eval, h1], h2⟩
  | ment ck z mm kk =>
    obtain ⟨d, h1, h2⟩ := hk
    exact ⟨0, _, _, fun m _ => by simp only [evOp, h.eval, h1], h2⟩
  | _ =>
    obtain ⟨d, h1, h2⟩ := hk
    exact ⟨0, _, _, fun m _ => by simp only [evOp, h.eval, h.maps, h.fill, h1, Option.map_some], h2⟩
def WO (T : Tab) : List POp → Fr → Heap → (Fr → Heap → Prop) → Prop
  | [], E, H, Q => Q E H
  | p :: ps, E, H, Q => @gK (saysX E p.guard) ⟨(opK T E H p.op fun d H' => WO T ps (putX E p.dst d) H' Q)⟩ ⟨(WO T ps (putX E p.dst uD) H Q)⟩
theorem WO.mono {T : Tab} : ∀ {ps : List POp} {E : Fr} {H : Heap} {Q Q' : Fr → Heap → Prop}, WO T ps E H Q → (∀ E H, Q E H → Q' E H) → WO T ps E H Q'
  | [], _, _, _, _, h, hq => hq _ _ h
  | _ :: _, _, _, _, _, h, hq => gK.mono h (fun h => h.mono fun _ _ h => h.mono hq) (fun h => h.mono hq)
def dstOk (n : Nat) (ps : List POp) : Bool := ps.all fun p => match p.dst with | some i => decide (i < n) | none => true
theorem dstOk_cons {n : Nat} {p : POp} {ps : List POp} (h : dstOk n (p :: ps) = true) : (∀ i, p.dst = some i → i < n) ∧ dstOk n ps = true := by
  simp only [dstOk, List.all_cons, Bool.and_eq_true] at h
  refine ⟨fun i hi => ?_, h.2⟩
  have := h.1
  rw [hi] at this
  simpa using this
theorem Fits.says {n : Nat} {E : Fr} {e : Env} (h : Fits n E e) (g : Option (Nat × Bool)) : wants e g = saysX E g := by
  cases g with
  | none => rfl
  | some p => obtain ⟨t, b⟩ := p; simp only [wants, saysX, h.get]
theorem WO_ok {n : Nat} {T : Tab} : ∀ (ps : List POp) (E : Fr) (H : Heap) (Q : Fr → Heap → Prop) (e : Env), Fits n E e → dstOk n ps = true → WO T ps E H Q →
    ∃ n0 E' e' H', (∀ m, n0 ≤ m → evOps (ev T m) ps e H = some (e', H')) ∧ Fits n E' e' ∧ Q E' H'
  | [], E, H, Q, e, hf, _, h => ⟨0, E, e, H, fun _ _ => rfl, hf, h⟩
  | p :: ps, E, H, Q, e, hf, hd, h => by
    obtain ⟨hd1, hd2⟩ := dstOk_cons hd
    simp only [WO, gK] at h
    simp only [evOps, hf.says]
    split at h
    · rename_i hw
      obtain ⟨n1, d, H1, h1, h2⟩ := opK_ok hf h
      obtain ⟨n2, E', e', H', g1, g2, g3⟩ := WO_ok ps _ H1 Q _ (hf.put hd1 d) hd2 h2
      refine ⟨max n1 n2, E', e', H', fun m hm => ?_, g2, g3⟩
      simp only [hw, if_true, h1 m (Nat.le_trans (Nat.le_max_left ..) hm), g1 m (Nat.le_trans (Nat.le_max_right ..) hm)]
    · rename_i hw
      obtain ⟨n2, E', e', H', g1, g2, g3⟩ := WO_ok ps _ H Q _ (hf.put hd1 uD) hd2 h
      exact ⟨n2, E', e', H', fun m hm => by simp only [hw, if_false, Bool.false_eq_true, g1 m hm], g2, g3⟩
abbrev PendX := List (Nat × O)
abbrev ChainX := List (Heap × List Nat)
def topC (Hs : ChainX) : Heap × List Nat := Hs.headD default
def atC (Hs : ChainX) (n : Nat) : Heap × List Nat := (Hs[Hs.length - 1 - n]?).getD default
def newX (H : Heap) : Option O :=
  match H with
  | ⟨_, _, [(_, o)]⟩ => some o
  | _ => none
def endC (Hs : ChainX) (pend : PendX) (base : Nat) : Heap :=
  ⟨(topC Hs).1.next, (topC Hs).1.low, pend.filter (fun p => !(topC Hs).2.contains (p.1 - base)) ++ (topC Hs).1.objs⟩
def low0 (H : Heap) : Heap := ⟨H.next, H.next, H.objs⟩
def DO (T : Tab) (base : Nat) : List POp → Fr → Nat → PendX → ChainX → (Fr → Heap → Prop) → Prop
  | [], E, _, pend, Hs, Q => Q E (endC Hs pend base)
  | p :: ps, E, rank, pend, Hs, Q =>
    @gK (saysX E p.guard) ⟨(match p.cls with
      | .plain => opK T E (topC Hs).1 p.op fun d _ => DO T base ps (putX E p.dst d) rank pend Hs Q
      | .reads => opK T E (wake base p.act pend (atC Hs p.lo).2 (atC Hs p.lo).1) p.op fun d _ => DO T base ps (putX E p.dst d) rank pend Hs Q
      | .news => opK T E ⟨base + rank, 0, []⟩ p.op fun d H' => oK (newX H') fun o => DO T base ps (putX E p.dst d) (rank + 1) ((base + rank, o) :: pend) Hs Q
      | .acts => match p.still with
        | true => opK T E (low0 (wake base p.act pend (topC Hs).2 (topC Hs).1)) p.op fun d H' =>
            @gK (decide (stillLim p.lo (atC Hs 0).1.next (wake base p.act pend (topC Hs).2 (topC Hs).1).next ≤ H'.low)) ⟨(DO T base ps (putX E p.dst d) rank pend ((⟨H'.next, (wake base p.act pend (topC Hs).2 (topC Hs).1).low, H'.objs⟩, p.act ++ (topC Hs).2) :: Hs) Q)⟩ ⟨False⟩
        | false => opK T E (wake base p.act pend (topC Hs).2 (topC Hs).1) p.op fun d H' => DO T base ps (putX E p.dst d) rank pend ((H', p.act ++ (topC Hs).2) :: Hs) Q)⟩ ⟨(match p.cls with
      | .plain => DO T base ps (putX E p.dst uD) rank pend Hs Q
      | .reads => DO T base ps (putX E p.dst uD) rank pend Hs Q
      | .news => DO T base ps (putX E p.dst uD) (rank + 1) pend Hs Q
      | .acts => DO T base ps (putX E p.dst uD) rank pend (topC Hs :: Hs) Q)⟩
theorem DO.mono {T : Tab} {base : Nat} : ∀ {ps : List POp} {E : Fr} {rank : Nat} {pend : PendX} {Hs : ChainX} {Q Q' : Fr → Heap → Prop}, DO T base ps E rank pend Hs Q → (∀ E H, Q E H → Q' E H) → DO T base ps E rank pend Hs Q'
  | [], _, _, _, _, _, _, h, hq => hq _ _ h
  | p :: ps, _, _, _, _, _, _, h, hq => by
    simp only [DO] at h ⊢
    refine gK.mono h (fun h => ?_) (fun h => ?_)
    · cases hc : p.cls <;> simp only [hc] at h ⊢
      · exact h.mono fun _ _ h => h.mono hq
      · exact h.mono fun _ _ h => h.mono hq
      · exact h.mono fun _ _ h => oK.mono h fun _ h => h.mono hq
      · cases hs : p.still <;> simp only [hs] at h ⊢
        · exact h.mono fun _ _ h => h.mono hq
        · exact h.mono fun _ _ h => gK.mono h (fun h => h.mono hq) id
    · cases hc : p.cls <;> simp only [hc] at h ⊢ <;> exact h.mono hq
theorem DO_ok {n : Nat} {T : Tab} {base : Nat} : ∀ (ps : List POp) (E : Fr) (rank : Nat) (pend : PendX) (Hs : ChainX) (Q : Fr → Heap → Prop) (e : Env), Fits n E e → dstOk n ps = true → DO T base ps E rank pend Hs Q →
    ∃ n0 s E', (∀ m, n0 ≤ m → evDs (ev T m) base ps ⟨e, rank, pend, Hs⟩ = some s) ∧ Fits n E' s.env ∧ Q E' ⟨s.cur.1.next, s.cur.1.low, s.pend.filter (fun p => !s.cur.2.contains (p.1 - base)) ++ s.cur.1.objs⟩
  | [], E, rank, pend, Hs, Q, e, hf, _, h => ⟨0, _, E, fun _ _ => rfl, hf, h⟩
  | p :: ps, E, rank, pend, Hs, Q, e, hf, hd, h => by
    obtain ⟨hd1, hd2⟩ := dstOk_cons hd
    have hcur : DS.cur ⟨e, rank, pend, Hs⟩ = topC Hs := rfl
    have hat : DS.at ⟨e, rank, pend, Hs⟩ p.lo = atC Hs p.lo := rfl
    have hat0 : DS.at ⟨e, rank, pend, Hs⟩ 0 = atC Hs 0 := rfl
    simp only [DO, gK] at h
    simp only [evDs, evD, hf.says]
    split at h
    · rename_i hw
      simp only [hw, if_true]
      cases hc : p.cls with
      | plain =>
        simp only [hc] at h
        obtain ⟨n1, d, H1, h1, h2⟩ := opK_ok hf h
        obtain ⟨n2, s, E', g1, g2⟩ := DO_ok ps _ _ _ _ _ _ (hf.put hd1 d) hd2 h2
        refine ⟨max n1 n2, s, E', fun m hm => ?_, g2⟩
        simp only [hcur, h1 m (Nat.le_trans (Nat.le_max_left ..) hm), g1 m (Nat.le_trans (Nat.le_max_right ..) hm)]
      | reads =>
        simp only [hc] at h
        obtain ⟨n1, d, H1, h1, h2⟩ := opK_ok hf h
        obtain ⟨n2, s, E', g1, g2⟩ := DO_ok ps _ _ _ _ _ _ (hf.put hd1 d) hd2 h2
        refine ⟨max n1 n2, s, E', fun m hm => ?_, g2⟩
        simp only [hat, h1 m (Nat.le_trans (Nat.le_max_left ..) hm), g1 m (Nat.le_trans (Nat.le_max_right ..) hm)]
      | news =>
        simp only [hc] at h
        obtain ⟨n1, d, H1, h1, o, h2, h3⟩ := opK_ok hf h
        unfold newX at h2
        split at h2
        · cases h2
          obtain ⟨n2, s, E', g1, g2⟩ := DO_ok ps _ _ _ _ _ _ (hf.put hd1 d) hd2 h3
          refine ⟨max n1 n2, s, E', fun m hm => ?_, g2⟩
          simp only [h1 m (Nat.le_trans (Nat.le_max_left ..) hm), g1 m (Nat.le_trans (Nat.le_max_right ..) hm)]
        · cases h2
      | acts =>
        simp only [hc] at h
        simp only [hcur]
        cases hst : p.still with
        | true =>
          simp only [hst, if_true] at h ⊢
          obtain ⟨n1, d, H1, h1, h2⟩ := opK_ok hf h
          simp only [decide_eq_true_eq] at h2
          split at h2
          · rename_i hle
            obtain ⟨n2, s, E', g1, g2⟩ := DO_ok ps _ _ _ _ _ _ (hf.put hd1 d) hd2 h2
            refine ⟨max n1 n2, s, E', fun m hm => ?_, g2⟩
            have := h1 m (Nat.le_trans (Nat.le_max_left ..) hm)
            unfold low0 at this
            simp only [hat0, this, hle, if_true, g1 m (Nat.le_trans (Nat.le_max_right ..) hm)]
          · exact h2.elim
        | false =>
          simp only [hst, Bool.false_eq_true, if_false] at h ⊢
          obtain ⟨n1, d, H1, h1, h2⟩ := opK_ok hf h
          obtain ⟨n2, s, E', g1, g2⟩ := DO_ok ps _ _ _ _ _ _ (hf.put hd1 d) hd2 h2
          refine ⟨max n1 n2, s, E', fun m hm => ?_, g2⟩
          simp only [h1 m (Nat.le_trans (Nat.le_max_left ..) hm), g1 m (Nat.le_trans (Nat.le_max_right ..) hm)]
    · rename_i hw
      simp only [hw, Bool.false_eq_true, if_false]
      cases hc : p.cls with
      | plain =>
        simp only [hc] at h ⊢
        exact DO_ok ps _ _ _ _ _ _ (hf.put hd1 uD) hd2 h
      | reads =>
        simp only [hc] at h ⊢
        exact DO_ok ps _ _ _ _ _ _ (hf.put hd1 uD) hd2 h
      | news =>
        simp only [hc] at h ⊢
        exact DO_ok ps _ _ _ _ _ _ (hf.put hd1 uD) hd2 h
      | acts =>
        simp only [hc, hcur] at h ⊢
        exact DO_ok ps _ _ _ _ _ _ (hf.put hd1 uD) hd2 h
end Go.Aug
namespace Go.Aug
abbrev PostX := Ex → Fr → Heap → Prop
def thenX (k : Fr → Heap → Prop) (Q : PostX) : PostX
  | .normal, E, H => k E H
  | .exit id, E, H => Q (.exit id) E H
  | .ret, E, H => Q .ret E H
def blockX (id : Nat) (Q : PostX) : PostX
  | .normal, E, H => Q .normal E H
  | .exit id', E, H => @gK (Nat.beq id' id) ⟨(Q .normal E H)⟩ ⟨(Q (.exit id') E H)⟩
  | .ret, E, H => Q .ret E H
def LR (b : Fr → Heap → PostX → Prop) (E : Fr) (H : Heap) (Q : PostX) : Prop := ∀ P : Fr → Heap → Prop, (∀ E H, b E H (thenX P Q) → P E H) → P E H
def DX (T : Tab) (news : Nat) (ps : List POp) (E : Fr) (H : Heap) (Q : Fr → Heap → Prop) : Prop :=
  DO T H.next ps E 0 [] [(⟨H.next + news, H.low, H.objs⟩, [])] Q
def rfunX (r : Nat) (E : Fr) (H : Heap) (Q : PostX) : Prop :=
  ∃ over jump e ps a b, H.get r = some (.loop false over jump e ps a b) ∧ Q jump E (H.del r)
def calfK (T : Tab) (f : D) (args : List D) (H : Heap) (k : D → Heap → Prop) : Prop :=
  match f with
  | .fn (.func g) first caps => cK T (.fn g) (first ++ args ++ caps) H k
  | _ => False
theorem calfK_fn (T : Tab) (g : FuncId) (first caps args : List D) (H : Heap) (k : D → Heap → Prop) : calfK T (.fn (.func g) first caps) args H k = cK T (.fn g) (first ++ args ++ caps) H k := rfl
theorem calfK.mono {T : Tab} {f : D} {args : List D} {H : Heap} {k k' : D → Heap → Prop} (h : calfK T f args H k) (hk : ∀ d H', k d H' → k' d H') : calfK T f args H k' := by
  unfold calfK at *
  split at h
  · exact h.mono hk
  · exact h
def RX (n : Nat) (T : Tab) (rd : Option Nat) (f : D) (ps : List Nat) (a b : AC) (E : Fr) (H : Heap) (Q : PostX) : Prop :=
  inRound rd H = true ∧ calfK T f [.yl H.next] (H.add (.loop false false .normal (listX n E) ps a b)) fun _ H' => rfunX H.next E H' Q
def WR (n : Nat) (T : Tab) (rd : Option Nat) : AC → Fr → Heap → PostX → Prop
  | .skip, E, H, Q => Q .normal E H
  | .ret, E, H, Q => Q .ret E H
  | .exit id, E, H, Q => Q (.exit id) E H
  | .seq a b, E, H, Q => WR n T rd a E H (thenX (fun E' H' => WR n T rd b E' H' Q) Q)
  | .cond c a b, E, H, Q => @bK (rX E c) ⟨(WR n T rd a E H Q)⟩ ⟨(WR n T rd b E H Q)⟩
  | .block id b, E, H, Q => WR n T rd b E H (blockX id Q)
  | .loop b, E, H, Q => LR (WR n T rd b) E H Q
  | .reg ps, E, H, Q => WO T ps E H fun E' H' => Q .normal E' H'
  | .dreg news ps, E, H, Q => DX T news ps E H fun E' H' => Q .normal E' H'
  | .rfun f ps a b, E, H, Q => RX n T rd (rX E f) ps a b E H Q
  | .bad, _, _, _ => False
theorem thenX_mono {k k' : Fr → Heap → Prop} {Q Q' : PostX} (hk : ∀ E H, k E H → k' E H) (hq : ∀ x E H, Q x E H → Q' x E H) : ∀ x E H, thenX k Q x E H → thenX k' Q' x E H
  | .normal, _, _, h => hk _ _ h
  | .exit _, _, _, h => hq _ _ _ h
  | .ret, _, _, h => hq _ _ _ h
theorem blockX_mono {id : Nat} {Q Q' : PostX} (hq : ∀ x E H, Q x E H → Q' x E H) : ∀ x E H, blockX id Q x E H → blockX id Q' x E H
  | .normal, _, _, h => hq _ _ _ h
  | .exit _, _, _, h => gK.mono h (hq _ _ _) (hq _ _ _)
  | .ret, _, _, h => hq _ _ _ h
def Mono (b : Fr → Heap → PostX → Prop) : Prop := ∀ E H (Q Q' : PostX), b E H Q → (∀ x E H, Q x E H → Q' x E H) → b E H Q'
theorem LR.mono {b : Fr → Heap → PostX → Prop} (hb : Mono b) {E : Fr} {H : Heap} {Q Q' : PostX} (h : LR b E H Q) (hq : ∀ x E H, Q x E H → Q' x E H) : LR b E H Q' :=
  fun P hP => h P fun E H h' => hP E H (hb E H _ _ h' (thenX_mono (fun _ _ h => h) hq))
theorem LR_step {b : Fr → Heap → PostX → Prop} (hb : Mono b) {Q : PostX} {E : Fr} {H : Heap} (h : b E H (thenX (fun E' H' => LR b E' H' Q) Q)) : LR b E H Q :=
  fun P hP => hP E H (hb E H _ _ h (thenX_mono (fun _ _ h => h P hP) fun _ _ _ h => h))
theorem WR_mono {n : Nat} {T : Tab} {rd : Option Nat} : ∀ c, Mono (WR n T rd c)
  | .skip, _, _, _, _, h, hq => hq _ _ _ h
  | .ret, _, _, _, _, h, hq => hq _ _ _ h
  | .exit _, _, _, _, _, h, hq => hq _ _ _ h
  | .seq a b, E, H, _Q, _Q', h, hq => WR_mono a E H _ _ h (thenX_mono (fun E H h => WR_mono b E H _ _ h hq) hq)
  | .cond _c a b, E, H, _Q, _Q', h, hq => bK.mono h (fun h => WR_mono a E H _ _ h hq) (fun h => WR_mono b E H _ _ h hq)
  | .block _id b, E, H, _Q, _Q', h, hq => WR_mono b E H _ _ h (blockX_mono hq)
  | .loop b, _E, _H, _Q, _Q', h, hq => LR.mono (WR_mono b) h hq
  | .reg _ps, _E, _H, _Q, _Q', h, hq => WO.mono h fun E H h => hq _ E H h
  | .dreg _news _ps, _E, _H, _Q, _Q', h, hq => DO.mono h fun E H h => hq _ E H h
  | .rfun _f _ps _a _b, _E, _H, _Q, _Q', h, hq => ⟨h.1, h.2.mono fun _ _ h => let ⟨o, j, e, p, a, b, h1, h2⟩ := h; ⟨o, j, e, p, a, b, h1, hq _ _ _ h2⟩⟩
  | .bad, _, _, _, _, h, _ => h
theorem LR_rule {b : Fr → Heap → PostX → Prop} (hb : Mono b) {Q : PostX} (I : Nat → Fr → Heap → Prop) (hs : ∀ j E H, I j E H → b E H (thenX (fun E' H' => ∃ j', j' < j ∧ I j' E' H') Q)) {j : Nat} {E : Fr} {H : Heap} (h : I j E H) : LR b E H Q := by
  suffices ∀ k j, j < k → ∀ E H, I j E H → LR b E H Q from this (j + 1) j (by omega) E H h
  intro k
  induction k with
  | zero => intro j hj; omega
  | succ k ih =>
    intro j hj E H h
    exact LR_step hb (hb E H _ _ (hs j E H h) (thenX_mono (fun E' H' ⟨j', h1, h2⟩ => ih j' (by omega) E' H' h2) fun _ _ _ h => h))
def codeOk (n : Nat) : AC → Bool
  | .seq a b => codeOk n a && codeOk n b
  | .cond _ a b => codeOk n a && codeOk n b
  | .block _ b => codeOk n b
  | .loop b => codeOk n b
  | .reg ps => dstOk n ps
  | .dreg _ ps => dstOk n ps
  | _ => true
theorem LR_ok {n : Nat} {b : Fr → Heap → PostX → Prop} {b' : Nat → Env → Heap → Option St}
    (hb : ∀ E H Q e, Fits n E e → b E H Q → ∃ n0 x E' e' H', (∀ m, n0 ≤ m → b' m e H = some (x, e', H')) ∧ Fits n E' e' ∧ Q x E' H') (E : Fr) (H : Heap) (Q : PostX) (e : Env) (hf : Fits n E e) (h : LR b E H Q) :
      ∃ n0 x E' e' H', (∀ m j, n0 ≤ m → n0 ≤ j → evLoop (b' m) j e H = some (x, e', H')) ∧ Fits n E' e' ∧ Q x E' H' := by
  refine h (fun E H => ∀ e, Fits n E e → ∃ n0 x E' e' H', (∀ m j, n0 ≤ m → n0 ≤ j → evLoop (b' m) j e H = some (x, e', H')) ∧ Fits n E' e' ∧ Q x E' H') ?_ e hf
  intro E H h e hf
  obtain ⟨n1, x, E1, e1, H1, h1, h2, h3⟩ := hb E H _ e hf h
  have step : ∀ j, n1 + 1 ≤ j → ∃ i, j = i + 1 := fun j hj => ⟨j - 1, by omega⟩
  cases x with
  | normal =>
    obtain ⟨n2, y, E2, e2, H2, g1, g2⟩ := h3 e1 h2
    refine ⟨max (n1 + 1) (n2 + 1), y, E2, e2, H2, fun m j hm hj => ?_, g2⟩
    have a1 := Nat.le_max_left (n1 + 1) (n2 + 1)
    have a2 := Nat.le_max_right (n1 + 1) (n2 + 1)
    obtain ⟨i, rfl⟩ := step j (by omega)
    simp only [evLoop, h1 m (by omega), g1 m i (by omega) (by omega)]
  | exit id =>
    refine ⟨n1 + 1, _, E1, e1, H1, fun m j hm hj => ?_, h2, h3⟩
    obtain ⟨i, rfl⟩ := step j hj
    simp only [evLoop, h1 m (by omega)]
  | ret =>
    refine ⟨n1 + 1, _, E1, e1, H1, fun m j hm hj => ?_, h2, h3⟩
    obtain ⟨i, rfl⟩ := step j hj
    simp only [evLoop, h1 m (by omega)]
theorem WR_ok {n : Nat} {T : Tab} {rd : Option Nat} : ∀ (c : AC) (E : Fr) (H : Heap) (Q : PostX) (e : Env), codeOk n c = true → Fits n E e → WR n T rd c E H Q →
    ∃ n0 x E' e' H', (∀ m, n0 ≤ m → evC (ev T m) m rd c e H = some (x, e', H')) ∧ Fits n E' e' ∧ Q x E' H'
  | .skip, E, H, Q, e, _, hf, h => ⟨0, .normal, E, e, H, fun _ _ => rfl, hf, h⟩
  | .ret, E, H, Q, e, _, hf, h => ⟨0, .ret, E, e, H, fun _ _ => rfl, hf, h⟩
  | .exit id, E, H, Q, e, _, hf, h => ⟨0, .exit id, E, e, H, fun _ _ => rfl, hf, h⟩
  | .seq a b, E, H, Q, e, hc, hf, h => by
    simp only [codeOk, Bool.and_eq_true] at hc
    obtain ⟨n1, x, E1, e1, H1, h1, h2, h3⟩ := WR_ok a E H _ e hc.1 hf h
    cases x with
    | normal =>
      obtain ⟨n2, y, E2, e2, H2, g1, g2⟩ := WR_ok b E1 H1 Q e1 hc.2 h2 h3
      refine ⟨max n1 n2, y, E2, e2, H2, fun m hm => ?_, g2⟩
      simp only [evC, h1 m (Nat.le_trans (Nat.le_max_left ..) hm), g1 m (Nat.le_trans (Nat.le_max_right ..) hm)]
    | exit id => exact ⟨n1, _, E1, e1, H1, fun m hm => by simp only [evC, h1 m hm], h2, h3⟩
    | ret => exact ⟨n1, _, E1, e1, H1, fun m hm => by simp only [evC, h1 m hm], h2, h3⟩
  | .cond c a b, E, H, Q, e, hc, hf, h => by
    simp only [codeOk, Bool.and_eq_true] at hc
    obtain ⟨t, h1, h2⟩ := h
    simp only [evC, hf.eval, h1]
    cases t with
    | true => rw [gK_true] at h2; simpa using WR_ok a E H Q e hc.1 hf h2
    | false => rw [gK_false] at h2; simpa using WR_ok b E H Q e hc.2 hf h2
  | .block id b, E, H, Q, e, hc, hf, h => by
    simp only [codeOk] at hc
    obtain ⟨n1, x, E1, e1, H1, h1, h2, h3⟩ := WR_ok b E H _ e hc hf h
    cases x with
    | normal => exact ⟨n1, _, E1, e1, H1, fun m hm => by simp only [evC, h1 m hm], h2, h3⟩
    | exit id' =>
      simp only [blockX, gK] at h3
      split at h3
      · rename_i hb
        have hid : id' = id := Nat.eq_of_beq_eq_true hb
        exact ⟨n1, _, E1, e1, H1, fun m hm => by simp only [evC, h1 m hm, hid, if_true], h2, h3⟩
      · rename_i hb
        have hid : ¬ id' = id := fun e => hb (by rw [e]; exact Nat.beq_refl id)
        exact ⟨n1, _, E1, e1, H1, fun m hm => by simp only [evC, h1 m hm, hid, if_false], h2, h3⟩
    | ret => exact ⟨n1, _, E1, e1, H1, fun m hm => by simp only [evC, h1 m hm], h2, h3⟩
  | .loop b, E, H, Q, e, hc, hf, h => by
    simp only [codeOk] at hc
    obtain ⟨n1, x, E1, e1, H1, h1, h2⟩ := LR_ok (b' := fun m => evC (ev T m) m rd b) (fun E H Q e hf h => WR_ok b E H Q e hc hf h) E H Q e hf h
    exact ⟨n1, x, E1, e1, H1, fun m hm => by simp only [evC]; exact h1 m m hm hm, h2⟩
  | .reg ps, E, H, Q, e, hc, hf, h => by
    obtain ⟨n1, E', e', H', h1, h2, h3⟩ := WO_ok ps E H _ e hf hc h
    exact ⟨n1, .normal, E', e', H', fun m hm => by simp only [evC, h1 m hm, Option.map_some], h2, h3⟩
  | .dreg news ps, E, H, Q, e, hc, hf, h => by
    obtain ⟨n1, s, E', h1, h2, h3⟩ := DO_ok ps E 0 [] _ _ e hf hc h
    exact ⟨n1, .normal, E', _, _, fun m hm => by simp only [evC, evDreg, h1 m hm, Option.map_some], h2, h3⟩
  | .rfun f ps a b, E, H, Q, e, hc, hf, h => by
    obtain ⟨hin, h⟩ := h
    rw [hf.list] at h
    unfold calfK at h
    split at h
    · rename_i g first caps hfn
      obtain ⟨d, H', ⟨n1, h1⟩, over, jump, e2, p2, a2, b2, g1, g2⟩ := h
      refine ⟨n1, jump, E, e, _, fun m hm => ?_, hf, g2⟩
      simp only [evC, hf.eval, hfn, hin, if_true, h1 m hm, g1]
    · exact h.elim
  | .bad, E, H, Q, e, _, _, h => h.elim
def argX : List D → Fr
  | [], _ => uD
  | d :: _, 0 => d
  | _ :: l, i + 1 => argX l i
theorem argX_get : ∀ (args : List D) (k i : Nat), argX args i = Env.get (args ++ List.replicate k uD) i
  | [], k, i => by
    simp only [argX, List.nil_append, Env.get]
    by_cases h : i < k <;> simp [h]
  | d :: l, k, 0 => rfl
  | d :: l, k, i + 1 => by
    have := argX_get l k i
    simp only [argX, this, Env.get, List.cons_append, List.getElem?_cons_succ]
theorem fits_args (args : List D) (n : Nat) (h : args.length ≤ n) : Fits n (argX args) (args ++ List.replicate (n - args.length) uD) :=
  ⟨by simp; omega, argX_get args _⟩
def resX (E : Fr) (H : Heap) : RV → Option D
  | .tmp t => some (E t)
  | .cell t k => evLoad H k (E t)
def ressX (E : Fr) (H : Heap) : List RV → Option (List D)
  | [] => some []
  | r :: l => match resX E H r, ressX E H l with
    | some d, some ds => some (d :: ds)
    | _, _ => none
theorem Fits.res {n : Nat} {E : Fr} {e : Env} (h : Fits n E e) (H : Heap) : ∀ l, evRVs e H l = ressX E H l
  | [] => rfl
  | r :: l => by
    have hr : evRV e H r = resX E H r := by cases r <;> simp [evRV, resX, h.get]
    simp only [evRVs, ressX, hr, h.res H l]
    cases resX E H r <;> cases ressX E H l <;> rfl
def finX (fz : Bool) (H : Heap) (d : D) (H' : Heap) (R : D → Heap → Prop) : Prop := R (leaveF fz H d H').1 (leaveF fz H d H').2
def endX (fz : Bool) (rs : List RV) (H : Heap) (R : D → Heap → Prop) : PostX
  | .normal, E, H' => oK (ressX E H' rs) fun ds => finX fz H (resOf ds) H' R
  | .exit _, _, _ => False
  | .ret, E, H' => oK (ressX E H' rs) fun ds => finX fz H (resOf ds) H' R
theorem cK_fn {T : Tab} {f : FuncId} {fi : FI} {args : List D} {H : Heap} {R : D → Heap → Prop} (ho : T.orc f = none) (hT : T.fn f = some fi) (hl : args.length ≤ fi.ntmps) (hc : codeOk fi.ntmps fi.code = true)
    (h : WR fi.ntmps T none fi.code (argX args) (low0 H) (endX (T.fz f) fi.results H R)) : cK T (.fn f) args H R := by
  obtain ⟨n1, x, E', e', H', h1, h2, h3⟩ := WR_ok fi.code _ _ _ _ hc (fits_args args fi.ntmps hl) h
  have fin : ∀ ds, ressX E' H' fi.results = some ds → (∀ id, x ≠ .exit id) → ∃ n, ∀ m, n ≤ m → ev T m (.fn f) args H = some (leaveF (T.fz f) H (resOf ds) H') := by
    intro ds hds hx
    refine ⟨n1 + 1, fun m hm => ?_⟩
    obtain ⟨i, rfl⟩ : ∃ i, m = i + 1 := ⟨m - 1, by omega⟩
    simp only [ev, ho, hT, evBody]
    have := h1 i (by omega)
    unfold low0 at this
    rw [this]
    cases x with
    | exit id => exact absurd rfl (hx id)
    | normal => simp only [h2.res, hds]
    | ret => simp only [h2.res, hds]
  cases x with
  | exit id => exact h3.elim
  | normal =>
    obtain ⟨ds, h4, h5⟩ := h3
    exact ⟨_, _, fin ds h4 (fun _ h => by cases h), h5⟩
  | ret =>
    obtain ⟨ds, h4, h5⟩ := h3
    exact ⟨_, _, fin ds h4 (fun _ h => by cases h), h5⟩
theorem cK_orc {T : Tab} {f : FuncId} {g : List D → Heap → Option (D × Heap)} {args : List D} {H : Heap} {R : D → Heap → Prop} (ho : T.orc f = some g) (h : oK (g args H) fun r => R r.1 r.2) : cK T (.fn f) args H R := by
  obtain ⟨⟨d, H'⟩, h1, h2⟩ := h
  refine ⟨d, H', ⟨1, fun m hm => ?_⟩, h2⟩
  obtain ⟨i, rfl⟩ : ∃ i, m = i + 1 := ⟨m - 1, by omega⟩
  simp only [ev, ho, h1]
def putsX (E : Fr) : List Nat → List D → Fr
  | i :: l, d :: ds => putsX (upd E i d) l ds
  | _, _ => E
theorem Fits.puts {n : Nat} : ∀ (ps : List Nat) (ds : List D) (E : Fr) (e : Env), Fits n E e → (ps.all fun i => decide (i < n)) = true → Fits n (putsX E ps ds) ((ps.zip ds).foldl (fun e p => e.set p.1 p.2) e)
  | [], _, _, _, h, _ => h
  | _ :: _, [], _, _, h, _ => h
  | i :: ps, d :: ds, E, e, h, hp => by
    simp only [List.all_cons, Bool.and_eq_true, decide_eq_true_eq] at hp
    exact Fits.puts ps ds (upd E i d) (e.set i d) (h.put (dst := some i) (fun j hj => by cases hj; exact hp.1) d) hp.2
def roundX (r : Nat) (R : D → Heap → Prop) : PostX := fun x _ H =>
  ∃ busy over jump e ps a b, H.get r = some (.loop busy over jump e ps a b) ∧
    match x with
    | .normal => R (.v (.bool true)) (H.set r (.loop false false .normal e ps a b))
    | .exit id => R (.v (.bool false)) (H.set r (.loop false true (.exit id) e ps a b))
    | .ret => R (.v (.bool false)) (H.set r (.loop false true .ret e ps a b))
def assignX (n : Nat) (T : Tab) (r : Nat) (body : AC) (R : D → Heap → Prop) : PostX := fun x E H =>
  x = .normal ∧ ∃ jump e ps a b, H.get r = some (.loop false false jump e ps a b) ∧ WR n T (some r) body E (H.set r (.loop true false jump e ps a b)) (roundX r R)
theorem cK_yl {n : Nat} {T : Tab} {r : Nat} {args : List D} {H : Heap} {R : D → Heap → Prop} {E : Fr} {jump : Ex} {ps : List Nat} {a b : AC} {e : Env} (hg : H.get r = some (.loop false false jump e ps a b)) (he : Fits n E e)
    (hl : ps.length = args.length) (hp : (ps.all fun i => decide (i < n)) = true) (ha : codeOk n a = true) (hb : codeOk n b = true) (h : WR n T (some r) a (putsX E ps args) H (assignX n T r b R)) : cK T (.yl r) args H R := by
  obtain ⟨n1, x, E1, e1, H1, h1, h2, rfl, j1, e1', p1, a1, b1, g1, h3⟩ := WR_ok a _ _ _ _ ha (Fits.puts ps args E e he hp) h
  obtain ⟨n2, y, E2, e2, H2, k1, k2, bz, ov, j2, e3, p3, a3, b3, k3, k4⟩ := WR_ok b _ _ _ _ hb h2 h3
  have run : ∀ d H', (match y with
      | .normal => some (D.v (.bool true), H2.set r (.loop false false .normal e3 p3 a3 b3))
      | x => some (D.v (.bool false), H2.set r (.loop false true x e3 p3 a3 b3))) = some (d, H') → Run T (.yl r) args H d H' := by
    intro d H' hd
    refine ⟨max (n1 + 1) (n2 + 1), fun m hm => ?_⟩
    have m1 := Nat.le_max_left (n1 + 1) (n2 + 1)
    have m2 := Nat.le_max_right (n1 + 1) (n2 + 1)
    obtain ⟨i, rfl⟩ : ∃ i, m = i + 1 := ⟨m - 1, by omega⟩
    simp only [ev, evRound, hg, hl, beq_self_eq_true, if_true, h1 i (by omega), g1, k1 i (by omega), k3]
    exact hd
  cases y with
  | normal => exact ⟨_, _, run _ _ rfl, k4⟩
  | exit id => exact ⟨_, _, run _ _ rfl, k4⟩
  | ret => exact ⟨_, _, run _ _ rfl, k4⟩
theorem fits_list (n : Nat) (E : Fr) : Fits n (fun i => if i < n then E i else uD) (listX n E) := by
  refine ⟨by simp [listX], fun i => ?_⟩
  unfold Env.get listX
  by_cases hi : i < n <;> simp [hi]
theorem RX_of {n : Nat} {T : Tab} {rd : Option Nat} {g : FuncId} {first caps : List D} {ps : List Nat} {a b : AC} {E : Fr} {H : Heap} {Q : PostX} (hin : inRound rd H = true)
    (h : ∀ e, Fits n (fun i => if i < n then E i else uD) e → cK T (.fn g) (first ++ [.yl H.next] ++ caps) (H.add (.loop false false .normal e ps a b)) fun _ H' => rfunX H.next E H' Q) : RX n T rd (.fn (.func g) first caps) ps a b E H Q :=
  ⟨hin, h _ (fits_list n E)⟩
end Go.Aug
namespace Go.Aug
abbrev i64D (n : Int) : D := .v (.int .i64 n)
abbrev strD (s : ByteArray) : D := .v (.string s)
abbrev bD (b : Bool) : D := .v (.bool b)
theorem WO_nil (T : Tab) (E : Fr) (H : Heap) (Q : Fr → Heap → Prop) : WO T [] E H Q = Q E H := Eq.trans rfl rfl
theorem WO_put (T : Tab) (i : Nat) (op : AOp) (c : Cls) (a : List Nat) (l : Nat) (s : Bool) (ps : List POp) (E : Fr) (H : Heap) (Q : Fr → Heap → Prop) :
    WO T (⟨some i, op, none, c, a, l, s⟩ :: ps) E H Q = opK T E H op fun d H' => WO T ps (upd E i d) H' Q := by simp only [WO, saysX, gK_true, putX]
theorem WO_do (T : Tab) (op : AOp) (c : Cls) (a : List Nat) (l : Nat) (s : Bool) (ps : List POp) (E : Fr) (H : Heap) (Q : Fr → Heap → Prop) :
    WO T (⟨none, op, none, c, a, l, s⟩ :: ps) E H Q = opK T E H op fun _ H' => WO T ps E H' Q := by simp only [WO, saysX, gK_true, putX]
theorem says_bool (b c : Bool) : (D.v (.bool c)).says b = (c == b) := Eq.trans rfl rfl
theorem says_uD (b : Bool) : uD.says b = false := Eq.trans rfl rfl
theorem argX_zero (d : D) (l : List D) : argX (d :: l) 0 = d := Eq.trans rfl rfl
theorem argX_succ (d : D) (l : List D) (i : Nat) : argX (d :: l) (i + 1) = argX l i := Eq.trans rfl rfl
theorem argX_nil (i : Nat) : argX [] i = uD := Eq.trans rfl rfl
theorem thenX_normal (k : Fr → Heap → Prop) (Q : PostX) (E : Fr) (H : Heap) : thenX k Q .normal E H = k E H := Eq.trans rfl rfl
theorem thenX_exit (k : Fr → Heap → Prop) (Q : PostX) (id : Nat) (E : Fr) (H : Heap) : thenX k Q (.exit id) E H = Q (.exit id) E H := Eq.trans rfl rfl
theorem thenX_ret (k : Fr → Heap → Prop) (Q : PostX) (E : Fr) (H : Heap) : thenX k Q .ret E H = Q .ret E H := Eq.trans rfl rfl
theorem blockX_normal (id : Nat) (Q : PostX) (E : Fr) (H : Heap) : blockX id Q .normal E H = Q .normal E H := Eq.trans rfl rfl
theorem blockX_exit (id i : Nat) (Q : PostX) (E : Fr) (H : Heap) : blockX id Q (.exit i) E H = @gK (Nat.beq i id) ⟨(Q .normal E H)⟩ ⟨(Q (.exit i) E H)⟩ := Eq.trans rfl rfl
theorem blockX_ret (id : Nat) (Q : PostX) (E : Fr) (H : Heap) : blockX id Q .ret E H = Q .ret E H := Eq.trans rfl rfl
theorem endX_normal (fz : Bool) (rs : List RV) (H : Heap) (R : D → Heap → Prop) (E : Fr) (H' : Heap) : endX fz rs H R .normal E H' = oK (ressX E H' rs) fun ds => finX fz H (resOf ds) H' R := Eq.trans rfl rfl
theorem endX_ret (fz : Bool) (rs : List RV) (H : Heap) (R : D → Heap → Prop) (E : Fr) (H' : Heap) : endX fz rs H R .ret E H' = oK (ressX E H' rs) fun ds => finX fz H (resOf ds) H' R := Eq.trans rfl rfl
theorem WR_skip (n : Nat) (T : Tab) (rd : Option Nat) (E : Fr) (H : Heap) (Q : PostX) : WR n T rd .skip E H Q = Q .normal E H := Eq.trans rfl rfl
theorem WR_ret (n : Nat) (T : Tab) (rd : Option Nat) (E : Fr) (H : Heap) (Q : PostX) : WR n T rd .ret E H Q = Q .ret E H := Eq.trans rfl rfl
theorem WR_exit (n : Nat) (T : Tab) (rd : Option Nat) (id : Nat) (E : Fr) (H : Heap) (Q : PostX) : WR n T rd (.exit id) E H Q = Q (.exit id) E H := Eq.trans rfl rfl
theorem WR_seq (n : Nat) (T : Tab) (rd : Option Nat) (a b : AC) (E : Fr) (H : Heap) (Q : PostX) : WR n T rd (.seq a b) E H Q = WR n T rd a E H (thenX (fun E' H' => WR n T rd b E' H' Q) Q) := Eq.trans rfl rfl
theorem WR_cond (n : Nat) (T : Tab) (rd : Option Nat) (c : Rand) (a b : AC) (E : Fr) (H : Heap) (Q : PostX) : WR n T rd (.cond c a b) E H Q = @bK (rX E c) ⟨(WR n T rd a E H Q)⟩ ⟨(WR n T rd b E H Q)⟩ := Eq.trans rfl rfl
theorem WR_block (n : Nat) (T : Tab) (rd : Option Nat) (id : Nat) (b : AC) (E : Fr) (H : Heap) (Q : PostX) : WR n T rd (.block id b) E H Q = WR n T rd b E H (blockX id Q) := Eq.trans rfl rfl
theorem WR_loop (n : Nat) (T : Tab) (rd : Option Nat) (b : AC) (E : Fr) (H : Heap) (Q : PostX) : WR n T rd (.loop b) E H Q = LR (WR n T rd b) E H Q := Eq.trans rfl rfl
theorem WR_reg (n : Nat) (T : Tab) (rd : Option Nat) (ps : List POp) (E : Fr) (H : Heap) (Q : PostX) : WR n T rd (.reg ps) E H Q = WO T ps E H fun E' H' => Q .normal E' H' := Eq.trans rfl rfl
theorem WR_dreg (n : Nat) (T : Tab) (rd : Option Nat) (news : Nat) (ps : List POp) (E : Fr) (H : Heap) (Q : PostX) : WR n T rd (.dreg news ps) E H Q = DX T news ps E H fun E' H' => Q .normal E' H' := Eq.trans rfl rfl
theorem WR_rfun (n : Nat) (T : Tab) (rd : Option Nat) (f : Rand) (ps : List Nat) (a b : AC) (E : Fr) (H : Heap) (Q : PostX) : WR n T rd (.rfun f ps a b) E H Q = RX n T rd (rX E f) ps a b E H Q := Eq.trans rfl rfl
def bump (H : Heap) (n : Nat) : Heap := ⟨H.next + n, H.low, H.objs⟩
def layIn (H : Heap) (r : Nat) (o : O) : Heap := ⟨H.next, H.low, (r, o) :: H.objs⟩
def layAll (H : Heap) : PendX → Heap
  | [] => H
  | p :: l => layIn (layAll H l) p.1 p.2
def relow (H : Heap) (l : Nat) : Heap := ⟨H.next, l, H.objs⟩
theorem layAll_objs (H : Heap) : ∀ l : PendX, layAll H l = ⟨H.next, H.low, l ++ H.objs⟩
  | [] => by simp [layAll]
  | p :: l => by simp [layAll, layAll_objs H l, layIn]
theorem bump_zero (H : Heap) : bump H 0 = H := by simp [bump]
theorem relow_low0 (H : Heap) (l : Nat) (h : H.low = l) : relow (low0 H) l = H := by subst h; simp [relow, low0]
theorem get_bump (H : Heap) (n r : Nat) : (bump H n).get r = H.get r := Eq.trans rfl rfl
theorem next_bump (H : Heap) (n : Nat) : (bump H n).next = H.next + n := Eq.trans rfl rfl
theorem low_bump (H : Heap) (n : Nat) : (bump H n).low = H.low := Eq.trans rfl rfl
theorem get_relow (H : Heap) (n r : Nat) : (relow H n).get r = H.get r := Eq.trans rfl rfl
theorem next_relow (H : Heap) (n : Nat) : (relow H n).next = H.next := Eq.trans rfl rfl
theorem low_relow (H : Heap) (n : Nat) : (relow H n).low = n := Eq.trans rfl rfl
theorem next_layIn (H : Heap) (r : Nat) (o : O) : (layIn H r o).next = H.next := Eq.trans rfl rfl
theorem low_layIn (H : Heap) (r : Nat) (o : O) : (layIn H r o).low = H.low := Eq.trans rfl rfl
theorem get_layIn (H : Heap) (r : Nat) (o : O) (q : Nat) : (layIn H r o).get q = if q = r then some o else H.get q := by simp only [Heap.get, layIn, look, beq_iff_eq]
theorem DX_eq (T : Tab) (news : Nat) (ps : List POp) (E : Fr) (H : Heap) (Q : Fr → Heap → Prop) : DX T news ps E H Q = DO T H.next ps E 0 [] [(bump H news, [])] Q := Eq.trans rfl rfl
theorem DO_nil (T : Tab) (base : Nat) (E : Fr) (rank : Nat) (pend : PendX) (Hs : ChainX) (Q : Fr → Heap → Prop) : DO T base [] E rank pend Hs Q = Q E (endC Hs pend base) := Eq.trans rfl rfl
theorem DO_plain (T : Tab) (base i : Nat) (op : AOp) (a : List Nat) (l : Nat) (s : Bool) (ps : List POp) (E : Fr) (rank : Nat) (pend : PendX) (Hs : ChainX) (Q : Fr → Heap → Prop) :
    DO T base (⟨some i, op, none, .plain, a, l, s⟩ :: ps) E rank pend Hs Q = opK T E (topC Hs).1 op fun d _ => DO T base ps (upd E i d) rank pend Hs Q := by simp only [DO, saysX, gK_true, putX]
theorem DO_reads (T : Tab) (base i : Nat) (op : AOp) (a : List Nat) (l : Nat) (s : Bool) (ps : List POp) (E : Fr) (rank : Nat) (pend : PendX) (Hs : ChainX) (Q : Fr → Heap → Prop) :
    DO T base (⟨some i, op, none, .reads, a, l, s⟩ :: ps) E rank pend Hs Q = opK T E (wake base a pend (atC Hs l).2 (atC Hs l).1) op fun d _ => DO T base ps (upd E i d) rank pend Hs Q := by simp only [DO, saysX, gK_true, putX]
theorem DO_news (T : Tab) (base i : Nat) (op : AOp) (a : List Nat) (l : Nat) (s : Bool) (ps : List POp) (E : Fr) (rank : Nat) (pend : PendX) (Hs : ChainX) (Q : Fr → Heap → Prop) :
    DO T base (⟨some i, op, none, .news, a, l, s⟩ :: ps) E rank pend Hs Q = opK T E ⟨base + rank, 0, []⟩ op fun d H' => oK (newX H') fun o => DO T base ps (upd E i d) (rank + 1) ((base + rank, o) :: pend) Hs Q := by simp only [DO, saysX, gK_true, putX]
theorem DO_acts (T : Tab) (base i : Nat) (op : AOp) (a : List Nat) (l : Nat) (ps : List POp) (E : Fr) (rank : Nat) (pend : PendX) (Hs : ChainX) (Q : Fr → Heap → Prop) :
    DO T base (⟨some i, op, none, .acts, a, l, false⟩ :: ps) E rank pend Hs Q = opK T E (wake base a pend (topC Hs).2 (topC Hs).1) op fun d H' => DO T base ps (upd E i d) rank pend ((H', a ++ (topC Hs).2) :: Hs) Q := by simp only [DO, saysX, gK_true, putX]
theorem DO_gplain (T : Tab) (base i : Nat) (op : AOp) (t : Nat) (b : Bool) (a : List Nat) (l : Nat) (s : Bool) (ps : List POp) (E : Fr) (rank : Nat) (pend : PendX) (Hs : ChainX) (Q : Fr → Heap → Prop) :
    DO T base (⟨some i, op, some (t, b), .plain, a, l, s⟩ :: ps) E rank pend Hs Q = @gK ((E t).says b) ⟨opK T E (topC Hs).1 op fun d _ => DO T base ps (upd E i d) rank pend Hs Q⟩ ⟨DO T base ps (upd E i uD) rank pend Hs Q⟩ := by simp only [DO, saysX]; rfl
theorem DO_greads (T : Tab) (base i : Nat) (op : AOp) (t : Nat) (b : Bool) (a : List Nat) (l : Nat) (s : Bool) (ps : List POp) (E : Fr) (rank : Nat) (pend : PendX) (Hs : ChainX) (Q : Fr → Heap → Prop) :
    DO T base (⟨some i, op, some (t, b), .reads, a, l, s⟩ :: ps) E rank pend Hs Q = @gK ((E t).says b) ⟨opK T E (wake base a pend (atC Hs l).2 (atC Hs l).1) op fun d _ => DO T base ps (upd E i d) rank pend Hs Q⟩ ⟨DO T base ps (upd E i uD) rank pend Hs Q⟩ := by simp only [DO, saysX]; rfl
theorem DO_gacts (T : Tab) (base i : Nat) (op : AOp) (t : Nat) (b : Bool) (a : List Nat) (l : Nat) (ps : List POp) (E : Fr) (rank : Nat) (pend : PendX) (Hs : ChainX) (Q : Fr → Heap → Prop) :
    DO T base (⟨some i, op, some (t, b), .acts, a, l, false⟩ :: ps) E rank pend Hs Q = @gK ((E t).says b) ⟨opK T E (wake base a pend (topC Hs).2 (topC Hs).1) op fun d H' => DO T base ps (upd E i d) rank pend ((H', a ++ (topC Hs).2) :: Hs) Q⟩
      ⟨DO T base ps (upd E i uD) rank pend (topC Hs :: Hs) Q⟩ := by simp only [DO, saysX]; rfl
theorem DO_actsD (T : Tab) (base : Nat) (op : AOp) (a : List Nat) (l : Nat) (ps : List POp) (E : Fr) (rank : Nat) (pend : PendX) (Hs : ChainX) (Q : Fr → Heap → Prop) :
    DO T base (⟨none, op, none, .acts, a, l, false⟩ :: ps) E rank pend Hs Q = opK T E (wake base a pend (topC Hs).2 (topC Hs).1) op fun _ H' => DO T base ps E rank pend ((H', a ++ (topC Hs).2) :: Hs) Q := by simp only [DO, saysX, gK_true, putX]
theorem DO_still (T : Tab) (base i : Nat) (op : AOp) (a : List Nat) (l : Nat) (ps : List POp) (E : Fr) (rank : Nat) (pend : PendX) (Hs : ChainX) (Q : Fr → Heap → Prop) :
    DO T base (⟨some i, op, none, .acts, a, l, true⟩ :: ps) E rank pend Hs Q = opK T E (low0 (wake base a pend (topC Hs).2 (topC Hs).1)) op fun d H' =>
      @gK (decide (stillLim l (atC Hs 0).1.next (wake base a pend (topC Hs).2 (topC Hs).1).next ≤ H'.low)) ⟨DO T base ps (upd E i d) rank pend ((relow H' (wake base a pend (topC Hs).2 (topC Hs).1).low, a ++ (topC Hs).2) :: Hs) Q⟩ ⟨False⟩ := by simp only [DO, saysX, gK_true]; rfl
theorem lim_one (a b : Nat) : stillLim 1 a b = a := rfl
theorem lim_zero (a b : Nat) : stillLim 0 a b = b := rfl
theorem topC_cons (x : Heap × List Nat) (l : ChainX) : topC (x :: l) = x := Eq.trans rfl rfl
theorem wake_nil (base : Nat) (pend : PendX) (on : List Nat) (H : Heap) : wake base [] pend on H = H := Eq.trans rfl rfl
theorem wake_cons (base k : Nat) (rest : List Nat) (pend : PendX) (on : List Nat) (H : Heap) : wake base (k :: rest) pend on H = if on.contains k then wake base rest pend on H else
    match look pend (base + k) with
    | some o => wake base rest pend (k :: on) (layIn H (base + k) o)
    | none => wake base rest pend on H := Eq.trans rfl rfl
theorem look_cons (k : Nat) (o : O) (l : PendX) (r : Nat) : look ((k, o) :: l) r = if r = k then some o else look l r := by simp only [look, beq_iff_eq]
theorem look_nil (r : Nat) : look [] r = none := Eq.trans rfl rfl
theorem atC_eq (Hs : ChainX) (n : Nat) : atC Hs n = (Hs[Hs.length - 1 - n]?).getD default := Eq.trans rfl rfl
theorem endC_eq (Hs : ChainX) (pend : PendX) (base : Nat) : endC Hs pend base = layAll (topC Hs).1 (pend.filter (fun p => !(topC Hs).2.contains (p.1 - base))) := by rw [layAll_objs]; rfl
theorem layAll_nil (H : Heap) : layAll H [] = H := Eq.trans rfl rfl
theorem layAll_cons (H : Heap) (p : Nat × O) (l : PendX) : layAll H (p :: l) = layIn (layAll H l) p.1 p.2 := Eq.trans rfl rfl
theorem newX_add (b : Nat) (o : O) : newX ((⟨b, 0, []⟩ : Heap).add o) = some o := Eq.trans rfl rfl
theorem putsX_cons (E : Fr) (i : Nat) (l : List Nat) (d : D) (ds : List D) : putsX E (i :: l) (d :: ds) = putsX (upd E i d) l ds := Eq.trans rfl rfl
theorem putsX_nil (E : Fr) (ds : List D) : putsX E [] ds = E := Eq.trans rfl rfl
theorem assignX_of {n : Nat} {T : Tab} {r : Nat} {body : AC} {R : D → Heap → Prop} {E : Fr} {H : Heap} {jump : Ex} {e : Env} {ps : List Nat} {a b : AC} (hg : H.get r = some (.loop false false jump e ps a b))
    (h : WR n T (some r) body E (H.set r (.loop true false jump e ps a b)) (roundX r R)) : assignX n T r body R .normal E H := ⟨rfl, jump, e, ps, a, b, hg, h⟩
def loopK (o : Option O) (k : Env → List Nat → AC → AC → Prop) : Prop :=
  match o with
  | some (.loop _ _ _ e ps a b) => k e ps a b
  | _ => False
theorem loopK_loop (b o : Bool) (j : Ex) (e : Env) (ps : List Nat) (x y : AC) (k : Env → List Nat → AC → AC → Prop) : loopK (some (.loop b o j e ps x y)) k = k e ps x y := Eq.trans rfl rfl
theorem roundX_aux (o : Option O) (k : Env → List Nat → AC → AC → Prop) : (∃ busy over jump e ps a b, o = some (.loop busy over jump e ps a b) ∧ k e ps a b) = loopK o k := by
  apply propext
  constructor
  · rintro ⟨bz, ov, j, e, ps, a, b, rfl, h⟩; exact h
  · intro h
    unfold loopK at h
    split at h
    · exact ⟨_, _, _, _, _, _, _, rfl, h⟩
    · exact h.elim
theorem roundX_normal (r : Nat) (R : D → Heap → Prop) (E : Fr) (H : Heap) : roundX r R .normal E H = loopK (H.get r) fun e ps a b => R (.v (.bool true)) (H.set r (.loop false false .normal e ps a b)) := roundX_aux _ _
theorem roundX_exit (r : Nat) (R : D → Heap → Prop) (id : Nat) (E : Fr) (H : Heap) : roundX r R (.exit id) E H = loopK (H.get r) fun e ps a b => R (.v (.bool false)) (H.set r (.loop false true (.exit id) e ps a b)) := roundX_aux _ _
theorem roundX_ret (r : Nat) (R : D → Heap → Prop) (E : Fr) (H : Heap) : roundX r R .ret E H = loopK (H.get r) fun e ps a b => R (.v (.bool false)) (H.set r (.loop false true .ret e ps a b)) := roundX_aux _ _
theorem next_add (H : Heap) (o : O) : (H.add o).next = H.next + 1 := Eq.trans rfl rfl
theorem low_add (H : Heap) (o : O) : (H.add o).low = H.low := Eq.trans rfl rfl
theorem next_set (H : Heap) (r : Nat) (o : O) : (H.set r o).next = H.next := Eq.trans rfl rfl
theorem low_set (H : Heap) (r : Nat) (o : O) : (H.set r o).low = if r < H.low then r else H.low := Eq.trans rfl rfl
theorem next_del (H : Heap) (r : Nat) : (H.del r).next = H.next := Eq.trans rfl rfl
theorem low_del (H : Heap) (r : Nat) : (H.del r).low = if r < H.low then r else H.low := Eq.trans rfl rfl
theorem next_low0 (H : Heap) : (low0 H).next = H.next := Eq.trans rfl rfl
theorem low_low0 (H : Heap) : (low0 H).low = H.next := Eq.trans rfl rfl
theorem get_low0 (H : Heap) (r : Nat) : (low0 H).get r = H.get r := Eq.trans rfl rfl
theorem get_add (H : Heap) (o : O) (r : Nat) : (H.add o).get r = if r = H.next then some o else H.get r := by
  simp only [Heap.get, Heap.add, look, beq_iff_eq]
theorem putAt_none : ∀ (l : List (Nat × O)) (r q : Nat) (o : O), look l r = none → look (putAt l r o) q = look l q
  | [], r, q, o, _ => rfl
  | (k, x) :: l, r, q, o, h => by
    by_cases hk : r == k
    · simp [look, hk] at h
    · simp only [look, hk, Bool.false_eq_true, if_false] at h
      simp only [putAt, hk, Bool.false_eq_true, if_false, look, putAt_none l r q o h]
theorem get_set (H : Heap) (r q : Nat) (o : O) : (H.set r o).get q = if q = r ∧ (H.get r).isSome = true then some o else H.get q := by
  by_cases hq : q = r
  · subst hq
    cases h : H.get q with
    | some x =>
      simp only [Option.isSome_some, and_self, if_true]
      exact look_putAt_same H.objs q o h
    | none =>
      simp only [Option.isSome_none, Bool.false_eq_true, and_false, if_false]
      exact (putAt_none H.objs q q o h).trans h
  · simp only [hq, false_and, if_false]
    exact look_putAt_ne H.objs r q o hq
theorem get_del (H : Heap) (r q : Nat) : (H.del r).get q = if q = r then none else H.get q := look_dropAt H.objs r q
theorem set_add (H : Heap) (o o' : O) (r : Nat) (h : H.low ≤ H.next) : (H.add o).set r o' = if r = H.next then H.add o' else (H.set r o').add o := by
  by_cases hr : r = H.next
  · subst hr
    have hn : ¬ H.next < H.low := by omega
    simp [Heap.set, Heap.add, putAt, hn]
  · have : ¬ (r == H.next) = true := by simpa using hr
    simp only [hr, if_false, Heap.set, Heap.add, putAt, this]
    rfl
theorem set_layIn (H : Heap) (o o' : O) (q r : Nat) (h : H.low ≤ q) : (layIn H q o).set r o' = if r = q then layIn H q o' else layIn (H.set r o') q o := by
  by_cases hr : r = q
  · subst hr
    have hn : ¬ r < H.low := by omega
    simp [Heap.set, layIn, putAt, hn]
  · have : ¬ (r == q) = true := by simpa using hr
    simp only [hr, if_false, Heap.set, layIn, putAt, this]
    rfl
theorem set_bump (H : Heap) (n r : Nat) (o : O) : (bump H n).set r o = bump (H.set r o) n := Eq.trans rfl rfl
theorem set_relow (H : Heap) (n r : Nat) (o : O) (h : n ≤ r) (_h' : ¬ r < H.low) : (relow H n).set r o = relow (H.set r o) n := by
  have hn : ¬ r < n := by omega
  simp [Heap.set, relow, hn]
theorem del_add (H : Heap) (o : O) (r : Nat) (h : H.low ≤ H.next) : (H.add o).del r = if r = H.next then ⟨H.next + 1, H.low, dropAt H.objs r⟩ else (H.del r).add o := by
  by_cases hr : r = H.next
  · subst hr
    have hn : ¬ H.next < H.low := by omega
    simp [Heap.del, Heap.add, dropAt, hn]
  · have : ¬ (r == H.next) = true := by simpa using hr
    simp only [hr, if_false, Heap.del, Heap.add, dropAt, this]
    rfl
theorem load_rf (H : Heap) (k : Option Nat) (r off : Nat) : evLoad H k (.rf r off) = match H.get r with
    | some (.cells l) => pickL k (l.drop off)
    | _ => none := by
  simp only [evLoad, cellsAt]
  cases H.get r with
  | none => rfl
  | some o => cases o <;> rfl
theorem load_cp (H : Heap) (k : Option Nat) (l : List D) : evLoad H k (.cp l) = pickL k l := Eq.trans rfl rfl
theorem pick_none (l : List D) : pickL none l = l[0]? := Eq.trans rfl rfl
theorem pick_some (n : Nat) (l : List D) : pickL (some n) l = if n ≤ l.length then some (.agg (l.take n)) else none := Eq.trans rfl rfl
theorem store_rf (H : Heap) (k r off : Nat) (x : D) : evStore H k (.rf r off) x = match H.get r with
    | some (.cells l) => match cellsOf x with
      | some c => if c.length == k && decide (off + k ≤ l.length) then some (H.set r (.cells (setAll l off c))) else none
      | none => none
    | _ => none := Eq.trans rfl rfl
theorem frz_under0 (H : Heap) (lo n : Nat) (d : D) (h : d.under lo = true) : frz H lo (n + 1) d = some d := by
  unfold frz
  rw [if_pos h]
mutual
theorem under_zero (n : Nat) : ∀ d : D, d.under 0 = true → d.under n = true
  | .v x, _ => rfl
  | .sl m l cap, h => by simp only [D.under] at h ⊢; exact underAll_zero n l h
  | .cp l, h => by simp only [D.under] at h ⊢; exact underAll_zero n l h
  | .rf r off, h => by simp [D.under] at h
  | .rs r off m cap size, h => by simp [D.under] at h
  | .mp r, h => by simp [D.under] at h
  | .agg l, h => by simp only [D.under] at h ⊢; exact underAll_zero n l h
  | .tup l, h => by simp only [D.under] at h ⊢; exact underAll_zero n l h
  | .fn f a b, h => by
    simp only [D.under, Bool.and_eq_true] at h ⊢
    exact ⟨underAll_zero n a h.1, underAll_zero n b h.2⟩
  | .ifc t d, h => by simp only [D.under] at h ⊢; exact under_zero n d h
  | .yl r, h => by simp [D.under] at h
theorem underAll_zero (n : Nat) : ∀ l : List D, D.under.underAll 0 l = true → D.under.underAll n l = true
  | [], _ => rfl
  | d :: l, h => by
    simp only [D.under.underAll, Bool.and_eq_true] at h ⊢
    exact ⟨under_zero n d h.1, underAll_zero n l h.2⟩
end
theorem finX_data {fz : Bool} {H : Heap} {d : D} {H' : Heap} {R : D → Heap → Prop} (h1 : H.next ≤ H'.low) (h2 : d.under 0 = true) : finX fz H d H' R = R d H := by
  have plain : leave H d H' = (d, H) := by
    unfold leave
    simp [h1, under_zero H.next d h2]
  unfold finX leaveF
  cases fz with
  | false => simp only [plain]
  | true =>
    simp only [h1, if_true]
    simp only [frz_under0 H' H.next 63 d (under_zero H.next d h2)]
def within : Nat → D → Bool
  | 0, _ => false
  | n + 1, d => match d with
    | .v _ => true
    | .sl _ l _ => l.all (within n)
    | .cp l => l.all (within n)
    | .agg l => l.all (within n)
    | .tup l => l.all (within n)
    | _ => false
theorem finX_frozen {H : Heap} {d d' : D} {H' : Heap} {R : D → Heap → Prop} (h1 : H.next ≤ H'.low) (h2 : frz H' H.next 64 d = some d') : finX true H d H' R = R d' H := by
  unfold finX leaveF
  simp only [h1, if_true, h2]
theorem finX_loud {fz : Bool} {H : Heap} {d : D} {H' : Heap} {R : D → Heap → Prop} (h : H'.low < H.next) : finX fz H d H' R = R d (relow H' (if H.low < H'.low then H.low else H'.low)) := by
  have hn : ¬ H.next ≤ H'.low := by omega
  have plain : leave H d H' = (d, relow H' (if H.low < H'.low then H.low else H'.low)) := by
    unfold leave
    simp [hn, relow]
  unfold finX leaveF
  cases fz with
  | false => simp only [plain]
  | true => simp only [hn, if_false, plain]
theorem iadr_rs (size r off m : Nat) (c : Option Nat) (s : Nat) (k : IntKind) (n : Int) : evIadr size (.rs r off m c s) (.v (.int k n)) = if 0 ≤ n ∧ n < (m : Int) then some (.rf r (off + n.toNat * size)) else none := Eq.trans rfl rfl
theorem iadr_sl' (size m : Nat) (l : List D) (c : Option Nat) (k : IntKind) (n : Int) : evIadr size (.sl m l c) (.v (.int k n)) = if 0 ≤ n ∧ n < (m : Int) then some (.cp (l.drop (n.toNat * size))) else none := Eq.trans rfl rfl
theorem len_rs (r off m : Nat) (c : Option Nat) (s : Nat) : evLen false (.rs r off m c s) = some (i64D m) := Eq.trans rfl rfl
theorem len_sl' (m : Nat) (l : List D) (c : Option Nat) : evLen false (.sl m l c) = some (i64D m) := Eq.trans rfl rfl
theorem len_nil : evLen false (.v (.slice none 0 0)) = some (i64D 0) := Eq.trans rfl rfl
theorem iadrA_rf (size len r off : Nat) (k : IntKind) (n : Int) : evIadrA size len (.rf r off) (.v (.int k n)) = if 0 ≤ n ∧ n < (len : Int) then some (.rf r (off + n.toNat * size)) else none := Eq.trans rfl rfl
theorem iadrA_cp (size len : Nat) (l : List D) (k : IntKind) (n : Int) : evIadrA size len (.cp l) (.v (.int k n)) = if 0 ≤ n ∧ n < (len : Int) then some (.cp (l.drop (n.toNat * size))) else none := Eq.trans rfl rfl
theorem frz_fn (H : Heap) (lo n : Nat) (f : Fn) (a b : List D) : frz H lo (n + 1) (.fn f a b) = if (D.under.underAll lo a && D.under.underAll lo b) = true then some (.fn f a b) else match frzL (frz H lo n) a, frzL (frz H lo n) b with
      | some a, some b => some (.fn f a b)
      | _, _ => none := by
  conv => lhs; unfold frz
  simp only [D.under]
  rfl
theorem frz_rf (H : Heap) (lo n r off : Nat) : frz H lo (n + 1) (.rf r off) = if r < lo then some (.rf r off) else match H.get r with
      | some (.cells l) => (frzL (frz H lo n) (l.drop off)).map .cp
      | _ => none := by
  conv => lhs; unfold frz
  by_cases h : r < lo
  · simp [D.under, h]
  · simp [D.under, h]; rfl
theorem frz_rs (H : Heap) (lo n r off m : Nat) (cap : Option Nat) (size : Nat) : frz H lo (n + 1) (.rs r off m cap size) = if r < lo then some (.rs r off m cap size) else match H.get r with
      | some (.cells l) => if off + m * size ≤ l.length then (frzL (frz H lo n) ((l.drop off).take (m * size))).map fun l => .sl m l cap else none
      | _ => none := by
  conv => lhs; unfold frz
  by_cases h : r < lo
  · simp [D.under, h]
  · simp [D.under, h]; rfl
theorem frz_tup (H : Heap) (lo n : Nat) (l : List D) : frz H lo (n + 1) (.tup l) = if D.under.underAll lo l = true then some (.tup l) else (frzL (frz H lo n) l).map .tup := by
  conv => lhs; unfold frz
  rfl
theorem frzL_nil (f : D → Option D) : frzL f [] = some [] := Eq.trans rfl rfl
theorem frzL_cons (f : D → Option D) (d : D) (l : List D) : frzL f (d :: l) = match f d, frzL f l with
  | some x, some r => some (x :: r)
  | _, _ => none := Eq.trans rfl rfl
theorem under_v (n : Nat) (x : Value) : (D.v x).under n = true := Eq.trans rfl rfl
theorem under_agg (n : Nat) (l : List D) : (D.agg l).under n = D.under.underAll n l := Eq.trans rfl rfl
theorem under_tup (n : Nat) (l : List D) : (D.tup l).under n = D.under.underAll n l := Eq.trans rfl rfl
theorem under_sl (n m : Nat) (l : List D) (c : Option Nat) : (D.sl m l c).under n = D.under.underAll n l := Eq.trans rfl rfl
theorem under_cp (n : Nat) (l : List D) : (D.cp l).under n = D.under.underAll n l := Eq.trans rfl rfl
theorem under_fn (n : Nat) (f : Fn) (a b : List D) : (D.fn f a b).under n = (D.under.underAll n a && D.under.underAll n b) := Eq.trans rfl rfl
theorem under_ifc (n : Nat) (t : TypeId) (d : D) : (D.ifc t d).under n = d.under n := Eq.trans rfl rfl
theorem under_nil (n : Nat) : D.under.underAll n [] = true := Eq.trans rfl rfl
theorem under_cons (n : Nat) (d : D) (l : List D) : D.under.underAll n (d :: l) = (d.under n && D.under.underAll n l) := Eq.trans rfl rfl
theorem under_append (n : Nat) : ∀ a b : List D, D.under.underAll n (a ++ b) = (D.under.underAll n a && D.under.underAll n b)
  | [], b => by simp [under_nil]
  | d :: a, b => by simp [under_cons, under_append n a b, Bool.and_assoc]
theorem under_flatMap {α : Type} (n : Nat) (c : α → List D) (hc : ∀ x, D.under.underAll n (c x) = true) : ∀ l : List α, D.under.underAll n (l.flatMap c) = true
  | [] => rfl
  | x :: l => by simp [List.flatMap_cons, under_append, hc x, under_flatMap n c hc l]
theorem resOf_one (d : D) : resOf [d] = d := Eq.trans rfl rfl
theorem resOf_nil : resOf [] = .tup [] := Eq.trans rfl rfl
theorem resOf_two (a b : D) (l : List D) : resOf (a :: b :: l) = .tup (a :: b :: l) := Eq.trans rfl rfl
theorem ressX_nil (E : Fr) (H : Heap) : ressX E H [] = some [] := Eq.trans rfl rfl
theorem ressX_tmp (E : Fr) (H : Heap) (t : Nat) (l : List RV) : ressX E H (.tmp t :: l) = (ressX E H l).map fun ds => E t :: ds := by
  simp only [ressX, resX]
  cases ressX E H l <;> rfl
theorem ressX_cell (E : Fr) (H : Heap) (t : Nat) (k : Option Nat) (l : List RV) : ressX E H (.cell t k :: l) = match evLoad H k (E t) with
    | some d => (ressX E H l).map fun ds => d :: ds
    | none => none := by
  simp only [ressX, resX]
  cases evLoad H k (E t) <;> cases ressX E H l <;> rfl
theorem toList_inj (a b : ByteArray) : a.toList = b.toList ↔ a = b := by
  constructor
  · intro h
    have : a.data.toList = b.data.toList := by simpa [ByteArray.toList_eq] using h
    cases a; cases b
    simp only [ByteArray.mk.injEq]
    exact Array.toList_inj.1 this
  · rintro rfl; rfl
theorem bin_add (k : IntKind) (a b : Int) : evBin .add (.v (.int k a)) (.v (.int k b)) = some (.v (.int k (k.wrap (a + b)))) := by simp [evBin, binInt]
theorem bin_sub (k : IntKind) (a b : Int) : evBin .sub (.v (.int k a)) (.v (.int k b)) = some (.v (.int k (k.wrap (a - b)))) := by simp [evBin, binInt]
theorem bin_mul (k : IntKind) (a b : Int) : evBin .mul (.v (.int k a)) (.v (.int k b)) = some (.v (.int k (k.wrap (a * b)))) := by simp [evBin, binInt]
theorem bin_eql (k : IntKind) (a b : Int) : evBin .eql (.v (.int k a)) (.v (.int k b)) = some (bD (decide (a = b))) := by
  simp only [evBin, binInt, if_true, Option.map_some, Option.some.injEq, D.v.injEq, Value.bool.injEq]
  by_cases h : a = b <;> simp [h]
theorem bin_neq (k : IntKind) (a b : Int) : evBin .neq (.v (.int k a)) (.v (.int k b)) = some (bD (decide (a ≠ b))) := by
  simp only [evBin, binInt, if_true, Option.map_some, Option.some.injEq, D.v.injEq, Value.bool.injEq]
  by_cases h : a = b <;> simp [h]
theorem bin_lss (k : IntKind) (a b : Int) : evBin .lss (.v (.int k a)) (.v (.int k b)) = some (bD (decide (a < b))) := by simp [evBin, binInt]
theorem bin_leq (k : IntKind) (a b : Int) : evBin .leq (.v (.int k a)) (.v (.int k b)) = some (bD (decide (a ≤ b))) := by simp [evBin, binInt]
theorem bin_gtr (k : IntKind) (a b : Int) : evBin .gtr (.v (.int k a)) (.v (.int k b)) = some (bD (decide (b < a))) := by simp [evBin, binInt]
theorem bin_geq (k : IntKind) (a b : Int) : evBin .geq (.v (.int k a)) (.v (.int k b)) = some (bD (decide (b ≤ a))) := by simp [evBin, binInt]
theorem bin_eqlS (a b : ByteArray) : evBin .eql (strD a) (strD b) = some (bD (decide (a = b))) := by
  simp only [evBin, binStr, Option.map_some, Option.some.injEq, D.v.injEq, Value.bool.injEq]
  by_cases h : a = b
  · simp [h]
  · have : ¬ a.toList = b.toList := fun e => h ((toList_inj a b).1 e)
    simp [h, this]
theorem bin_neqS (a b : ByteArray) : evBin .neq (strD a) (strD b) = some (bD (decide (a ≠ b))) := by
  simp only [evBin, binStr, Option.map_some, Option.some.injEq, D.v.injEq, Value.bool.injEq]
  by_cases h : a = b
  · simp [h]
  · have : ¬ a.toList = b.toList := fun e => h ((toList_inj a b).1 e)
    simp [h, this]
theorem un_not (b : Bool) : evUn .not (bD b) = some (bD !b) := Eq.trans rfl rfl
theorem un_neg (k : IntKind) (n : Int) : evUn .neg (.v (.int k n)) = some (.v (.int k (k.wrap (0 - n)))) := Eq.trans rfl rfl
theorem conv_int (k k' : IntKind) (n : Int) : evConv k (.v (.int k' n)) = some (.v (.int k (k.wrap n))) := Eq.trans rfl rfl
def selD (t : Bool) (a b : D) : D := if t then a else b
theorem selD_true (a b : D) : selD true a b = a := by simp [selD]
theorem selD_false (a b : D) : selD false a b = b := by simp [selD]
theorem pickX_bool (t : Bool) (a b : D) : pickX (bD t) a b = some (selD t a b) := by simp [selD, pickX]
theorem mm_min (k : IntKind) (a b : Int) : evMinmax false [.v (.int k a), .v (.int k b)] = some (.v (.int k (if b < a then b else a))) := by simp [evMinmax, mmAll, mm2]
theorem mm_max (k : IntKind) (a b : Int) : evMinmax true [.v (.int k a), .v (.int k b)] = some (.v (.int k (if a < b then b else a))) := by simp [evMinmax, mmAll, mm2]
theorem ext_tup (l : List D) (i : Nat) : evExt (.tup l) i = l[i]? := Eq.trans rfl rfl
theorem fadr_rf (off r o : Nat) : evFadr off (.rf r o) = some (.rf r (o + off)) := Eq.trans rfl rfl
theorem fadr_cp (off : Nat) (l : List D) : evFadr off (.cp l) = some (.cp (l.drop off)) := Eq.trans rfl rfl
theorem nilck_rf (r o : Nat) : nilckX (.rf r o) = some (.rf r o) := Eq.trans rfl rfl
theorem nilck_cp (l : List D) : nilckX (.cp l) = some (.cp l) := Eq.trans rfl rfl
theorem fld_one (off : Nat) (l : List D) : evFld none off (.agg l) = l[off]? := Eq.trans rfl rfl
theorem fld_many (n off : Nat) (l : List D) : evFld (some n) off (.agg l) = if off + n ≤ l.length then some (.agg ((l.drop off).take n)) else none := Eq.trans rfl rfl
theorem len_text (s : ByteArray) : evLen true (strD s) = some (i64D s.size) := Eq.trans rfl rfl
theorem asI_int (k : IntKind) (n : Int) : asI (.v (.int k n)) = some n := Eq.trans rfl rfl
theorem cells_agg (l : List D) : cellsOf (.agg l) = some l := Eq.trans rfl rfl
theorem cells_int (k : IntKind) (n : Int) : cellsOf (.v (.int k n)) = some [.v (.int k n)] := Eq.trans rfl rfl
theorem cells_bool (b : Bool) : cellsOf (bD b) = some [bD b] := Eq.trans rfl rfl
theorem cells_str (s : ByteArray) : cellsOf (strD s) = some [strD s] := Eq.trans rfl rfl
theorem cells_rf (r o : Nat) : cellsOf (.rf r o) = some [.rf r o] := Eq.trans rfl rfl
theorem cells_cp (l : List D) : cellsOf (.cp l) = some [.cp l] := Eq.trans rfl rfl
theorem cells_rs (r off n : Nat) (c : Option Nat) (s : Nat) : cellsOf (.rs r off n c s) = some [.rs r off n c s] := Eq.trans rfl rfl
theorem cells_sl (n : Nat) (l : List D) (c : Option Nat) : cellsOf (.sl n l c) = some [.sl n l c] := Eq.trans rfl rfl
theorem cells_mp (r : Nat) : cellsOf (.mp r) = some [.mp r] := Eq.trans rfl rfl
theorem cells_fn (f : Fn) (a b : List D) : cellsOf (.fn f a b) = some [.fn f a b] := Eq.trans rfl rfl
theorem cells_ifc (t : TypeId) (d : D) : cellsOf (.ifc t d) = some [.ifc t d] := Eq.trans rfl rfl
theorem cells_nil : cellsOf (.v (.slice none 0 0)) = some [.v (.slice none 0 0)] := Eq.trans rfl rfl
theorem fill_nil (E : Fr) (cells : List D) : fillX E cells [] = some cells := Eq.trans rfl rfl
theorem fill_cons (E : Fr) (cells : List D) (off size : Nat) (x : Rand) (rest : List (Nat × Nat × Rand)) : fillX E cells ((off, size, x) :: rest) = match cellsOf (rX E x) with
    | some l => if l.length == size && decide (off + size ≤ cells.length) then fillX E (setAll cells off l) rest else none
    | none => none := Eq.trans rfl rfl
theorem setAll_nil (cells : List D) (off : Nat) : setAll cells off [] = cells := Eq.trans rfl rfl
theorem setAll_cons (cells : List D) (off : Nat) (d : D) (l : List D) : setAll cells off (d :: l) = setAll (cells.set off d) (off + 1) l := Eq.trans rfl rfl
theorem wrap64 {n : Int} (h : -9223372036854775808 ≤ n) (h' : n ≤ 9223372036854775807) : IntKind.i64.wrap n = n := by
  rw [IntKind.wrap_i64]
  omega
end Go.Aug
namespace Go.Aug
def slD (rep : Option (Option Nat)) (n : Nat) (cells : List D) : D :=
  match rep, n with
  | none, 0 => .v (.slice none 0 0)
  | none, n + 1 => .sl (n + 1) cells none
  | some cap, n => .sl n cells cap
theorem slD_some (cap : Option Nat) (n : Nat) (cells : List D) : slD (some cap) n cells = .sl n cells cap := Eq.trans rfl rfl
theorem sl_len (rep : Option (Option Nat)) (n : Nat) (cells : List D) : evLen false (slD rep n cells) = some (i64D n) := by
  cases rep with
  | none => cases n <;> rfl
  | some c => rfl
theorem sl_cells (rep : Option (Option Nat)) (n : Nat) (cells : List D) : cellsOf (slD rep n cells) = some [slD rep n cells] := by
  cases rep with
  | none => cases n <;> rfl
  | some c => rfl
theorem sl_under (m : Nat) (rep : Option (Option Nat)) (n : Nat) (cells : List D) (h : D.under.underAll m cells = true) : (slD rep n cells).under m = true := by
  cases rep with
  | none =>
    cases n with
    | zero => rfl
    | succ n => exact h
  | some c => exact h
theorem sl_iadr (size : Nat) (rep : Option (Option Nat)) (n : Nat) (cells : List D) (k : IntKind) (i : Int) : evIadr size (slD rep n cells) (.v (.int k i)) = if 0 ≤ i ∧ i < (n : Int) then some (.cp (cells.drop (i.toNat * size))) else none := by
  cases rep with
  | none =>
    cases n with
    | zero =>
      rw [if_neg (by omega)]
      rfl
    | succ n => rfl
  | some c => rfl
theorem flatMap_length {α : Type} {c : α → List D} {s : Nat} (hc : ∀ x, (c x).length = s) : ∀ l : List α, (l.flatMap c).length = l.length * s
  | [] => by simp
  | x :: l => by simp [List.flatMap_cons, hc x, flatMap_length hc l, Nat.add_mul, Nat.add_comm]
theorem drop_zip {α : Type} {c : α → List D} {s : Nat} (hc : ∀ x, (c x).length = s) (pre suf : List α) : ((pre ++ suf).flatMap c).drop (pre.length * s) = suf.flatMap c := by
  rw [List.flatMap_append, List.drop_append_of_le_length (by rw [flatMap_length hc]; omega)]
  rw [← flatMap_length hc pre, List.drop_length, List.nil_append]
theorem sl_zip {α : Type} {c : α → List D} {s : Nat} (hc : ∀ x, (c x).length = s) (rep : Option (Option Nat)) (pre : List α) (x : α) (suf : List α) (k : IntKind) :
    evIadr s (slD rep (pre ++ x :: suf).length ((pre ++ x :: suf).flatMap c)) (.v (.int k (pre.length : Nat))) = some (.cp (c x ++ suf.flatMap c)) := by
  rw [sl_iadr, if_pos (by simp; omega)]
  rw [Int.toNat_natCast, drop_zip hc, List.flatMap_cons]
theorem sl_nilEq (rep : Option (Option Nat)) (n : Nat) (cells : List D) : eqAny .slice (slD rep n cells) (.v (.slice none 0 0)) = some (decide (rep = none ∧ n = 0)) := by
  cases rep with
  | none => cases n <;> simp [slD, eqAny]
  | some c => simp [slD, eqAny]
theorem bound_none (a b : Nat) : boundX none a b = some a := Eq.trans rfl rfl
theorem bound_some (k : IntKind) (i : Int) (a b : Nat) : boundX (some (.v (.int k i))) a b = if 0 ≤ i ∧ i ≤ (b : Int) then some i.toNat else none := Eq.trans rfl rfl
end Go.Aug
namespace Go.Aug
theorem WO_P1 (T : Tab) (i : Nat) (op : AOp) (ps : List POp) (E : Fr) (H : Heap) (Q : Fr → Heap → Prop) : WO T (P1 i op :: ps) E H Q = opK T E H op fun d H' => WO T ps (upd E i d) H' Q := WO_put ..
theorem WO_P0 (T : Tab) (op : AOp) (ps : List POp) (E : Fr) (H : Heap) (Q : Fr → Heap → Prop) : WO T (P0 op :: ps) E H Q = opK T E H op fun _ H' => WO T ps E H' Q := WO_do ..
theorem WO_G1 (T : Tab) (i : Nat) (op : AOp) (t : Nat) (b : Bool) (ps : List POp) (E : Fr) (H : Heap) (Q : Fr → Heap → Prop) :
    WO T (G1 i op t b :: ps) E H Q = @gK ((E t).says b) ⟨(opK T E H op fun d H' => WO T ps (upd E i d) H' Q)⟩ ⟨(WO T ps (upd E i uD) H Q)⟩ := Eq.trans rfl rfl
theorem WO_G0 (T : Tab) (op : AOp) (t : Nat) (b : Bool) (ps : List POp) (E : Fr) (H : Heap) (Q : Fr → Heap → Prop) :
    WO T (G0 op t b :: ps) E H Q = @gK ((E t).says b) ⟨(opK T E H op fun _ H' => WO T ps E H' Q)⟩ ⟨(WO T ps E H Q)⟩ := Eq.trans rfl rfl
theorem DO_Q1 (T : Tab) (base i : Nat) (op : AOp) (ps : List POp) (E : Fr) (rank : Nat) (pend : PendX) (Hs : ChainX) (Q : Fr → Heap → Prop) :
    DO T base (Q1 i op :: ps) E rank pend Hs Q = opK T E (topC Hs).1 op fun d _ => DO T base ps (upd E i d) rank pend Hs Q := DO_plain ..
theorem DO_QL (T : Tab) (base i : Nat) (op : AOp) (l : Nat) (ps : List POp) (E : Fr) (rank : Nat) (pend : PendX) (Hs : ChainX) (Q : Fr → Heap → Prop) :
    DO T base (QL i op l :: ps) E rank pend Hs Q = opK T E (topC Hs).1 op fun d _ => DO T base ps (upd E i d) rank pend Hs Q := DO_plain ..
theorem DO_QR (T : Tab) (base i : Nat) (op : AOp) (l : Nat) (ps : List POp) (E : Fr) (rank : Nat) (pend : PendX) (Hs : ChainX) (Q : Fr → Heap → Prop) :
    DO T base (QR i op l :: ps) E rank pend Hs Q = opK T E (atC Hs l).1 op fun d _ => DO T base ps (upd E i d) rank pend Hs Q := DO_reads ..
theorem DO_P1 (T : Tab) (base i : Nat) (op : AOp) (ps : List POp) (E : Fr) (rank : Nat) (pend : PendX) (Hs : ChainX) (Q : Fr → Heap → Prop) :
    DO T base (P1 i op :: ps) E rank pend Hs Q = opK T E (topC Hs).1 op fun d H' => DO T base ps (upd E i d) rank pend ((H', (topC Hs).2) :: Hs) Q := DO_acts ..
theorem DO_P0 (T : Tab) (base : Nat) (op : AOp) (ps : List POp) (E : Fr) (rank : Nat) (pend : PendX) (Hs : ChainX) (Q : Fr → Heap → Prop) :
    DO T base (P0 op :: ps) E rank pend Hs Q = opK T E (topC Hs).1 op fun _ H' => DO T base ps E rank pend ((H', (topC Hs).2) :: Hs) Q := DO_actsD ..
theorem DO_G1 (T : Tab) (base i : Nat) (op : AOp) (t : Nat) (b : Bool) (ps : List POp) (E : Fr) (rank : Nat) (pend : PendX) (Hs : ChainX) (Q : Fr → Heap → Prop) :
    DO T base (G1 i op t b :: ps) E rank pend Hs Q = @gK ((E t).says b) ⟨opK T E (topC Hs).1 op fun d H' => DO T base ps (upd E i d) rank pend ((H', (topC Hs).2) :: Hs) Q⟩ ⟨DO T base ps (upd E i uD) rank pend (topC Hs :: Hs) Q⟩ := DO_gacts ..
theorem op_mv (T : Tab) (E : Fr) (H : Heap) (x : Rand) (k : D → Heap → Prop) : opK T E H (.mv x) k = k (rX E x) H := Eq.trans rfl rfl
theorem op_pick (T : Tab) (E : Fr) (H : Heap) (c a b : Rand) (k : D → Heap → Prop) : opK T E H (.pick c a b) k = oK (pickX (rX E c) (rX E a) (rX E b)) fun d => k d H := Eq.trans rfl rfl
theorem op_new (T : Tab) (E : Fr) (H : Heap) (x : Rand) (k : D → Heap → Prop) : opK T E H (.new x) k = oK (cellsOf (rX E x)) fun l => k (.rf H.next 0) (H.add (.cells l)) := Eq.trans rfl rfl
theorem op_zero (T : Tab) (E : Fr) (H : Heap) (z : List D) (k : D → Heap → Prop) : opK T E H (.zero z) k = k (.rf H.next 0) (H.add (.cells z)) := Eq.trans rfl rfl
theorem op_build (T : Tab) (E : Fr) (H : Heap) (z : List D) (ps : List (Nat × Nat × Rand)) (k : D → Heap → Prop) : opK T E H (.build z ps) k = oK (fillX E z ps) fun l => k (.agg l) H := Eq.trans rfl rfl
theorem op_lits (T : Tab) (E : Fr) (H : Heap) (n s : Nat) (z : List D) (ps : List (Nat × Nat × Rand)) (k : D → Heap → Prop) : opK T E H (.lits n s z ps) k = oK (fillX E z ps) fun l => k (.rs H.next 0 n (some n) s) (H.add (.cells l)) := Eq.trans rfl rfl
theorem op_load (T : Tab) (E : Fr) (H : Heap) (kk : Option Nat) (a : Rand) (k : D → Heap → Prop) : opK T E H (.load kk a) k = oK (evLoad H kk (rX E a)) fun d => k d H := Eq.trans rfl rfl
theorem op_store (T : Tab) (E : Fr) (H : Heap) (kk : Nat) (a x : Rand) (k : D → Heap → Prop) : opK T E H (.store kk a x) k = oK (evStore H kk (rX E a) (rX E x)) fun H' => k uD H' := Eq.trans rfl rfl
theorem op_nilck (T : Tab) (E : Fr) (H : Heap) (x : Rand) (k : D → Heap → Prop) : opK T E H (.nilck x) k = oK (nilckX (rX E x)) fun d => k d H := Eq.trans rfl rfl
theorem op_bin (T : Tab) (E : Fr) (H : Heap) (op : BinOp) (x y : Rand) (k : D → Heap → Prop) : opK T E H (.bin op x y) k = oK (evBin op (rX E x) (rX E y)) fun d => k d H := Eq.trans rfl rfl
theorem op_eqt (T : Tab) (E : Fr) (H : Heap) (neg : Bool) (kk : EK) (x y : Rand) (k : D → Heap → Prop) : opK T E H (.eqt neg kk x y) k = oK (eqAny kk (rX E x) (rX E y)) fun b => k (.v (.bool (b != neg))) H := Eq.trans rfl rfl
theorem op_un (T : Tab) (E : Fr) (H : Heap) (op : UnOp) (x : Rand) (k : D → Heap → Prop) : opK T E H (.un op x) k = oK (evUn op (rX E x)) fun d => k d H := Eq.trans rfl rfl
theorem op_conv (T : Tab) (E : Fr) (H : Heap) (kk : IntKind) (x : Rand) (k : D → Heap → Prop) : opK T E H (.conv kk x) k = oK (evConv kk (rX E x)) fun d => k d H := Eq.trans rfl rfl
theorem op_convI (T : Tab) (E : Fr) (H : Heap) (x : Rand) (k : D → Heap → Prop) : opK T E H (.convI x) k = oK (evConvI (rX E x)) fun d => k d H := Eq.trans rfl rfl
theorem op_convB (T : Tab) (E : Fr) (H : Heap) (x : Rand) (k : D → Heap → Prop) : opK T E H (.convB x) k = oK (evConvB H (rX E x)) fun d => k d H := Eq.trans rfl rfl
theorem op_convF (T : Tab) (E : Fr) (H : Heap) (kk : FloatKind) (x : Rand) (k : D → Heap → Prop) : opK T E H (.convF kk x) k = oK (evConvF kk (rX E x)) fun d => k d H := Eq.trans rfl rfl
theorem op_cplx (T : Tab) (E : Fr) (H : Heap) (x y : Rand) (k : D → Heap → Prop) : opK T E H (.cplx x y) k = oK (evCplx (rX E x) (rX E y)) fun d => k d H := Eq.trans rfl rfl
theorem op_eqC (T : Tab) (E : Fr) (H : Heap) (x y : Rand) (k : D → Heap → Prop) : opK T E H (.eqC x y) k = oK (evEqC (rX E x) (rX E y)) fun d => k d H := Eq.trans rfl rfl
theorem op_mrng (T : Tab) (E : Fr) (H : Heap) (x : Rand) (k : D → Heap → Prop) : opK T E H (.mrng x) k = oK (evMrng H (rX E x)) fun r => k r.1 r.2 := Eq.trans rfl rfl
theorem op_mnxt (T : Tab) (E : Fr) (H : Heap) (x : Rand) (k : D → Heap → Prop) : opK T E H (.mnxt x) k = oK (evMnxt H (rX E x)) fun r => k r.1 r.2 := Eq.trans rfl rfl
theorem op_mcur (T : Tab) (E : Fr) (H : Heap) (x : Rand) (k : D → Heap → Prop) : opK T E H (.mcur x) k = oK (evMcur H (rX E x)) fun d => k d H := Eq.trans rfl rfl
theorem op_ifc (T : Tab) (E : Fr) (H : Heap) (t : TypeId) (x : Rand) (k : D → Heap → Prop) : opK T E H (.ifc t x) k = k (.ifc t (rX E x)) H := Eq.trans rfl rfl
theorem op_mkfn (T : Tab) (E : Fr) (H : Heap) (f : Fn) (a b : List Rand) (k : D → Heap → Prop) : opK T E H (.mkfn f a b) k = k (.fn f (a.map (rX E)) (b.map (rX E))) H := Eq.trans rfl rfl
theorem op_ext (T : Tab) (E : Fr) (H : Heap) (x : Rand) (i : Nat) (k : D → Heap → Prop) : opK T E H (.ext x i) k = oK (evExt (rX E x) i) fun d => k d H := Eq.trans rfl rfl
theorem op_fadr (T : Tab) (E : Fr) (H : Heap) (o : Nat) (x : Rand) (k : D → Heap → Prop) : opK T E H (.fadr o x) k = oK (evFadr o (rX E x)) fun d => k d H := Eq.trans rfl rfl
theorem op_fld (T : Tab) (E : Fr) (H : Heap) (kk : Option Nat) (o : Nat) (x : Rand) (k : D → Heap → Prop) : opK T E H (.fld kk o x) k = oK (evFld kk o (rX E x)) fun d => k d H := Eq.trans rfl rfl
theorem op_iadr (T : Tab) (E : Fr) (H : Heap) (s : Nat) (x i : Rand) (k : D → Heap → Prop) : opK T E H (.iadr s x i) k = oK (evIadr s (rX E x) (rX E i)) fun d => k d H := Eq.trans rfl rfl
theorem op_iadrA (T : Tab) (E : Fr) (H : Heap) (s l : Nat) (x i : Rand) (k : D → Heap → Prop) : opK T E H (.iadrA s l x i) k = oK (evIadrA s l (rX E x) (rX E i)) fun d => k d H := Eq.trans rfl rfl
theorem op_idxS (T : Tab) (E : Fr) (H : Heap) (x i : Rand) (k : D → Heap → Prop) : opK T E H (.idxS x i) k = oK (evIdxS (rX E x) (rX E i)) fun d => k d H := Eq.trans rfl rfl
theorem op_idxA (T : Tab) (E : Fr) (H : Heap) (kk : Option Nat) (s l : Nat) (x i : Rand) (k : D → Heap → Prop) : opK T E H (.idxA kk s l x i) k = oK (evIdxA kk s l (rX E x) (rX E i)) fun d => k d H := Eq.trans rfl rfl
theorem op_slice (T : Tab) (E : Fr) (H : Heap) (s : Nat) (x : Rand) (a b c : Option Rand) (k : D → Heap → Prop) : opK T E H (.slice s x a b c) k = oK (sliceX s (rX E x) (a.map (rX E)) (b.map (rX E)) (c.map (rX E)) c.isSome) fun d => k d H := Eq.trans rfl rfl
theorem op_sliceS (T : Tab) (E : Fr) (H : Heap) (x : Rand) (a b : Option Rand) (k : D → Heap → Prop) : opK T E H (.sliceS x a b) k = oK (sliceSX (rX E x) (a.map (rX E)) (b.map (rX E))) fun d => k d H := Eq.trans rfl rfl
theorem op_len (T : Tab) (E : Fr) (H : Heap) (t : Bool) (x : Rand) (k : D → Heap → Prop) : opK T E H (.len t x) k = oK (evLen t (rX E x)) fun d => k d H := Eq.trans rfl rfl
theorem op_app (T : Tab) (E : Fr) (H : Heap) (t : Bool) (s b : Nat) (x y : Rand) (k : D → Heap → Prop) : opK T E H (.app t s b x y) k = oK (evApp H t s b (rX E x) (rX E y)) fun r => k r.1 r.2 := Eq.trans rfl rfl
theorem op_minmax (T : Tab) (E : Fr) (H : Heap) (m : Bool) (xs : List Rand) (k : D → Heap → Prop) : opK T E H (.minmax m xs) k = oK (evMinmax m (xs.map (rX E))) fun d => k d H := Eq.trans rfl rfl
theorem op_call (T : Tab) (E : Fr) (H : Heap) (f : FuncId) (args : List Rand) (k : D → Heap → Prop) : opK T E H (.call f args) k = cK T (.fn f) (args.map (rX E)) H k := Eq.trans rfl rfl
theorem op_cald (T : Tab) (E : Fr) (H : Heap) (f : Rand) (args : List Rand) (k : D → Heap → Prop) : opK T E H (.cald f args) k = caldK T (rX E f) (args.map (rX E)) H k := Eq.trans rfl rfl
theorem op_mkmap (T : Tab) (E : Fr) (H : Heap) (k : D → Heap → Prop) : opK T E H .mkmap k = k (.mp H.next) (H.add (.map [])) := Eq.trans rfl rfl
theorem op_mlook (T : Tab) (E : Fr) (H : Heap) (ck : CK) (z : D) (o : Bool) (m kk : Rand) (k : D → Heap → Prop) : opK T E H (.mlook ck z o m kk) k = oK (evMlook H ck z o (rX E m) (rX E kk)) fun d => k d H := Eq.trans rfl rfl
theorem op_mput (T : Tab) (E : Fr) (H : Heap) (ck : CK) (m kk x : Rand) (k : D → Heap → Prop) : opK T E H (.mput ck m kk x) k = oK (evMput H ck (rX E m) (rX E kk) (rX E x)) fun H' => k uD H' := Eq.trans rfl rfl
theorem op_ment (T : Tab) (E : Fr) (H : Heap) (ck : CK) (z : D) (m kk : Rand) (k : D → Heap → Prop) : opK T E H (.ment ck z m kk) k = oK (evMent H ck z (rX E m) (rX E kk)) fun r => k r.1 r.2 := Eq.trans rfl rfl
theorem op_mlen (T : Tab) (E : Fr) (H : Heap) (m : Rand) (k : D → Heap → Prop) : opK T E H (.mlen m) k = oK (evMlen H (rX E m)) fun d => k d H := Eq.trans rfl rfl
theorem op_mset (T : Tab) (E : Fr) (H : Heap) (m i x : Rand) (k : D → Heap → Prop) : opK T E H (.mset m i x) k = oK (evMset H (rX E m) (rX E i) (rX E x)) fun H' => k uD H' := Eq.trans rfl rfl
theorem op_clr (T : Tab) (E : Fr) (H : Heap) (s : Nat) (z : List D) (x : Rand) (k : D → Heap → Prop) : opK T E H (.clr s z x) k = oK (evClr H s z (rX E x)) fun H' => k (.tup []) H' := Eq.trans rfl rfl
theorem op_mksl (T : Tab) (E : Fr) (H : Heap) (s b : Nat) (z : List D) (x : Rand) (k : D → Heap → Prop) : opK T E H (.mksl s b z x) k = oK (evMksl H s b z (rX E x)) fun r => k r.1 r.2 := Eq.trans rfl rfl
theorem lit_add (a m n : Nat) : a + no_index (OfNat.ofNat m) + no_index (OfNat.ofNat n) = a + (no_index (OfNat.ofNat m) + no_index (OfNat.ofNat n)) := Nat.add_assoc ..
theorem rX_t (E : Fr) (i : Nat) : rX E (.t i) = E i := Eq.trans rfl rfl
theorem rX_c (E : Fr) (d : D) : rX E (.c d) = d := Eq.trans rfl rfl
attribute [simp] WO_nil WO_P1 WO_P0 WO_G1 WO_G0 DX_eq DO_nil DO_Q1 DO_QL DO_QR DO_P1 DO_P0 DO_G1 DO_acts DO_gplain DO_greads DO_gacts DO_actsD DO_plain DO_reads DO_news DO_still lim_one lim_zero topC_cons wake_nil wake_cons look_cons look_nil endC_eq layAll_nil layAll_cons newX_add bump_zero relow_low0 get_bump next_bump low_bump get_relow next_relow low_relow next_layIn low_layIn get_layIn set_layIn set_bump set_relow atC_eq
  says_bool says_uD argX_zero argX_succ argX_nil thenX_normal thenX_exit thenX_ret blockX_normal blockX_exit blockX_ret endX_normal endX_ret
  WR_skip WR_ret WR_exit WR_seq WR_cond WR_block WR_loop WR_reg WR_dreg WR_rfun
  op_mv op_pick op_new op_zero op_build op_lits op_load op_store op_nilck op_bin op_eqt op_un op_conv op_convI op_convB op_convF op_cplx op_mrng op_mnxt op_mcur op_eqC op_ifc op_mkfn op_ext op_fadr op_fld op_iadr op_iadrA op_idxS op_idxA op_slice op_sliceS op_len op_app op_minmax op_call op_cald op_mkmap op_mlook op_mput op_ment op_mset op_mlen op_clr op_mksl
  lit_add rX_t rX_c upd_apply oK_some oK_none gK_true gK_false bK_bool caldK_fn caldK_yl calfK_fn
  next_add low_add next_set low_set next_del low_del next_low0 low_low0 get_low0 get_add set_add del_add load_rf load_cp pick_none pick_some store_rf
  finX_data under_v under_agg under_tup under_sl under_cp under_fn under_ifc under_nil under_cons under_append resOf_one resOf_nil resOf_two ressX_nil ressX_tmp ressX_cell
  bin_add bin_sub bin_mul bin_eql bin_neq bin_lss bin_leq bin_gtr bin_geq bin_eqlS bin_neqS un_not un_neg conv_int mm_min mm_max pickX_bool selD_true selD_false ext_tup fadr_rf fadr_cp nilck_rf nilck_cp fld_one fld_many len_text asI_int
  cells_agg cells_int cells_bool cells_str cells_rf cells_cp cells_rs cells_sl cells_mp cells_fn cells_ifc cells_nil fill_nil fill_cons setAll_nil setAll_cons
  putsX_cons putsX_nil loopK_loop roundX_normal roundX_exit roundX_ret iadr_rs iadr_sl' len_rs len_sl' len_nil iadrA_rf iadrA_cp slD_some sl_len sl_cells sl_under sl_nilEq bound_none bound_some
end Go.Aug
namespace Go.Aug
abbrev big : Nat := 9223372036854775807
theorem elem_at {α : Type} {c : α → List D} {s : Nat} (hc : ∀ x, (c x).length = s) (rep : Option (Option Nat)) (l : List α) (k : IntKind) (n : Nat) (x : α) (h : l[n]? = some x) :
    evIadr s (slD rep l.length (l.flatMap c)) (.v (.int k (n : Nat))) = some (.cp (c x ++ (l.drop (n + 1)).flatMap c)) := by
  obtain ⟨hlt, hx⟩ := List.getElem?_eq_some_iff.1 h
  have hsplit : l = l.take n ++ x :: l.drop (n + 1) := by rw [← hx, List.getElem_cons_drop, List.take_append_drop]
  have hlen : (l.take n).length = n := by simp; omega
  have := sl_zip hc rep (l.take n) x (l.drop (n + 1)) k
  rw [← hsplit, hlen] at this
  exact this
theorem load_elem (H : Heap) (a rest : List D) (s : Nat) (h : a.length = s) : evLoad H (some s) (.cp (a ++ rest)) = some (.agg a) := by
  rw [load_cp, pick_some, if_pos (by simp; omega), List.take_left' h]
theorem wrap_len {a n : Nat} (h : a < n) (hn : n ≤ big) : IntKind.i64.wrap ((a : Int) + 1) = ((a + 1 : Nat) : Int) := by
  have hn : n ≤ 9223372036854775807 := hn
  rw [wrap64 (by omega) (by omega)]
  rfl
@[simp] theorem not_add_lt (a k : Nat) : (a + k < a) = False := by simp
@[simp] theorem nat_lt_zero (n : Nat) : ((n : Int) < 0) = False := by simp
@[simp] theorem nat_ge_zero (n : Nat) : ((0 : Int) ≤ n) = True := by simp
@[simp] theorem lt_more (a : Int) (b : Nat) : a < a + ((b : Int) + 1) := by omega
def idx {α : Type} (p : α → Bool) (l : List α) : Int := match l.findIdx? p with | some i => i | none => -1
theorem idx_none {α : Type} {p : α → Bool} {l : List α} (h : ∀ x ∈ l, p x = false) : idx p l = -1 := by
  have : l.findIdx? p = none := by rw [List.findIdx?_eq_none_iff]; exact h
  simp [idx, this]
theorem idx_some {α : Type} {p : α → Bool} (pre : List α) (x : α) (suf : List α) (h : ∀ y ∈ pre, p y = false) (hx : p x = true) : idx p (pre ++ x :: suf) = pre.length := by
  have h0 : pre.findIdx? p = none := by rw [List.findIdx?_eq_none_iff]; exact h
  simp [idx, List.findIdx?_append, h0, List.findIdx?_cons, hx]
theorem eq_val (a b : Int) (s : ByteArray) (a' b' : Int) (s' : ByteArray) : eqAny (.cells [.int, .int, .text]) (.agg [i64D a, i64D b, strD s]) (.agg [i64D a', i64D b', strD s']) = some (decide (a = a') && decide (b = b') && decide (s = s')) := by
  have e1 : (a == a') = decide (a = a') := by by_cases h : a = a' <;> simp [h]
  have e2 : (b == b') = decide (b = b') := by by_cases h : b = b' <;> simp [h]
  have e3 : (s.toList == s'.toList) = decide (s = s') := by
    by_cases h : s = s'
    · simp [h]
    · have : ¬ s.toList = s'.toList := fun e => h ((toList_inj s s').1 e)
      simp [h, this]
  simp only [eqAny, eqL, eqK, if_true, e1, e2, e3]
  cases decide (a = a') <;> cases decide (b = b') <;> cases decide (s = s') <;> rfl
theorem gK_not (b : Bool) (p q : Prop) : @gK (!b) ⟨p⟩ ⟨q⟩ = @gK b ⟨q⟩ ⟨p⟩ := by cases b <;> simp
theorem setAll_from : ∀ (c z pre : List D), c.length = z.length → setAll (pre ++ z) pre.length c = pre ++ c
  | [], [], pre, _ => by simp [setAll]
  | d :: c, y :: z, pre, h => by
    have e : (pre ++ y :: z).set pre.length d = (pre ++ [d]) ++ z := by simp
    have e2 : pre.length + 1 = (pre ++ [d]).length := by simp
    rw [setAll, e, e2, setAll_from c z (pre ++ [d]) (by simpa using h)]
    simp
theorem setAll_full (z c : List D) (h : c.length = z.length) : setAll z 0 c = c := setAll_from c z [] h
@[simp] theorem nbeq (a b : Nat) : Nat.beq a b = decide (a = b) := by
  by_cases h : a = b
  · subst h; simp
  · simp only [h, decide_false]; exact by
      cases hb : Nat.beq a b with
      | true => exact absurd (Nat.eq_of_beq_eq_true hb) h
      | false => rfl
@[simp] theorem slD_none0 (cells : List D) : slD none 0 cells = .v (.slice none 0 0) := Eq.trans rfl rfl
end Go.Aug
namespace Go.Aug
open Go.RowKit
abbrev frz2 (H : Heap) (lo n : Nat) (d : D) : Option D := frz H lo n d
variable {P : Program} {ρ : Ren} {Im : Nat → Prop} {H : Heap} {w w' : World}
theorem frz2_ok {ρ' : Ren} {Im' Im'' : Nat → Prop} {H' : Heap} {w' : World} {lo : Nat} (hs : Sim P ρ' Im' H' w') (hρ : ∀ r, r < lo → ρ r = ρ' r) (him : ∀ b, Im' b → Im'' b) (hnew : ∀ r o b, lo ≤ r → H'.get r = some o → ρ' r = some b → Im'' b) :
    ∀ (n : Nat) (d d' : D) (v : Value), frz2 H' lo n d = some d' → Rel ρ' Im' w' d v → Rel ρ Im'' w' d' v := frz_ok hs hρ him hnew
def pureOrc2 (spec : List D → Option D) (args : List D) (H : Heap) : Option (D × Heap) :=
  if D.under.underAll 0 args then (spec args).map fun d => (d, H)
  else match frzL (frz2 H 0 64) args with
    | some args' => match spec args' with
      | some d => if flat d then some (d, H) else none
      | none => none
    | none => none
theorem pure2_ok {T : Tab} (hT : TabOk P T) {f : FuncId} {spec : List D → Option D} (h : ∀ args d, spec args = some d → ∃ n, ev T n (.fn f) args H0 = some (d, H0)) : OrcOk P f (pureOrc2 spec) := by
  intro args H r H' hg ρ Im w vs hs hr
  unfold pureOrc2 at hg
  split at hg
  · rename_i hu
    simp only [Option.map_eq_some_iff, Prod.mk.injEq] at hg
    obtain ⟨d, hd, rfl, rfl⟩ := hg
    obtain ⟨n, hn⟩ := h args d hd
    refine Came.at ((ev_ok hT n).fn f args H0 d H0 hn ρ0 Im w vs (Sim.empty hs.imlt hs.glob) (hr.restrict (fun r hr => by omega) hu)) ?_ (yl_under hu)
    rintro e w' ⟨v, ρ', Im', rfl, hp, hrel⟩
    have hud : d.under 0 = true := hrel.under hp.sim.fresh
    refine ⟨v, ρ, Im', rfl, Post.quiet hs hp.size (fun b hb => hp.foot b hb fun r o hr => by simp [Heap.get, H0, look] at hr) hp.later.im (fun b hb hi => ?_) hp.sim.imlt hp.calm, hrel.restrict (fun r hr => by omega) hud⟩
    rcases hp.imfoot b hb hi with h1 | ⟨r, o, h1, _⟩
    · exact h1
    · simp [Heap.get, H0, look] at h1
  · split at hg
    · rename_i args' ha
      split at hg
      · rename_i d hd
        split at hg
        · rename_i hfl
          simp only [Option.some.injEq, Prod.mk.injEq] at hg
          obtain ⟨rfl, rfl⟩ := hg
          obtain ⟨n, hn⟩ := h args' d hd
          have him : ∀ b, (Im b ∨ ∃ r o, H.get r = some o ∧ ρ r = some b) → b < w.heap.size := fun b hb => by
            rcases hb with hb | ⟨r, o, h1, h2⟩
            · exact hs.imlt b hb
            · exact hs.lt h1 h2
          have hr' : RelL ρ0 (fun b => Im b ∨ ∃ r o, H.get r = some o ∧ ρ r = some b) w args' vs := by
            obtain ⟨g1, g2⟩ := frzL_get ha
            refine ⟨by rw [g1, hr.1], fun i d' hd' => ?_⟩
            obtain ⟨d, e1, e2⟩ := g2 i d' hd'
            exact frz2_ok (ρ := ρ0) (lo := 0) hs (fun r hr => by omega) (fun b hb => .inl hb) (fun r o b _ h1 h2 => .inr ⟨r, o, h1, h2⟩) 64 d d' _ e2 (hr.2 i d e1)
          refine Came.at ((ev_ok hT n).fn f args' H0 d H0 hn ρ0 _ w vs (Sim.empty him (hs.glob.more fun b hb => .inl hb)) hr') ?_ (yl_frz ha)
          rintro e w' ⟨v, ρ', Im', rfl, hp, hrel⟩
          refine ⟨v, ρ, Im, rfl, Post.quiet hs hp.size (fun b hb => hp.foot b hb fun r o hr => by simp [Heap.get, H0, look] at hr) (fun _ h => h) (fun _ _ h => h) (fun b hb => Nat.lt_of_lt_of_le (hs.imlt b hb) hp.size) hp.calm, hrel.flat hfl⟩
        · cases hg
      · cases hg
    · cases hg
noncomputable def runSpec (T : Tab) (f : FuncId) (args : List D) : Option D := by
  classical exact if h : ∃ d, Run T (.fn f) args H0 d H0 then some (Classical.choose h) else none
theorem runSpec_eq {T : Tab} {f : FuncId} {args : List D} {d : D} (h : Run T (.fn f) args H0 d H0) : runSpec T f args = some d := by
  unfold runSpec
  rw [dif_pos ⟨d, h⟩]
  exact congrArg some ((Classical.choose_spec (⟨d, h⟩ : ∃ d, Run T (.fn f) args H0 d H0)).same h).1
theorem runSpec_run {T : Tab} {f : FuncId} {args : List D} {d : D} (h : runSpec T f args = some d) : ∃ n, ev T n (.fn f) args H0 = some (d, H0) := by
  unfold runSpec at h
  split at h
  · rename_i hx
    cases h
    obtain ⟨n, hn⟩ := Classical.choose_spec hx
    exact ⟨n, hn n (Nat.le_refl n)⟩
  · cases h
theorem runSpec_orc {T : Tab} (hT : TabOk P T) (f : FuncId) : OrcOk P f (pureOrc2 (runSpec T f)) := pure2_ok hT fun _ _ h => runSpec_run h
theorem cK_pure {T T' : Tab} {f : FuncId} {args : List D} {H : Heap} {d : D} {R : D → Heap → Prop} (ho : T'.orc f = some (pureOrc2 (runSpec T f))) (hu : D.under.underAll 0 args = true) (hd : Run T (.fn f) args H0 d H0) (h : R d H) : cK T' (.fn f) args H R := by
  refine cK_orc ho ?_
  unfold pureOrc2
  simp only [hu, if_true, runSpec_eq hd, Option.map_some]
  exact ⟨_, rfl, h⟩
end Go.Aug
