/-
strings.Join, and strconv.FormatInt of 0 to 99, as oracles. Conditions: the contracts.
-/
import Derived.Test.YtmfhanoibbmnlaaGreatDoorTO3
import Derived.Lib.Join
import Derived.Lib.LaidTab
namespace Go.Aug
open Go.RowKit
variable {P : Program} {ρ : Ren} {Im : Nat → Prop} {H : Heap} {w w' : World}
theorem Post.below (h : Sim P ρ Im H w) (hb : Below w.heap.size w w') : Post P ρ Im H w ρ Im H w' :=
  Post.quiet h hb.size (fun b hb' => hb.block b hb') (fun _ h => h) (fun _ _ h => h) (fun b hb' => Nat.lt_of_lt_of_le (h.imlt b hb') hb.size) ⟨hb.os, hb.tape, hb.output⟩
def textsL : List D → Option (List ByteArray)
  | [] => some []
  | .v (.string s) :: l => match textsL l with
    | some r => some (s :: r)
    | none => none
  | _ => none
theorem textsL_inv : ∀ {l : List D} {xs : List ByteArray}, textsL l = some xs → l = xs.map fun s => .v (.string s)
  | [], xs, h => by cases h; rfl
  | d :: l, xs, h => by
    unfold textsL at h
    split at h
    · rename_i heq; cases heq
    · rename_i s l' heq
      cases heq
      split at h
      · rename_i r hr
        cases h
        rw [textsL_inv hr]
        rfl
      · cases h
    · cases h
def joinB (xs : List ByteArray) (sep : ByteArray) : List UInt8 := Lib.join (xs.map (·.data.toList)) sep.data.toList
def orcJoin : List D → Heap → Option (D × Heap)
  | [x, .v (.string sep)], H => match firstD H false 1 x with
    | some (_, l) => (match textsL l with
      | some xs => if xs.length ≤ 140737488355328 ∧ (joinB xs sep).length ≤ 140737488355328 then some (.v (.string ⟨(joinB xs sep).toArray⟩), H) else none
      | none => none)
    | none => none
  | _, _ => none
structure JoinOk (P : Program) (f : FuncId) : Prop where
  enter : ∀ args W, (callFunc f args).run P W = .ok (.enter f args) W
  nil : ∀ (a : Option Addr) (c : Nat) (sep : ByteArray) (W : World), Calls P f #[.slice a 0 c, .string sep] W fun e w' => e = .returned (.string ⟨#[]⟩) ∧ w' = W
  row : ∀ (bk o c : Nat) (xs : List ByteArray) (sep : ByteArray) (W : World), (∀ (j : Nat) x, xs[j]? = some x → W.cell? ⟨bk, o + j, none⟩ = some (.string x)) → bk < W.heap.size → xs.length ≤ 140737488355328 → xs.length ≤ c → (joinB xs sep).length ≤ 140737488355328 →
    Calls P f #[.slice (some ⟨bk, o, none⟩) xs.length c, .string sep] W fun e w' => e = .returned (.string ⟨(joinB xs sep).toArray⟩) ∧ Below W.heap.size W w'
theorem join_ok {f : FuncId} (hJ : JoinOk P f) : OrcOk P f orcJoin := by
  intro args H r H' hg ρ Im w vs hs hr
  unfold orcJoin at hg
  split at hg
  · rename_i x sep
    split at hg
    · rename_i n l hf
      split at hg
      · rename_i xs hx
        split at hg
        · rename_i hlen
          simp only [Option.some.injEq, Prod.mk.injEq] at hg
          obtain ⟨rfl, rfl⟩ := hg
          obtain ⟨hl, hrel⟩ := hr
          have h0 := hrel 0 _ rfl
          have h1 := (hrel 1 _ rfl).v_inv
          rw [arr_two (a := vs) (by simpa using hl.symm), h1]
          generalize gv vs 0 = v0 at h0
          have hl2 := textsL_inv hx
          have nil : ∀ (a : Option Addr) (c : Nat), xs = [] → v0 = .slice a 0 c → Came P ρ Im H w f [x, .v (.string sep)] #[v0, .string sep] (.v (.string ⟨(joinB xs sep).toArray⟩)) H := by
            rintro a c rfl rfl
            refine .inl ⟨hJ.enter _ w, fun n => (callsIn_wide.2 (hJ.nil a c sep w)).mono ?_⟩
            rintro e w' ⟨rfl, rfl⟩
            exact ⟨_, ρ, Im, rfl, Post.refl hs, .v _⟩
          have some_ : ∀ (b o c : Nat), v0 = .slice (some ⟨b, o, none⟩) xs.length c → xs.length ≤ c → b < w.heap.size → (∀ (j : Nat) x, xs[j]? = some x → w.cell? ⟨b, o + j, none⟩ = some (.string x)) → Came P ρ Im H w f [x, .v (.string sep)] #[v0, .string sep] (.v (.string ⟨(joinB xs sep).toArray⟩)) H := by
            rintro b o c rfl hc hb hcells
            refine .inl ⟨hJ.enter _ w, fun n => (callsIn_wide.2 (hJ.row b o c xs sep w hcells hb hlen.1 hc hlen.2)).mono ?_⟩
            rintro e w' ⟨rfl, hbel⟩
            exact ⟨_, ρ, Im, rfl, Post.below hs hbel, .v _⟩
          unfold firstD at hf
          simp only at hf
          split at hf
          · cases hf
            cases hx
            exact nil none 0 rfl h0.v_inv
          · rename_i m l' cap
            split at hf
            · rename_i hll
              simp only [beq_iff_eq, Nat.mul_one] at hll
              cases hf
              cases h0 with
              | sz hc =>
                cases hx
                exact nil _ _ rfl rfl
              | sl cs hn hc hi hr =>
                rename_i b o c
                have hxl : xs.length = n := by rw [← hll, hl2]; simp
                by_cases hx0 : xs = []
                · have : n = 0 := by rw [← hxl, hx0]; rfl
                  subst this
                  exact nil _ _ hx0 rfl
                · have hpos : 0 < l.length := by rw [hll, ← hxl]; exact List.length_pos_iff.2 hx0
                  refine some_ b o c (by rw [hxl]) (by omega) (hs.imlt b (hi 0 hpos).1) fun j y hy => ?_
                  have hj : j < xs.length := (List.getElem?_eq_some_iff.1 hy).1
                  have hjd : l[j]? = some (.v (.string y)) := by rw [hl2, List.getElem?_map, hy]; rfl
                  rw [(hi j (by omega)).2.1, (hr j _ hjd).v_inv]
            · cases hf
          · rename_i q off m cap sz
            split at hf
            · rename_i l' hget
              split at hf
              · rename_i hfit
                cases hf
                cases h0 with
                | rs hren hn hc hblk =>
                rename_i b c
                obtain ⟨cs, te, hb1, hb2, hone, hrr⟩ := hs.cells hget hren
                have hxl : xs.length = n := by
                  have := congrArg List.length hl2
                  simp at this
                  omega
                have hlt : b < w.heap.size := (Array.getElem?_eq_some_iff.1 hb1).1
                refine some_ b off c (by rw [hxl]) (by omega) hlt fun j y hy => ?_
                have hj : j < xs.length := (List.getElem?_eq_some_iff.1 hy).1
                have hjd : ((l'.drop off).take (n * 1))[j]? = some (.v (.string y)) := by rw [hl2, List.getElem?_map, hy]; rfl
                rw [List.getElem?_take] at hjd
                split at hjd
                · rw [List.getElem?_drop] at hjd
                  have h3 := (hrr (off + j) _ hjd).v_inv
                  have hlt2 : off + j < cs.size := by omega
                  simp only [World.cell?, hb1]
                  rw [← h3]
                  exact gv_lt hlt2
                · cases hjd
              · cases hf
            · cases hf
          · cases hf
        · cases hg
      · cases hg
    · cases hg
  · cases hg
def orcFormat : List D → Heap → Option (D × Heap)
  | [.v (.int .i64 n), .v (.int .i64 b)], H => if -9223372036854775808 ≤ n ∧ n ≤ 9223372036854775807 ∧ b = 10 then some (.v (.string ⟨(Lib.itoa n).toArray⟩), H) else none
  | _, _ => none
theorem tab_of {g : Nat} {gl : Global} (hg : P.globals[g]? = some gl) (hn : gl.name = "internal/strconv.uint64pow10") (hG : P.globalNamed "internal/strconv.uint64pow10" = some g) (hs : GlobOk P Im w) : Lib.TabIs P w "internal/strconv.uint64pow10" .u64 Lib.pow10Tab := by
  obtain ⟨-, cs, e, f', c1, c3⟩ := hs g gl hg (by unfold globNeed; rw [hn]; rfl)
  rw [hn, if_neg (by decide), if_pos rfl] at c3
  unfold Lib.TabIs World.var?
  rw [hG]
  simp only [Option.bind_some, c1, c3]
theorem format_ok {f g : FuncId} (hgl : (P.globals[g]?.any fun gl => gl.name == "internal/strconv.uint64pow10") = true) (hG : P.globalNamed "internal/strconv.uint64pow10" = some g) (enter : ∀ args W, (callFunc f args).run P W = .ok (.enter f args) W)
    (calls : ∀ (n : Int) (W : World), -9223372036854775808 ≤ n → n ≤ 9223372036854775807 → Lib.TabIs P W "internal/strconv.uint64pow10" .u64 Lib.pow10Tab → Calls P f #[.int .i64 n, .int .i64 10] W fun e w' => e = .returned (.string ⟨(Lib.itoa n).toArray⟩) ∧ Below W.heap.size W w') : OrcOk P f orcFormat := by
  obtain ⟨gl, hg, hn⟩ : ∃ gl, P.globals[g]? = some gl ∧ gl.name = "internal/strconv.uint64pow10" := by
    cases h : P.globals[g]? with
    | none => rw [h] at hgl; cases hgl
    | some gl => rw [h] at hgl; exact ⟨gl, rfl, by simpa using hgl⟩
  intro args H r H' hgo ρ Im w vs hs hr
  unfold orcFormat at hgo
  split at hgo
  · rename_i n b
    split at hgo
    · rename_i hb
      obtain ⟨h0, h1, rfl⟩ := hb
      simp only [Option.some.injEq, Prod.mk.injEq] at hgo
      obtain ⟨rfl, rfl⟩ := hgo
      obtain ⟨hl, hrel⟩ := hr
      have e0 := (hrel 0 _ rfl).v_inv
      have e1 := (hrel 1 _ rfl).v_inv
      rw [arr_two (a := vs) (by simpa using hl.symm), e0, e1]
      refine .inl ⟨enter _ w, fun k => (callsIn_wide.2 (calls n w h0 h1 (tab_of hg hn hG hs.glob))).mono ?_⟩
      rintro e w' ⟨rfl, hb⟩
      exact ⟨_, ρ, Im, rfl, Post.below hs hb, .v _⟩
    · cases hgo
  · cases hgo
end Go.Aug

namespace Go.Proofs.YtmfhanoibbmnlaaGreatDoor.Tz
open Go.Aug
set_option maxRecDepth 100000
abbrev n_q5 : Nat := 5
abbrev n_q6 : Nat := 6
abbrev n_q1 : Nat := 7
abbrev n_q4 : Nat := 8
abbrev n_q59 : Nat := 10
abbrev n_q62 : Nat := 12
abbrev n_q58 : Nat := 14
abbrev n_q43 : Nat := 16
abbrev n_q22 : Nat := 18
abbrev n_q21 : Nat := 19
abbrev n_q2 : Nat := 20
abbrev n_q3 : Nat := 21
abbrev n_q64 : Nat := 22
abbrev n_q60 : Nat := 23
abbrev n_q88 : Nat := 24
abbrev n_q86 : Nat := 25
abbrev n_q61 : Nat := 26
abbrev n_q80 : Nat := 27
abbrev n_q65 : Nat := 28
abbrev n_q63 : Nat := 29
abbrev n_q81 : Nat := 30
abbrev n_q111 : Nat := 32
abbrev n_q76 : Nat := 33
abbrev n_q108 : Nat := 34
abbrev n_q66 : Nat := 35
abbrev n_q24 : Nat := 37
abbrev n_q42 : Nat := 38
abbrev n_q40 : Nat := 39
abbrev n_q23 : Nat := 40
abbrev n_q20 : Nat := 41
abbrev n_q13 : Nat := 42
abbrev n_q37 : Nat := 43
abbrev n_q0 : Nat := 44
abbrev n_q90 : Nat := 45
abbrev n_q85 : Nat := 46
abbrev n_q83 : Nat := 47
abbrev n_q114 : Nat := 52
abbrev n_q112 : Nat := 53
abbrev n_q117 : Nat := 54
abbrev n_q79 : Nat := 55
abbrev n_q92 : Nat := 56
abbrev n_q77 : Nat := 57
abbrev n_q55 : Nat := 58
abbrev n_q53 : Nat := 59
abbrev n_q54 : Nat := 60
abbrev n_q115 : Nat := 62
abbrev n_q109 : Nat := 63
abbrev n_q107 : Nat := 64
abbrev n_q116 : Nat := 65
abbrev n_q110 : Nat := 66
abbrev n_q121 : Nat := 67
abbrev n_q120 : Nat := 68
abbrev n_q105 : Nat := 69
abbrev n_q118 : Nat := 70
abbrev n_q87 : Nat := 72
abbrev n_q67 : Nat := 73
abbrev n_q9 : Nat := 79
abbrev n_q7 : Nat := 80
abbrev n_q11 : Nat := 81
abbrev n_q12 : Nat := 82
abbrev n_q15 : Nat := 83
abbrev n_q19 : Nat := 84
abbrev n_q14 : Nat := 85
abbrev n_q16 : Nat := 86
abbrev n_q17 : Nat := 87
abbrev n_q18 : Nat := 88
abbrev n_q32 : Nat := 89
abbrev n_q31 : Nat := 90
abbrev n_q38 : Nat := 91
abbrev n_q36 : Nat := 92
abbrev n_q35 : Nat := 93
abbrev n_q33 : Nat := 94
abbrev n_q26 : Nat := 95
abbrev n_q28 : Nat := 96
abbrev n_q72 : Nat := 97
abbrev n_q82 : Nat := 98
abbrev n_q84 : Nat := 99
abbrev n_q123 : Nat := 101
abbrev n_q119 : Nat := 102
abbrev n_q68 : Nat := 103
abbrev n_q69 : Nat := 104
abbrev n_q75 : Nat := 105
abbrev n_q78 : Nat := 106
abbrev n_q101 : Nat := 107
abbrev n_q44 : Nat := 108
abbrev n_q56 : Nat := 109
abbrev n_q57 : Nat := 110
abbrev n_q103 : Nat := 113
abbrev n_q113 : Nat := 114
abbrev n_q89 : Nat := 116
abbrev n_q10 : Nat := 121
abbrev n_q30 : Nat := 122
abbrev n_q27 : Nat := 123
abbrev n_q25 : Nat := 124
abbrev n_q34 : Nat := 125
abbrev n_q73 : Nat := 126
abbrev n_q106 : Nat := 127
abbrev n_q122 : Nat := 128
abbrev n_q124 : Nat := 129
abbrev n_q47 : Nat := 130
abbrev n_q91 : Nat := 131
abbrev n_q97 : Nat := 132
abbrev n_q96 : Nat := 133
abbrev n_q94 : Nat := 134
abbrev n_q95 : Nat := 135
abbrev n_q102 : Nat := 136
abbrev n_q98 : Nat := 137
abbrev n_q100 : Nat := 138
abbrev n_q99 : Nat := 139
abbrev n_q45 : Nat := 140
abbrev n_q46 : Nat := 141
abbrev n_q104 : Nat := 144
abbrev n_q8 : Nat := 154
abbrev n_q39 : Nat := 155
abbrev n_q74 : Nat := 156
abbrev n_q126 : Nat := 158
abbrev n_q51 : Nat := 159
abbrev n_q41 : Nat := 174
abbrev n_q29 : Nat := 175
abbrev n_q125 : Nat := 177
abbrev n_q48 : Nat := 178
abbrev n_q52 : Nat := 179
abbrev n_q49 : Nat := 180
abbrev n_q93 : Nat := 181
abbrev n_q70 : Nat := 182
abbrev n_q50 : Nat := 190
abbrev n_q71 : Nat := 193
end Go.Proofs.YtmfhanoibbmnlaaGreatDoor.Tz
