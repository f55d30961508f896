/-
strings.Join, and strconv.FormatInt of 0 to 99, as oracles. Conditions: the contracts.
-/
import Derived.Test.YthdkeggdipogoaaGreatDoorGE
import Derived.Test.YthdkeggdipogoaaGreatDoorTO3
import Derived.Lib.Join
import Derived.Lib.ItoaNum
import Derived.Lib.LaidTab
import Derived.Test.YthdkeggdipogoaaGreatDoorGA
namespace Go.Aug
open Go.RowKit
variable {P : Program} {ρ : Ren} {Im : Nat → Prop} {H : Heap} {w w' : World}
theorem Post.below (h : Sim P ρ Im H w) (hb : Below w.heap.size w w') : Post P ρ Im H w ρ Im H w' :=
  Post.quiet h hb.size (fun b hb' => hb.block b hb') (fun _ h => h) (fun _ _ h => h) (fun b hb' => Nat.lt_of_lt_of_le (h.imlt b hb') hb.size) ⟨hb.os, hb.tape, hb.output⟩
def textsL : List D → Option (List ByteArray)
  | [] => some []
  | .v (.string s) :: l => match textsL l with
    | some r => some (s :: r)
    | none => none
  | _ => none
theorem textsL_inv : ∀ {l : List D} {xs : List ByteArray}, textsL l = some xs → l = xs.map fun s => .v (.string s)
  | [], xs, h => by cases h; rfl
  | d :: l, xs, h => by
    unfold textsL at h
    split at h
    · rename_i heq; cases heq
    · rename_i s l' heq
      cases heq
      split at h
      · rename_i r hr
        cases h
        rw [textsL_inv hr]
        rfl
      · cases h
    · cases h
def joinB (xs : List ByteArray) (sep : ByteArray) : List UInt8 := Lib.join (xs.map (·.data.toList)) sep.data.toList
def orcJoin : List D → Heap → Option (D × Heap)
  | [x, .v (.string sep)], H => match firstD H false 1 x with
    | some (_, l) => (match textsL l with
      | some xs => if xs.length ≤ 140737488355328 ∧ (joinB xs sep).length ≤ 140737488355328 then some (.v (.string ⟨(joinB xs sep).toArray⟩), H) else none
      | none => none)
    | none => none
  | _, _ => none
structure JoinOk (P : Program) (f : FuncId) : Prop where
  enter : ∀ args W, (callFunc f args).run P W = .ok (.enter f args) W
  nil : ∀ (a : Option Addr) (c : Nat) (sep : ByteArray) (W : World), Calls P f #[.slice a 0 c, .string sep] W fun e w' => e = .returned (.string ⟨#[]⟩) ∧ w' = W
  row : ∀ (bk o c : Nat) (xs : List ByteArray) (sep : ByteArray) (W : World), (∀ (j : Nat) x, xs[j]? = some x → W.cell? ⟨bk, o + j, none⟩ = some (.string x)) → bk < W.heap.size → xs.length ≤ 140737488355328 → xs.length ≤ c → (joinB xs sep).length ≤ 140737488355328 →
    Calls P f #[.slice (some ⟨bk, o, none⟩) xs.length c, .string sep] W fun e w' => e = .returned (.string ⟨(joinB xs sep).toArray⟩) ∧ Below W.heap.size W w'
theorem join_ok {f : FuncId} (hJ : JoinOk P f) : OrcOk P f orcJoin := by
  intro args H r H' hg ρ Im w vs hs hr
  unfold orcJoin at hg
  split at hg
  · rename_i x sep
    split at hg
    · rename_i n l hf
      split at hg
      · rename_i xs hx
        split at hg
        · rename_i hlen
          simp only [Option.some.injEq, Prod.mk.injEq] at hg
          obtain ⟨rfl, rfl⟩ := hg
          obtain ⟨hl, hrel⟩ := hr
          have h0 := hrel 0 _ rfl
          have h1 := (hrel 1 _ rfl).v_inv
          rw [arr_two (a := vs) (by simpa using hl.symm), h1]
          generalize gv vs 0 = v0 at h0
          have hl2 := textsL_inv hx
          have nil : ∀ (a : Option Addr) (c : Nat), xs = [] → v0 = .slice a 0 c → Came P ρ Im H w f [x, .v (.string sep)] #[v0, .string sep] (.v (.string ⟨(joinB xs sep).toArray⟩)) H := by
            rintro a c rfl rfl
            refine .inl ⟨hJ.enter _ w, fun n => (callsIn_wide.2 (hJ.nil a c sep w)).mono ?_⟩
            rintro e w' ⟨rfl, rfl⟩
            exact ⟨_, ρ, Im, rfl, Post.refl hs, .v _⟩
          have some_ : ∀ (b o c : Nat), v0 = .slice (some ⟨b, o, none⟩) xs.length c → xs.length ≤ c → b < w.heap.size → (∀ (j : Nat) x, xs[j]? = some x → w.cell? ⟨b, o + j, none⟩ = some (.string x)) → Came P ρ Im H w f [x, .v (.string sep)] #[v0, .string sep] (.v (.string ⟨(joinB xs sep).toArray⟩)) H := by
            rintro b o c rfl hc hb hcells
            refine .inl ⟨hJ.enter _ w, fun n => (callsIn_wide.2 (hJ.row b o c xs sep w hcells hb hlen.1 hc hlen.2)).mono ?_⟩
            rintro e w' ⟨rfl, hbel⟩
            exact ⟨_, ρ, Im, rfl, Post.below hs hbel, .v _⟩
          unfold firstD at hf
          simp only at hf
          split at hf
          · cases hf
            cases hx
            exact nil none 0 rfl h0.v_inv
          · rename_i m l' cap
            split at hf
            · rename_i hll
              simp only [beq_iff_eq, Nat.mul_one] at hll
              cases hf
              cases h0 with
              | sz hc =>
                cases hx
                exact nil _ _ rfl rfl
              | sl cs hn hc hi hr =>
                rename_i b o c
                have hxl : xs.length = n := by rw [← hll, hl2]; simp
                by_cases hx0 : xs = []
                · have : n = 0 := by rw [← hxl, hx0]; rfl
                  subst this
                  exact nil _ _ hx0 rfl
                · have hpos : 0 < l.length := by rw [hll, ← hxl]; exact List.length_pos_iff.2 hx0
                  refine some_ b o c (by rw [hxl]) (by omega) (hs.imlt b (hi 0 hpos).1) fun j y hy => ?_
                  have hj : j < xs.length := (List.getElem?_eq_some_iff.1 hy).1
                  have hjd : l[j]? = some (.v (.string y)) := by rw [hl2, List.getElem?_map, hy]; rfl
                  rw [(hi j (by omega)).2.1, (hr j _ hjd).v_inv]
            · cases hf
          · rename_i q off m cap sz
            split at hf
            · rename_i l' hget
              split at hf
              · rename_i hfit
                cases hf
                cases h0 with
                | rs hren hn hc hblk =>
                rename_i b c
                obtain ⟨cs, te, hb1, hb2, hone, hrr⟩ := hs.cells hget hren
                have hxl : xs.length = n := by
                  have := congrArg List.length hl2
                  simp at this
                  omega
                have hlt : b < w.heap.size := (Array.getElem?_eq_some_iff.1 hb1).1
                refine some_ b off c (by rw [hxl]) (by omega) hlt fun j y hy => ?_
                have hj : j < xs.length := (List.getElem?_eq_some_iff.1 hy).1
                have hjd : ((l'.drop off).take (n * 1))[j]? = some (.v (.string y)) := by rw [hl2, List.getElem?_map, hy]; rfl
                rw [List.getElem?_take] at hjd
                split at hjd
                · rw [List.getElem?_drop] at hjd
                  have h3 := (hrr (off + j) _ hjd).v_inv
                  have hlt2 : off + j < cs.size := by omega
                  simp only [World.cell?, hb1]
                  rw [← h3]
                  exact gv_lt hlt2
                · cases hjd
              · cases hf
            · cases hf
          · cases hf
        · cases hg
      · cases hg
    · cases hg
  · cases hg
def orcFormat : List D → Heap → Option (D × Heap)
  | [.v (.int .i64 n), .v (.int .i64 b)], H => if -9223372036854775808 ≤ n ∧ n ≤ 9223372036854775807 ∧ b = 10 then some (.v (.string ⟨(Lib.itoa n).toArray⟩), H) else none
  | _, _ => none
theorem tab_of {g : Nat} {gl : Global} (hg : P.globals[g]? = some gl) (hn : gl.name = "internal/strconv.uint64pow10") (hG : P.globalNamed "internal/strconv.uint64pow10" = some g) (hs : GlobOk P Im w) : Lib.TabIs P w "internal/strconv.uint64pow10" .u64 Lib.pow10Tab := by
  obtain ⟨-, cs, e, f', c1, c3⟩ := hs g gl hg (by unfold globNeed; rw [hn]; rfl)
  rw [hn, if_neg (by decide), if_pos rfl] at c3
  unfold Lib.TabIs World.var?
  rw [hG]
  simp only [Option.bind_some, c1, c3]
theorem format_ok {f g : FuncId} (hgl : (P.globals[g]?.any fun gl => gl.name == "internal/strconv.uint64pow10") = true) (hG : P.globalNamed "internal/strconv.uint64pow10" = some g) (enter : ∀ args W, (callFunc f args).run P W = .ok (.enter f args) W)
    (calls : ∀ (n : Int) (W : World), -9223372036854775808 ≤ n → n ≤ 9223372036854775807 → Lib.TabIs P W "internal/strconv.uint64pow10" .u64 Lib.pow10Tab → Calls P f #[.int .i64 n, .int .i64 10] W fun e w' => e = .returned (.string ⟨(Lib.itoa n).toArray⟩) ∧ Below W.heap.size W w') : OrcOk P f orcFormat := by
  obtain ⟨gl, hg, hn⟩ : ∃ gl, P.globals[g]? = some gl ∧ gl.name = "internal/strconv.uint64pow10" := by
    cases h : P.globals[g]? with
    | none => rw [h] at hgl; cases hgl
    | some gl => rw [h] at hgl; exact ⟨gl, rfl, by simpa using hgl⟩
  intro args H r H' hgo ρ Im w vs hs hr
  unfold orcFormat at hgo
  split at hgo
  · rename_i n b
    split at hgo
    · rename_i hb
      obtain ⟨h0, h1, rfl⟩ := hb
      simp only [Option.some.injEq, Prod.mk.injEq] at hgo
      obtain ⟨rfl, rfl⟩ := hgo
      obtain ⟨hl, hrel⟩ := hr
      have e0 := (hrel 0 _ rfl).v_inv
      have e1 := (hrel 1 _ rfl).v_inv
      rw [arr_two (a := vs) (by simpa using hl.symm), e0, e1]
      refine .inl ⟨enter _ w, fun k => (callsIn_wide.2 (calls n w h0 h1 (tab_of hg hn hG hs.glob))).mono ?_⟩
      rintro e w' ⟨rfl, hb⟩
      exact ⟨_, ρ, Im, rfl, Post.below hs hb, .v _⟩
    · cases hgo
  · cases hgo
end Go.Aug

namespace Go.Proofs.YthdkeggdipogoaaGreatDoor.Tz
open Go.Aug
set_option maxRecDepth 100000
abbrev n_augurylaw11_EvalNorm : Nat := 8
abbrev n_augurylaw08_Great : Nat := 11
abbrev n_norm_Place : Nat := 12
abbrev n_norm_Fold : Nat := 15
abbrev n_auguryref08_Same : Nat := 17
abbrev n_norm_Norm : Nat := 18
abbrev n_tree_Right : Nat := 20
abbrev n_augurylaw11_head : Nat := 23
abbrev n_augurylaw05_GreatSchemas : Nat := 24
abbrev n_augurylaw11_GreatBound : Nat := 25
abbrev n_auguryref08_Right : Nat := 26
abbrev n_eval_All : Nat := 27
abbrev n_eval_Value : Nat := 28
abbrev n_auguryref08_Parse : Nat := 30
abbrev n_augurylaw08_greatExpr : Nat := 32
abbrev n_check_Vars : Nat := 33
abbrev n_slices_Max_int : Nat := 34
abbrev n_value_Add : Nat := 36
abbrev n_value_Sub : Nat := 37
abbrev n_norm_key : Nat := 41
abbrev n_slices_SortFunc_keyed : Nat := 42
abbrev n_norm_Norm_1 : Nat := 43
abbrev n_cmp_Or_int : Nat := 44
abbrev n_cmp_Compare_int : Nat := 45
abbrev n_cmp_Compare_string : Nat := 46
abbrev n_tree_item : Nat := 49
abbrev n_tree_expression : Nat := 50
abbrev n_tree_name : Nat := 51
abbrev n_augurylaw11_one : Nat := 52
abbrev n_eval_Holds : Nat := 53
abbrev n_augurylaw05_GreatEvent : Nat := 54
abbrev n_auguryref08_rightItem : Nat := 55
abbrev n_auguryref08_RightExpr : Nat := 56
abbrev n_auguryref08_Name : Nat := 57
abbrev n_slices_ContainsFunc_Pred : Nat := 58
abbrev n_eval_All_1 : Nat := 59
abbrev n_eval_scope_value : Nat := 60
abbrev n_auguryref07_Read : Nat := 66
abbrev n_auguryref08_reader_query : Nat := 67
abbrev n_auguryref08_Sign : Nat := 69
abbrev n_auguryref08_pick : Nat := 71
abbrev n_check_vars : Nat := 72
abbrev n_value_reckoned : Nat := 74
abbrev n_tree_Print : Nat := 77
abbrev n_slices_pdqsortCmpFunc_keyed : Nat := 78
abbrev n_bits_Len : Nat := 79
abbrev n_cmp_isNaN_int : Nat := 80
abbrev n_cmp_isNaN_string : Nat := 81
abbrev n_value_Right : Nat := 82
abbrev n_tree_plain : Nat := 83
abbrev n_event_Word : Nat := 84
abbrev n_lex_Key : Nat := 85
abbrev n_value_Compare : Nat := 86
abbrev n_auguryref04_Right : Nat := 87
abbrev n_auguryref05_Word : Nat := 88
abbrev n_auguryref07_Key : Nat := 89
abbrev n_slices_IndexFunc_Pred : Nat := 90
abbrev n_eval_scope_two : Nat := 91
abbrev n_eval_scope_row : Nat := 92
abbrev n_eval_scope_field : Nat := 93
abbrev n_eval_scope_folded : Nat := 94
abbrev n_event_Find : Nat := 95
abbrev n_auguryref07_letter : Nat := 104
abbrev n_auguryref07_word : Nat := 105
abbrev n_auguryref07_digit : Nat := 106
abbrev n_auguryref07_number : Nat := 107
abbrev n_auguryref07_quoted : Nat := 108
abbrev n_auguryref07_sign : Nat := 109
abbrev n_auguryref08_reader_must : Nat := 110
abbrev n_auguryref08_reader_item : Nat := 111
abbrev n_auguryref08_reader_take : Nat := 112
abbrev n_auguryref08_reader_pred : Nat := 113
abbrev n_auguryref08_reader_number : Nat := 114
abbrev n_auguryref08_reader_name : Nat := 115
abbrev n_auguryref08_reader_fail : Nat := 116
abbrev n_auguryref08_word : Nat := 117
abbrev n_check_each : Nat := 118
abbrev n_check_vars_1 : Nat := 119
abbrev n_check_item : Nat := 120
abbrev n_slices_Sorted_int : Nat := 121
abbrev n_maps_Keys_int : Nat := 122
abbrev n_value_both : Nat := 125
abbrev n_tree_joined_Item : Nat := 127
abbrev n_tree_Print_1 : Nat := 128
abbrev n_strings_Join : Nat := 129
abbrev n_tree_joined_Pred : Nat := 130
abbrev n_tree_Print_2 : Nat := 131
abbrev n_tree_written : Nat := 132
abbrev n_tree_signs : Nat := 133
abbrev n_strconv_FormatInt : Nat := 134
abbrev n_tree_picks : Nat := 135
abbrev n_slices_insertionSortCmpFunc_keyed : Nat := 137
abbrev n_slices_heapSortCmpFunc_keyed : Nat := 138
abbrev n_slices_breakPatternsCmpFunc_keyed : Nat := 139
abbrev n_slices_choosePivotCmpFunc_keyed : Nat := 140
abbrev n_slices_reverseRangeCmpFunc_keyed : Nat := 141
abbrev n_slices_partialInsertionSortCmpFunc_keyed : Nat := 142
abbrev n_slices_partitionEqualCmpFunc_keyed : Nat := 143
abbrev n_slices_partitionCmpFunc_keyed : Nat := 144
abbrev n_bits_Len32 : Nat := 145
abbrev n_bits_Len64 : Nat := 146
abbrev n_strings_Contains : Nat := 147
abbrev n_strings_Compare : Nat := 148
abbrev n_cmp_Compare_int64 : Nat := 149
abbrev n_value_signs : Nat := 150
abbrev n_slices_IndexFunc_Item : Nat := 151
abbrev n_eval_scope_row_1 : Nat := 152
abbrev n_event_Field : Nat := 153
abbrev n_eval_folds : Nat := 154
abbrev n_eval_scope_numbers : Nat := 155
abbrev n_slices_IndexFunc_Schema : Nat := 156
abbrev n_event_Find_1 : Nat := 157
abbrev n_slices_Collect_int : Nat := 158
abbrev n_auguryref08_reader_is : Nat := 163
abbrev n_auguryref08_reader_expr : Nat := 164
abbrev n_auguryref08_reader_named : Nat := 165
abbrev n_check_item_1 : Nat := 166
abbrev n_maps_Keys_int_1 : Nat := 168
abbrev n_strconv_FormatBool : Nat := 171
abbrev n_tree_folds : Nat := 172
abbrev n_bytealg_CompareString : Nat := 180
abbrev n_cmp_isNaN_int64 : Nat := 181
abbrev n_slices_IndexFunc_Field : Nat := 182
abbrev n_event_Field_1 : Nat := 183
abbrev n_eval_folds_1 : Nat := 184
abbrev n_eval_folds_1_1 : Nat := 185
abbrev n_eval_scope_numbers_1 : Nat := 186
abbrev n_auguryref08_reader_term : Nat := 188
abbrev n_strconv_FormatBool_v2 : Nat := 192
abbrev n_auguryref08_reader_field : Nat := 200
end Go.Proofs.YthdkeggdipogoaaGreatDoor.Tz
