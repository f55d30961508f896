/-
The kinds of expressions and the places that they name, as chapter 09 has them. Conditions: none; definitions and plain lemmas.
-/
import Derived.Test.YtnpoicmaiieanaaGreatDoorTS3
namespace Go.Aug.Api
open Go.Aug

def zItem : TItem := ⟨false, .nil, ⟨#[]⟩, 0, fun _ h => by simp [Sl.nil] at h, Nat.zero_le _⟩
/-- The place of a variable's item; below 0: there is none. -/
def placeS (l : List TItem) (v : ByteArray) : Int := idx (fun x : TItem => decide (x.var = v)) l
def itemS (l : List TItem) (v : ByteArray) : TItem := match l.find? (fun x => decide (x.var = v)) with
  | some x => x
  | none => zItem

/-- The kind of a field in the schema of a name. -/
def kindF (l : List TSchema) (f name : ByteArray) : Int := (fieldS (findS l name).1 f).2
/-- The kind of a field, if it has one alone in the schemas of all names. -/
def fieldK (l : List TSchema) (names : List ByteArray) (f : ByteArray) : Int :=
  match names with
  | [] => 0
  | n :: r => if (r.all fun m => decide (kindF l f m = kindF l f n)) = true then kindF l f n else 0

/-- What an expression's kind is, that has no parts. -/
def leafK (l : List TSchema) (q : List TItem) (k vk : Int) (var f : ByteArray) : Int :=
  if k = 1 then vk else
  let kind := if k = 2 then fieldK l (itemS q var).names.l f else if k = 3 then 1 else if k = 4 ∨ k = 5 ∨ k = 6 then (if fieldK l (itemS q var).names.l f = 1 then 1 else 0) else 0
  if placeS q var < 0 ∨ ((itemS q var).not = true ∧ k ≠ 2) then 0 else kind

mutual
/-- An expression's kind; 0: it has none. -/
def kindS (l : List TSchema) (q : List TItem) : TExpr → Int
  | .mk k v var f _ kids => if k = 7 ∨ k = 8 then kindTwo l q kids else leafK l q k v.kind var f
def kindTwo (l : List TSchema) (q : List TItem) : List TExpr → Int
  | [a, b] => if kindS l q a = 1 ∧ kindS l q b = 1 then 1 else 0
  | _ => 0
end

mutual
/-- The variables that an expression names. -/
def eachV : TExpr → List ByteArray
  | .mk k _ var _ _ kids => if 2 ≤ k ∧ k ≤ 6 then [var] else if k = 7 ∨ k = 8 then eachVs kids else []
def eachVs : List TExpr → List ByteArray
  | [] => []
  | x :: l => eachV x ++ eachVs l
end

/-- Places, each once, as they come. -/
def addP (l : List Int) (n : Int) : List Int := if 0 ≤ n then (if l.contains n then l else l ++ [n]) else l
def placesS (q : List TItem) (vs : List ByteArray) : List Int := vs.foldl (fun l v => addP l (placeS q v)) []
/-- The places that expressions name, rising. -/
def varsS (q : List TItem) (xs : List TExpr) : List Int := sortI (placesS q (eachVs xs))

end Go.Aug.Api
