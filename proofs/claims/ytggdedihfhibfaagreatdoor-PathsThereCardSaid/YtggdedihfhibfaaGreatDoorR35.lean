/- Texts of one proof, packed: PlA -/
import Derived.Test.YtggdedihfhibfaaGreatDoorR14
import Derived.Test.YtggdedihfhibfaaGreatDoorR34
set_option linter.unusedVariables false
set_option linter.unusedSimpArgs false
set_option linter.deprecated false
set_option linter.unnecessarySimpa false
/- Paths, plain: tokens of a pattern; what a field fits in a tree. No program's text. -/
namespace Go.Proofs.YtggdedihfhibfaaGreatDoor
open Go.RowKit IntWalk
set_option linter.unusedVariables false
set_option linter.unusedSimpArgs false

theorem rangesS_len (s : List UInt8) (q : List Bool) (e : Nat) : ∀ f i, (rangesS s q e f i).length ≤ f
  | 0, i => by simp [rangesS]
  | f + 1, i => by
    have h1 := rangesS_len s q e f (i + 3)
    have h2 := rangesS_len s q e f (i + 1)
    unfold rangesS
    split
    · split
      · simp only [List.length_cons]; omega
      · simp only [List.length_cons]; omega
    · simp
theorem classRest_ok {s : List UInt8} {q : List Bool} {neg : Bool} {i : Nat} {r : GTok × Nat} (h : classRest s q neg i = some r) : r.1.k = 4 ∧ r.1.rs.length ≤ s.length := by
  unfold classRest at h
  split at h
  · cases h
  · cases h
    exact ⟨rfl, rangesS_len _ _ _ _ _⟩
theorem classS_ok {s : List UInt8} {q : List Bool} {i : Nat} {r : GTok × Nat} (h : classS s q i = some r) : r.1.k = 4 ∧ r.1.rs.length ≤ s.length := by
  unfold classS at h
  split at h
  · exact classRest_ok h
  · exact classRest_ok h
theorem tokS_ok (s : List UInt8) (q : List Bool) (i : Nat) : (tokS s q i).1.k ≤ 4 ∧ (tokS s q i).1.rs.length ≤ s.length ∧ i < (tokS s q i).2 := by
  unfold tokS
  split
  · exact ⟨by show 2 ≤ 4; omega, by simp, by show i < i + 1; omega⟩
  · split
    · exact ⟨by show 3 ≤ 4; omega, by simp, by show i < i + 1; omega⟩
    · split
      · cases h : classS s q i with
        | none => exact ⟨by show 1 ≤ 4; omega, by simp, by show i < i + 1; omega⟩
        | some r => exact ⟨by show r.1.k ≤ 4; rw [(classS_ok h).1]; omega, (classS_ok h).2, (classS_at h).1⟩
      · exact ⟨by show 1 ≤ 4; omega, by simp, by show i < i + 1; omega⟩
theorem tokensS_ok (s : List UInt8) (q : List Bool) : ∀ f i, (∀ t ∈ tokensS s q f i, t.k ≤ 4 ∧ t.rs.length ≤ s.length) ∧ (tokensS s q f i).length ≤ f
  | 0, i => ⟨fun t ht => by simp [tokensS] at ht, by simp [tokensS]⟩
  | f + 1, i => by
    have ih := tokensS_ok s q f (tokS s q i).2
    unfold tokensS
    split
    · refine ⟨fun t ht => ?_, by have := ih.2; simp only [List.length_cons]; omega⟩
      rcases List.mem_cons.1 ht with rfl | ht
      · exact ⟨(tokS_ok s q i).1, (tokS_ok s q i).2.1⟩
      · exact ih.1 t ht
    · exact ⟨fun t ht => by simp at ht, by simp⟩
theorem parseS_ok {s : List UInt8} (q : List Bool) (hs : s.length ≤ 100000) : TOk (parseS s q) := fun t ht => ⟨((tokensS_ok s q _ _).1 t ht).1, Nat.le_trans ((tokensS_ok s q _ _).1 t ht).2 hs⟩
theorem parseS_len (s : List UInt8) (q : List Bool) : (parseS s q).length ≤ s.length := (tokensS_ok s q _ _).2

/-- a part of a field -/
structure PartS where
  text : List UInt8
  toks : List GTok
def piecesS : List (List UInt8) → List Bool → List PartS
  | [], _ => []
  | s :: r, q => ⟨s, parseS s q⟩ :: piecesS r (q.drop (s.length + 1))
def nameOf (e : Key × Value × Nat) : List UInt8 := match e.1 with
  | .str t => t
  | _ => []
def leS (a b : List UInt8) : Bool := decide (a ≤ b)
def insS (x : List UInt8) : List (List UInt8) → List (List UInt8)
  | [] => [x]
  | y :: l => if leS x y then x :: y :: l else y :: insS x l
def sortS (l : List (List UInt8)) : List (List UInt8) := l.foldr insS []
/-- the names of a directory -/
def Fs.listS (s : Fs) (i : Int) : List (List UInt8) := match s.nd i with
  | some x => if x.kind = 2 then (match s.dr i with | some d => sortS (d.names.es.map nameOf) | none => []) else []
  | none => []
/-- whether a name begins with a dot that the pattern doesn't say -/
def hiddenS (L : List GTok) (name : List UInt8) : Bool := name.head? == some 46 && !(match L with
  | t :: _ => t.k == 1 && t.c == 46
  | [] => false)
def fitsS (L : List GTok) (name : List UInt8) : Bool := !hiddenS L name && matchS L name
/-- where names are looked for -/
def lookS (b : List UInt8) : List UInt8 := if b = [] then [46] else b
def Fs.fitS (s : Fs) (dir : Int) (L : List GTok) (b : List UInt8) : List (List UInt8) :=
  if (s.walkS dir (lookS b) true).2 = 0 then (s.listS (s.walkS dir (lookS b) true).1).filter (fitsS L) else []
/-- what comes of one begin -/
def Fs.moreS (s : Fs) (dir : Int) (p : PartS) (b : List UInt8) : List (List UInt8) :=
  if specialS p.toks then (s.fitS dir p.toks b).map (b ++ ·) else [b ++ p.text]
def onS (first : Bool) (b : List UInt8) : List UInt8 := if first then b else b ++ [47]
def Fs.nextS (s : Fs) (dir : Int) (first : Bool) (p : PartS) (bs : List (List UInt8)) : List (List UInt8) := bs.flatMap fun b => s.moreS dir p (onS first b)
def Fs.beginsS (s : Fs) (dir : Int) : Bool → List PartS → List (List UInt8) → Option (List (List UInt8))
  | _, [], bs => some bs
  | first, p :: r, bs => if 256 < (s.nextS dir first p bs).length then none else s.beginsS dir false r (s.nextS dir first p bs)
def Fs.isS (s : Fs) (dir : Int) (b : List UInt8) : Bool := (s.walkS dir b false).2 == 0
def endsS (x : List UInt8) (l : List (List UInt8)) : List (List UInt8) := if l = [] then [x] else sortS l
def anyS (l : List PartS) : Bool := l.any fun p => specialS p.toks
/-- what a field comes to -/
def Fs.expandS (s : Fs) (dir : Int) (x : List UInt8) (q : List Bool) : List (List UInt8) :=
  if anyS (piecesS (cutP x) q) then (match s.beginsS dir true (piecesS (cutP x) q) [[]] with
    | none => [x]
    | some bs => endsS x (bs.filter (s.isS dir)))
  else [x]
theorem piecesS_len : ∀ (l : List (List UInt8)) (q : List Bool), (piecesS l q).length = l.length
  | [], q => rfl
  | s :: r, q => by simp [piecesS, piecesS_len r]
theorem special_ne {L : List GTok} (h : specialS L = true) : L ≠ [] := by
  rintro rfl
  exact Bool.noConfusion h
end Go.Proofs.YtggdedihfhibfaaGreatDoor
