/- NmP -/
import Derived.Test.YtbecmcjibpamoaaGreatDoorQ13
import Derived.Lib.SplitLaws
set_option linter.unusedVariables false
set_option linter.unusedSimpArgs false
set_option linter.deprecated false
set_option linter.unnecessarySimpa false
namespace Go.Proofs.YtbecmcjibpamoaaGreatDoor
open Go.Lib Go.RowKit
def ontoP (c : UInt8) : List (List UInt8) → List (List UInt8)
  | [] => [[c]]
  | x :: r => (c :: x) :: r
def cutP : List UInt8 → List (List UInt8)
  | [] => [[]]
  | c :: t => if c = 47 then [] :: cutP t else ontoP c (cutP t)
theorem cutP_none : ∀ l, (47 : UInt8) ∉ l → cutP l = [l]
  | [], _ => rfl
  | c :: t, h => by
    rw [cutP, if_neg (fun e => h (by rw [e]; simp)), cutP_none t (fun e => h (List.mem_cons_of_mem _ e))]; rfl
theorem cutP_some : ∀ (a t : List UInt8), (47 : UInt8) ∉ a → cutP (a ++ 47 :: t) = a :: cutP t
  | [], t, _ => by rw [List.nil_append, cutP, if_pos rfl]
  | c :: a, t, h => by
    rw [List.cons_append, cutP, if_neg (fun e => h (by rw [e]; simp)), cutP_some a t (fun e => h (List.mem_cons_of_mem _ e))]; rfl
theorem index_stroke : ∀ (a t : List UInt8), (47 : UInt8) ∉ a → index (a ++ 47 :: t) [47] = a.length
  | [], t, _ => by rw [index_one]; simp [indexByte]
  | c :: a, t, h => by
    have ih := index_stroke a t (fun e => h (List.mem_cons_of_mem _ e))
    rw [index_one] at ih ⊢
    have hc : (c == 47) = false := by rw [beq_eq_false_iff_ne]; exact fun e => h (by rw [e]; simp)
    rw [List.cons_append, indexByte, hc, ih]
    have : ((a.length : Int) == -1) = false := by rw [beq_eq_false_iff_ne]; omega
    rw [this]; simp
theorem splitK_cutP : ∀ (k : Nat) (l : List UInt8), l.length ≤ k → splitK [47] 0 (l.count 47) l = cutP l := by
  intro k
  induction k with
  | zero => intro l hl; obtain rfl := List.eq_nil_of_length_eq_zero (Nat.le_zero.1 hl); rfl
  | succ k ih =>
    intro l hl
    by_cases hm : (47 : UInt8) ∈ l
    · obtain ⟨a, t, rfl, ha⟩ := List.eq_append_cons_of_mem hm
      have hc : (a ++ 47 :: t).count 47 = t.count 47 + 1 := by rw [List.count_append, List.count_eq_zero.2 ha, List.count_cons_self]; omega
      have hi := index_stroke a t ha
      have hne : (((a.length : Nat) : Int) == -1) = false := by rw [beq_eq_false_iff_ne]; omega
      rw [hc, splitK, hi, hne, cutP_some _ _ ha]
      have hd : (a ++ 47 :: t).drop (a.length + 1) = t := by rw [← List.drop_drop]; simp
      have ht : (a ++ 47 :: t).take (a.length + 0) = a := by simp
      simp only [Int.toNat_natCast, List.length_singleton, hd, ht]
      rw [ih t (by simp at hl; omega)]; simp
    · have hc : l.count 47 = 0 := List.count_eq_zero.2 hm
      rw [hc, cutP_none _ hm]; rfl
theorem splitB_cutP (l : List UInt8) : (splitB ⟨#[47]⟩ 0 (l.count 47) ⟨l.toArray⟩).map (·.data.toList) = cutP l := by
  have := splitB_data ⟨#[47]⟩ 0 (l.count 47) ⟨l.toArray⟩
  rw [this]; exact splitK_cutP _ l (Nat.le_refl _)
theorem cutP_ne : ∀ l, cutP l ≠ []
  | [] => by simp [cutP]
  | c :: t => by
    unfold cutP; split
    · simp
    · cases h : cutP t <;> simp [ontoP]
theorem cutP_len : ∀ l, (cutP l).length = l.count 47 + 1
  | [] => rfl
  | c :: t => by
    unfold cutP
    have ih := cutP_len t
    by_cases h : c = 47
    · rw [if_pos h, h, List.length_cons, ih, List.count_cons_self]
    · rw [if_neg h, List.count_cons_of_ne (by simpa using h)]
      cases hc : cutP t with
      | nil => exact absurd hc (cutP_ne t)
      | cons x r => rw [hc] at ih; exact ih
def dotL : List UInt8 := [46]
def dotsL : List UInt8 := [46, 46]
def Fs.dirOf (s : Fs) (i : Int) : Option Dr := if s.fld Nd.kind i = 2 then s.dr i else none
def Dr.name (d : Dr) (t : List UInt8) : Option Int := match d.names.get (.str t) with
  | some (.int .i64 n) => some n
  | _ => none
def Fs.link (s : Fs) (i : Int) : List UInt8 := match s.nd i with
  | some x => s.bytes x 0 (min 256 x.size.toNat)
  | none => []
def Fs.partS (s : Fs) (go : Int → List UInt8 → Nat → Int × Int × Nat) (at_ : Int) (part : List UInt8) (follow : Bool) (links : Nat) : Int × Int × Nat :=
  match s.dirOf at_ with
  | none => (0, 25, links)
  | some d =>
    if part = [] ∨ part = dotL then (at_, 0, links)
    else if part = dotsL then (if s.fld Nd.kind d.parent = 0 then (0, 23, links) else (d.parent, 0, links))
    else if 32 < part.length then (0, 3, links)
    else match d.name part with
      | none => (0, 23, links)
      | some next => if s.fld Nd.kind next ≠ 3 ∨ follow = false then (next, 0, links)
        else if links = 8 then (0, 27, links)
        else go at_ (s.link next) (links + 1)
def Fs.partsS (s : Fs) (go : Int → List UInt8 → Nat → Int × Int × Nat) (follow : Bool) : Int → List (List UInt8) → Nat → Int × Int × Nat
  | at_, [], links => (at_, 0, links)
  | at_, p :: l, links => match s.partS go at_ p (follow || !l.isEmpty) links with
    | (n, 0, links') => s.partsS go follow n l links'
    | (_, e, links') => (0, e, links')
def fromS (at_ : Int) (path : List UInt8) : Int × List UInt8 := match path with
  | 47 :: rest => (1, rest)
  | _ => (at_, path)
def Fs.goesS (s : Fs) : Nat → Int → List UInt8 → Bool → Nat → Int × Int × Nat
  | 0, _, _, _, links => (0, 0, links)
  | f + 1, at_, path, follow, links =>
    if path = [] then (0, 23, links)
    else if 256 < path.length then (0, 3, links)
    else s.partsS (fun a p k => s.goesS f a p true k) follow (fromS at_ path).1 (cutP (fromS at_ path).2) links
def Fs.walkS (s : Fs) (dir : Int) (path : List UInt8) (follow : Bool) : Int × Int := match s.dirOf dir with
  | none => (0, 25)
  | some _ => ((s.goesS 9 dir path follow 0).1, (s.goesS 9 dir path follow 0).2.1)
def UpTo (links : Nat) (r : Int × Int × Nat) : Prop := links ≤ r.2.2 ∧ r.2.2 ≤ 8
theorem partS_up {s : Fs} {go : Int → List UInt8 → Nat → Int × Int × Nat} (hgo : ∀ a p k, k ≤ 8 → UpTo k (go a p k)) (at_ : Int) (p : List UInt8) (fol : Bool) (links : Nat) (h8 : links ≤ 8) : UpTo links (s.partS go at_ p fol links) := by
  have h0 : ∀ a b : Int, UpTo links (a, b, links) := fun a b => ⟨Nat.le_refl _, h8⟩
  unfold Fs.partS
  split
  · exact h0 _ _
  · split
    · exact h0 _ _
    · split
      · split <;> exact h0 _ _
      · split
        · exact h0 _ _
        · split
          · exact h0 _ _
          · split
            · exact h0 _ _
            · split
              · exact h0 _ _
              · have := hgo at_ (s.link ‹_›) (links + 1) (by omega)
                exact ⟨by have := this.1; omega, this.2⟩
theorem partsS_up {s : Fs} {go : Int → List UInt8 → Nat → Int × Int × Nat} (hgo : ∀ a p k, k ≤ 8 → UpTo k (go a p k)) (fol : Bool) : ∀ (l : List (List UInt8)) (at_ : Int) (links : Nat), links ≤ 8 → UpTo links (s.partsS go fol at_ l links)
  | [], at_, links, h8 => ⟨Nat.le_refl _, h8⟩
  | p :: l, at_, links, h8 => by
    have h1 := partS_up (s := s) hgo at_ p (fol || !l.isEmpty) links h8
    unfold Fs.partsS
    split
    · rename_i n k' hp
      rw [hp] at h1
      have h2 := partsS_up (s := s) hgo fol l n k' h1.2
      exact ⟨Nat.le_trans h1.1 h2.1, h2.2⟩
    · rename_i n e k' _ hp
      rw [hp] at h1
      exact h1
theorem goesS_up {s : Fs} : ∀ (f : Nat) (at_ : Int) (p : List UInt8) (fol : Bool) (links : Nat), links ≤ 8 → UpTo links (s.goesS f at_ p fol links)
  | 0, _, _, _, links, h8 => ⟨Nat.le_refl _, h8⟩
  | f + 1, at_, p, fol, links, h8 => by
    unfold Fs.goesS
    split
    · exact ⟨Nat.le_refl _, h8⟩
    · split
      · exact ⟨Nat.le_refl _, h8⟩
      · exact partsS_up (fun a p k hk => goesS_up f a p true k hk) fol _ _ links h8
end Go.Proofs.YtbecmcjibpamoaaGreatDoor
