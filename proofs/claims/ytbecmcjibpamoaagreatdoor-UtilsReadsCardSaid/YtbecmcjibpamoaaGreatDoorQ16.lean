/- NmA -/
import Derived.Test.YtbecmcjibpamoaaGreatDoorQ14
import Derived.Test.YtbecmcjibpamoaaGreatDoorQ15
set_option linter.unusedVariables false
set_option linter.unusedSimpArgs false
set_option linter.deprecated false
set_option linter.unnecessarySimpa false
namespace Go.Proofs.YtbecmcjibpamoaaGreatDoor
open Go.RowKit IntWalk
theorem dirE_get (lay : FId → Nat) (i : Int) : ∀ l : List (Int × Dr × Nat), getE (.int i) (l.map fun e => (Key.int e.1, ptrTo (lay (.E e.1)), e.2.2)) = (dirE i l).map fun _ => ptrTo (lay (.E i))
  | [] => rfl
  | e :: l => by
    show (if Key.int e.1 = Key.int i then some (ptrTo (lay (.E e.1))) else getE (.int i) (l.map _)) = Option.map _ (if e.1 = i then some e.2.1 else dirE i l)
    by_cases h : e.1 = i
    · rw [if_pos (by rw [h]), if_pos h, h]; rfl
    · rw [if_neg (by intro q; cases q; exact h rfl), if_neg h]; exact dirE_get lay i l
theorem zero_dirp (w : World) : (zeroValue 64).run Tryz.prog w = .ok (.pointer none) w := by kernel_rfl
theorem dir_look {s lay} {w : World} (h : FsIs s lay w) (i : Int) : (Instr.lookup 49 (.map (some (lay .D))) (.int .i64 i) false).run Tryz.prog w = .ok ((((s.dr i).map fun _ => ptrTo (lay (.E i)))).getD (.pointer none)) w := by
  have hD := h.lies.at_ .D _ rfl
  have hof : (s.dmap lay).Of (.int .i64) := fun e he => by
    simp only [Fs.dmap, List.mem_map] at he
    obtain ⟨x, _, rfl⟩ := he
    rfl
  have := (GMap.look (P := Tryz.prog) (k := .int i) Tryz.underlying49 Tryz.underlying3 hof hD (zero_dirp w)).1
  simp only [Key.val] at this
  rw [this]
  have hg : (s.dmap lay).get (.int i) = (s.dr i).map fun _ => ptrTo (lay (.E i)) := dirE_get lay i s.dirs
  rw [hg]
def dirPtr (s : Fs) (lay : FId → Nat) (i : Int) : Value := match s.dirOf i with
  | some _ => ptrTo (lay (.E i))
  | none => .pointer none
theorem dir_any {s lay} (i : Int) (w : World) (h : FsIs s lay w) : Calls Tryz.prog 26 #[ptrTo (lay .F), .int .i64 i] w fun e w' => e = .returned (dirPtr s lay i) ∧ w = w' := by
  have c0 := h.f0
  have c1 := h.f1
  have hl := dir_look h i
  by_cases hk : s.fld Nd.kind i = 2
  · have hdp : dirPtr s lay i = ((s.dr i).map fun _ => ptrTo (lay (.E i))).getD (.pointer none) := by
      unfold dirPtr Fs.dirOf
      rw [if_pos hk]
      cases s.dr i <;> rfl
    rw [hdp]
    generalize ((s.dr i).map fun _ => ptrTo (lay (.E i))).getD (.pointer none) = v at hl ⊢
    unfold ptrTo at *
    go_enter Tryz.func26, Tryz.ntmps26
    go_wp2_with (go_at_call 53; refine (kind_any i w h).mono ?_; rintro e w' ⟨rfl, rfl⟩; rw [hk])
    go_ret
    exact ⟨rfl, rfl⟩
  · have hdp : dirPtr s lay i = .pointer none := by
      unfold dirPtr Fs.dirOf
      rw [if_neg hk]
    rw [hdp]
    have HK := kind_any i w h
    generalize s.fld Nd.kind i = kk at hk HK
    have HK' := Lib.hid HK
    clear HK hdp hl h
    have hk2 : (kk == 2) = false := by simpa using hk
    unfold ptrTo at *
    go_enter Tryz.func26, Tryz.ntmps26
    go_wp2_with (go_at_call 53; refine HK'.out.mono ?_; rintro e w' ⟨rfl, rfl⟩)
    go_ret
    exact ⟨rfl, rfl⟩
theorem FsIs.e0 {s lay w} (h : FsIs s lay w) {i : Int} {d : Dr} (hd : s.dr i = some d) : w.cell? ⟨lay (.E i), 0, none⟩ = some (.map (some (lay (.M i)))) :=
  h.lies.cell (i := .E i) (cs := #[.map (some (lay (.M i))), .int .i64 d.parent]) (ty := 78) (fz := (0, 0)) (by simp [Fs.obj, hd]) rfl
theorem FsIs.e1 {s lay w} (h : FsIs s lay w) {i : Int} {d : Dr} (hd : s.dr i = some d) : w.cell? ⟨lay (.E i), 1, none⟩ = some (.int .i64 d.parent) :=
  h.lies.cell (i := .E i) (cs := #[.map (some (lay (.M i))), .int .i64 d.parent]) (ty := 78) (fz := (0, 0)) (by simp [Fs.obj, hd]) rfl
theorem dirE_mem {i : Int} {d : Dr} : ∀ {l : List (Int × Dr × Nat)}, dirE i l = some d → ∃ n, (i, d, n) ∈ l
  | [], h => by cases h
  | e :: l, h => by
    unfold dirE at h
    by_cases q : e.1 = i
    · rw [if_pos q] at h; cases h
      exact ⟨e.2.2, by rw [← q]; simp⟩
    · rw [if_neg q] at h
      obtain ⟨n, hn⟩ := dirE_mem h
      exact ⟨n, by simp [hn]⟩
theorem NamesOk.name {m : GMap} (h : NamesOk m) (t : List UInt8) : (m.get (.str t) = none ∧ ∀ p, (Dr.mk m p).name t = none) ∨ ∃ n, m.get (.str t) = some (.int .i64 n) ∧ ∀ p, (Dr.mk m p).name t = some n := by
  cases hg : m.get (.str t) with
  | none => exact .inl ⟨rfl, fun p => by unfold Dr.name; rw [show (Dr.mk m p).names = m from rfl, hg]⟩
  | some v =>
    obtain ⟨n, hn⟩ := getE_mem hg
    obtain ⟨q, c, h1, h2⟩ := h.ints _ hn
    simp only at h2
    subst h2
    exact .inr ⟨c, rfl, fun p => by unfold Dr.name; rw [show (Dr.mk m p).names = m from rfl, hg]⟩
theorem names_of {s lay w} (h : FsIs s lay w) {i : Int} {d : Dr} (hd : s.dr i = some d) : NamesOk d.names := by
  obtain ⟨n, hn⟩ := dirE_mem hd
  exact h.ok.names _ hn
theorem name_look {s lay} {w : World} (h : FsIs s lay w) {i : Int} {d : Dr} (hd : s.dr i = some d) (nm : List UInt8) :
    (Instr.lookup 76 (.map (some (lay (.M i)))) (.string ⟨nm.toArray⟩) true).run Tryz.prog w = .ok (.tuple #[.int .i64 ((d.name nm).getD 0), .bool (d.name nm).isSome]) w := by
  have hno := names_of h hd
  have hM := h.lies.at_ (.M i) d.names.obj (by simp [Fs.obj, hd])
  have := (GMap.look (P := Tryz.prog) (k := .str nm) Tryz.underlying76 Tryz.underlying9 hno.of hM (zero_int w)).2
  simp only [Key.val] at this
  rw [this]
  rcases hno.name nm with ⟨h1, h2⟩ | ⟨n, h1, h2⟩
  · rw [h1, show d.name nm = none from h2 d.parent]; rfl
  · rw [h1, show d.name nm = some n from h2 d.parent]; rfl
end Go.Proofs.YtbecmcjibpamoaaGreatDoor
