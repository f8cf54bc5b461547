/- FsJ -/
import Derived.Test.YtbecmcjibpamoaaGreatDoorQ10
set_option linter.unusedVariables false
set_option linter.unusedSimpArgs false
set_option linter.deprecated false
set_option linter.unnecessarySimpa false
namespace Go.Proofs.YtbecmcjibpamoaaGreatDoor
open Go.RowKit
def Nd.part (x : Nd) (p : Int) : Option Int := match x.parts.get (.int p) with
  | some (.int _ b) => some b
  | _ => none
theorem getE_mem {k : Key} {v : Value} : ∀ {l : List (Key × Value × Nat)}, getE k l = some v → ∃ n, (k, v, n) ∈ l
  | [], h => by cases h
  | e :: l, h => by
    unfold getE at h
    by_cases q : e.1 = k
    · rw [if_pos q] at h
      cases h
      exact ⟨e.2.2, by rw [← q]; simp⟩
    · rw [if_neg q] at h
      obtain ⟨n, hn⟩ := getE_mem h
      exact ⟨n, by simp [hn]⟩
theorem Nd.part_some {x : Nd} (h : PartsOk x.parts) {p b : Int} (hp : x.part p = some b) : x.parts.get (.int p) = some (.int .i64 b) := by
  unfold Nd.part at hp
  cases hg : x.parts.get (.int p) with
  | none => rw [hg] at hp; cases hp
  | some v =>
    obtain ⟨n, hn⟩ := getE_mem hg
    obtain ⟨q, c, h1, h2⟩ := h.ints _ hn
    simp only at h2
    subst h2
    rw [hg] at hp
    cases hp
    rfl
theorem Nd.part_none {x : Nd} (h : PartsOk x.parts) {p : Int} (hp : x.part p = none) : x.parts.get (.int p) = none := by
  unfold Nd.part at hp
  cases hg : x.parts.get (.int p) with
  | none => rfl
  | some v =>
    obtain ⟨n, hn⟩ := getE_mem hg
    obtain ⟨q, c, h1, h2⟩ := h.ints _ hn
    simp only at h2
    subst h2
    rw [hg] at hp
    cases hp
theorem zero_int (w : World) : (zeroValue 3).run Tryz.prog w = .ok (.int .i64 0) w := by kernel_rfl
theorem part_look {s lay} {k : Nat} {x : Nd} {w : World} (h : FsIs s lay w) (hk : s.nodes[k]? = some (some x)) (p : Int) :
    (Instr.lookup 94 (.map (some (lay (.P k)))) (.int .i64 p) true).run Tryz.prog w = .ok (.tuple #[.int .i64 ((x.part p).getD 0), .bool (x.part p).isSome]) w := by
  have hpo := h.ok.parts x (List.mem_of_getElem? hk)
  have hP := h.lies.at_ (.P k) _ (Fs.obj_n hk).2
  have := (GMap.look (P := Tryz.prog) (k := .int p) Tryz.underlying94 Tryz.underlying3 hpo.of hP (zero_int w)).2
  simp only [Key.val] at this
  rw [this]
  cases hp : x.part p with
  | none => rw [Nd.part_none hpo hp]; rfl
  | some b => rw [Nd.part_some hpo hp]; rfl
theorem block_has {s lay} (k : Nat) (x : Nd) (p b : Int) (w : World) (h : FsIs s lay w) (hk : s.nodes[k]? = some (some x)) (hp : x.part p = some b) : Calls Tryz.prog 38 #[ptrTo (lay .T), ptrTo (lay (.N k)), .int .i64 p] w fun e w' => e = .returned (.tuple #[.int .i64 b, .int .i64 0]) ∧ w = w' := by
  have c4 := h.n4 hk
  have hl := part_look h hk p
  rw [hp] at hl
  simp only [Option.getD_some, Option.isSome_some] at hl
  go_enter Tryz.func38, Tryz.ntmps38
  unfold ptrTo
  go_wp2_with fail
  go_ret2
  exact ⟨rfl, rfl⟩
def Fs.takeS (s : Fs) (k : Nat) (x : Nd) (p : Int) (j : Nat) : Fs := ((s.setB j (true, zeros)).setFree (decW s.free)).setNd k { x with parts := x.parts.put (.int p) (.int .i64 (j + 1)) }
theorem PartsOk.put {m : GMap} (h : PartsOk m) (p b : Int) : PartsOk (m.put (.int p) (.int .i64 b)) :=
  ⟨h.good.put _ _, fun e he => by
    rcases setE_mem he with q | ⟨q1, q2⟩
    · exact h.ints e q
    · exact ⟨p, b, q1, q2⟩⟩
theorem block_take {s lay} (k j : Nat) (x : Nd) (p : Int) (w : World) (h : FsIs s lay w) (hk : s.nodes[k]? = some (some x)) (hp : x.part p = none) (hj : freeAt s.bs = some j) : Calls Tryz.prog 38 #[ptrTo (lay .T), ptrTo (lay (.N k)), .int .i64 p] w fun e w' => e = .returned (.tuple #[.int .i64 (j + 1), .int .i64 0]) ∧ Step s lay w (s.takeS k x p j) lay w' := by
  have c4 := h.n4 hk
  have t1 := h.t1
  have hl := part_look h hk p
  have hpo := h.ok.parts x (List.mem_of_getElem? hk)
  rw [hp] at hl
  simp only [Option.getD_none, Option.isSome_none] at hl
  go_enter Tryz.func38, Tryz.ntmps38
  unfold ptrTo at *
  go_wp2_with (go_at_call 69; refine (take_some j w h hj).mono ?_; rintro e w2 ⟨rfl, hst⟩; clear c4 t1 hl; have hk2 : ((s.setB j (true, zeros)).setFree (decW s.free)).nodes[k]? = some (some x) := hk; have c4 := hst.is.n4 hk2; have hP := hst.is.lies.at_ (.P k) _ (Fs.obj_n hk2).2; have hup := GMap.store (P := Tryz.prog) (k := .int p) (v := .int .i64 (j + 1)) Tryz.underlying94 Tryz.underlying3 hpo.of hP; simp only [Key.val] at hup)
  go_ret2
  exact ⟨rfl, hst.setP hk2 rfl (hpo.put p _)⟩
theorem block_full {s lay} (k : Nat) (x : Nd) (p : Int) (w : World) (h : FsIs s lay w) (hk : s.nodes[k]? = some (some x)) (hp : x.part p = none) (hj : freeAt s.bs = none) : Calls Tryz.prog 38 #[ptrTo (lay .T), ptrTo (lay (.N k)), .int .i64 p] w fun e w' => e = .returned (.tuple #[.int .i64 0, .int .i64 20]) ∧ Below w.heap.size w w' := by
  have c4 := h.n4 hk
  have t1 := h.t1
  have hl := part_look h hk p
  rw [hp] at hl
  simp only [Option.getD_none, Option.isSome_none] at hl
  go_enter Tryz.func38, Tryz.ntmps38
  unfold ptrTo at *
  go_wp2_with (go_at_call 69; refine (take_none w h hj).mono ?_; rintro e w2 ⟨rfl, hB⟩; clear c4 t1 hl)
  go_ret2
  exact ⟨rfl, hB⟩
end Go.Proofs.YtbecmcjibpamoaaGreatDoor
