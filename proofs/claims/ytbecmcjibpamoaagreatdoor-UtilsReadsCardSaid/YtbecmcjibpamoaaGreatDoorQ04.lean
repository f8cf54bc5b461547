/- FsC -/
import Derived.Test.YtbecmcjibpamoaaGreatDoorQ03
set_option linter.unusedVariables false
set_option linter.unusedSimpArgs false
set_option linter.deprecated false
set_option linter.unnecessarySimpa false
namespace Go.Proofs.YtbecmcjibpamoaaGreatDoor
open Go.RowKit
structure Nd where
  names : Int
  users : Int
  kind : Int
  size : Int
  parts : GMap
structure Dr where
  names : GMap
  parent : Int
structure Fs where
  nodes : List (Option Nd)
  bs : List (Bool × List UInt8)
  free : Int
  dirs : List (Int × Dr × Nat)
  clk : Nat
inductive FId where
  | F | T | G | S | B | D
  | N (i : Nat)
  | P (i : Nat)
  | E (i : Int)
  | M (i : Int)
  deriving DecidableEq
def slotOf (i : Int) : Nat := (i - 1).toNat
theorem slotOf_eq (k : Nat) : slotOf ((k : Int) + 1) = k := by unfold slotOf; omega
def ptrTo (b : Nat) : Value := .pointer (some ⟨b, 0, none⟩)
def byteV (b : UInt8) : Value := .int .u8 b.toNat
def blockV (b : Bool × List UInt8) : List Value := .bool b.1 :: b.2.map byteV
def dirE (i : Int) : List (Int × Dr × Nat) → Option Dr
  | [] => none
  | e :: l => if e.1 = i then some e.2.1 else dirE i l
def Fs.nd (s : Fs) (i : Int) : Option Nd := if i < 1 then none else (s.nodes[slotOf i]?).join
def Fs.dr (s : Fs) (i : Int) : Option Dr := dirE i s.dirs
def Fs.dmap (s : Fs) (lay : FId → Nat) : GMap := ⟨s.dirs.map fun e => (.int e.1, ptrTo (lay (.E e.1)), e.2.2), s.clk⟩
def ndV (lay : FId → Nat) (i : Nat) (x : Nd) : Array Value := #[.int .i64 x.names, .int .i64 x.users, .int .i64 x.kind, .int .i64 x.size, .map (some (lay (.P i)))]
def Fs.obj (s : Fs) (lay : FId → Nat) : FId → Option Obj
  | .F => some (.cells #[ptrTo (lay .T), .map (some (lay .D))] 51 (0, 0))
  | .T => some (.cells #[.slice (some ⟨lay .G, 0, none⟩) s.nodes.length s.nodes.length, ptrTo (lay .S)] 90 (0, 0))
  | .G => some (.cells (s.nodes.mapIdx fun i o => match o with | some _ => ptrTo (lay (.N i)) | none => .pointer none).toArray 83 (0, 0))
  | .S => some (.cells #[.slice (some ⟨lay .B, 0, none⟩) s.bs.length s.bs.length, .int .i64 s.free] 159 (0, 0))
  | .B => some (.cells (s.bs.flatMap blockV).toArray 133 (0, 0))
  | .D => some (s.dmap lay).obj
  | .N i => match s.nodes[i]? with
    | some (some x) => some (.cells (ndV lay i x) 96 (0, 0))
    | _ => none
  | .P i => match s.nodes[i]? with
    | some (some x) => some x.parts.obj
    | _ => none
  | .E i => match s.dr i with
    | some d => some (.cells #[.map (some (lay (.M i))), .int .i64 d.parent] 78 (0, 0))
    | none => none
  | .M i => match s.dr i with
    | some d => some d.names.obj
    | none => none
structure PartsOk (m : GMap) : Prop where
  good : m.Good
  ints : ∀ e ∈ m.es, ∃ p b, e.1 = .int p ∧ e.2.1 = .int .i64 b
structure NamesOk (m : GMap) : Prop where
  good : m.Good
  ints : ∀ e ∈ m.es, ∃ t b, e.1 = .str t ∧ e.2.1 = .int .i64 b
theorem PartsOk.of {m : GMap} (h : PartsOk m) : m.Of (.int .i64) := fun e he => by obtain ⟨p, b, h1, _⟩ := h.ints e he; rw [h1]; rfl
theorem NamesOk.of {m : GMap} (h : NamesOk m) : m.Of .string := fun e he => by obtain ⟨p, b, h1, _⟩ := h.ints e he; rw [h1]; rfl
structure Fs.Ok (s : Fs) : Prop where
  nodes : s.nodes.length ≤ 1024
  blocks : s.bs.length ≤ 4096
  bytes : ∀ b ∈ s.bs, b.2.length = 64
  parts : ∀ x, some x ∈ s.nodes → PartsOk x.parts
  names : ∀ e ∈ s.dirs, NamesOk e.2.1.names
  dirs : GoodE (s.dirs.map fun e => (.int e.1, e.2.2)) s.clk
structure FsIs (s : Fs) (lay : FId → Nat) (w : World) : Prop where
  lies : Lies (s.obj lay) lay w
  ok : s.Ok
section
variable {s : Fs} {lay : FId → Nat} {w w' : World}
theorem Fs.nd_slot {i : Int} {x : Nd} (h : s.nd i = some x) : 1 ≤ i ∧ i ≤ s.nodes.length ∧ s.nodes[slotOf i]? = some (some x) := by
  unfold Fs.nd at h
  by_cases h1 : i < 1
  · rw [if_pos h1] at h; cases h
  · rw [if_neg h1] at h
    cases ho : s.nodes[slotOf i]? with
    | none => rw [ho] at h; cases h
    | some o =>
      rw [ho] at h
      have h' : o = some x := h
      have := (List.getElem?_eq_some_iff.1 ho).1
      unfold slotOf at this
      exact ⟨by omega, by omega, by rw [h']⟩
theorem Fs.nd_none {i : Int} (h : s.nd i = none) (h1 : 1 ≤ i) (h2 : i ≤ s.nodes.length) : s.nodes[slotOf i]? = some none := by
  unfold Fs.nd at h
  rw [if_neg (by omega)] at h
  cases ho : s.nodes[slotOf i]? with
  | none => rw [List.getElem?_eq_none_iff] at ho; unfold slotOf at ho; omega
  | some o => rw [ho] at h; have h' : o = none := h; rw [h']
theorem FsIs.f0 (h : FsIs s lay w) : w.cell? ⟨lay .F, 0, none⟩ = some (ptrTo (lay .T)) := h.lies.cell (i := .F) rfl rfl
theorem FsIs.f1 (h : FsIs s lay w) : w.cell? ⟨lay .F, 1, none⟩ = some (.map (some (lay .D))) := h.lies.cell (i := .F) rfl rfl
theorem FsIs.t0 (h : FsIs s lay w) : w.cell? ⟨lay .T, 0, none⟩ = some (.slice (some ⟨lay .G, 0, none⟩) s.nodes.length s.nodes.length) := h.lies.cell (i := .T) rfl rfl
theorem FsIs.t1 (h : FsIs s lay w) : w.cell? ⟨lay .T, 1, none⟩ = some (ptrTo (lay .S)) := h.lies.cell (i := .T) rfl rfl
theorem FsIs.s0 (h : FsIs s lay w) : w.cell? ⟨lay .S, 0, none⟩ = some (.slice (some ⟨lay .B, 0, none⟩) s.bs.length s.bs.length) := h.lies.cell (i := .S) rfl rfl
theorem FsIs.s1 (h : FsIs s lay w) : w.cell? ⟨lay .S, 1, none⟩ = some (.int .i64 s.free) := h.lies.cell (i := .S) rfl rfl
theorem FsIs.g (h : FsIs s lay w) {i : Int} {x : Nd} (hn : s.nd i = some x) : w.cell? ⟨lay .G, slotOf i, none⟩ = some (ptrTo (lay (.N (slotOf i)))) := by
  obtain ⟨h1, h2, h3⟩ := Fs.nd_slot hn
  exact h.lies.cell (i := .G) rfl (by rw [List.getElem?_toArray, List.getElem?_mapIdx, h3]; rfl)
theorem FsIs.gN (h : FsIs s lay w) {k : Nat} {x : Nd} (hn : s.nodes[k]? = some (some x)) : w.cell? ⟨lay .G, k, none⟩ = some (ptrTo (lay (.N k))) :=
  h.lies.cell (i := .G) rfl (by rw [List.getElem?_toArray, List.getElem?_mapIdx, hn]; rfl)
theorem FsIs.g0 (h : FsIs s lay w) {i : Nat} (hn : s.nodes[i]? = some none) : w.cell? ⟨lay .G, i, none⟩ = some (.pointer none) :=
  h.lies.cell (i := .G) rfl (by rw [List.getElem?_toArray, List.getElem?_mapIdx, hn]; rfl)
theorem Fs.obj_n {i : Nat} {x : Nd} (h : s.nodes[i]? = some (some x)) : s.obj lay (.N i) = some (.cells (ndV lay i x) 96 (0, 0)) ∧ s.obj lay (.P i) = some x.parts.obj := by
  simp [Fs.obj, h]
theorem FsIs.n (h : FsIs s lay w) {i : Nat} {x : Nd} (hn : s.nodes[i]? = some (some x)) {k : Nat} {v : Value} (hk : (ndV lay i x)[k]? = some v) : w.cell? ⟨lay (.N i), k, none⟩ = some v :=
  h.lies.cell (Fs.obj_n hn).1 hk
theorem FsIs.n0 (h : FsIs s lay w) {i : Nat} {x : Nd} (hn : s.nodes[i]? = some (some x)) : w.cell? ⟨lay (.N i), 0, none⟩ = some (.int .i64 x.names) := h.n hn rfl
theorem FsIs.n1 (h : FsIs s lay w) {i : Nat} {x : Nd} (hn : s.nodes[i]? = some (some x)) : w.cell? ⟨lay (.N i), 1, none⟩ = some (.int .i64 x.users) := h.n hn rfl
theorem FsIs.n2 (h : FsIs s lay w) {i : Nat} {x : Nd} (hn : s.nodes[i]? = some (some x)) : w.cell? ⟨lay (.N i), 2, none⟩ = some (.int .i64 x.kind) := h.n hn rfl
theorem FsIs.n3 (h : FsIs s lay w) {i : Nat} {x : Nd} (hn : s.nodes[i]? = some (some x)) : w.cell? ⟨lay (.N i), 3, none⟩ = some (.int .i64 x.size) := h.n hn rfl
theorem FsIs.n4 (h : FsIs s lay w) {i : Nat} {x : Nd} (hn : s.nodes[i]? = some (some x)) : w.cell? ⟨lay (.N i), 4, none⟩ = some (.map (some (lay (.P i)))) := h.n hn rfl
theorem FsIs.nf (h : FsIs s lay w) {i : Nat} {x : Nd} (hn : s.nodes[i]? = some (some x)) (k : Nat) : w.frozen? ⟨lay (.N i), k, none⟩ = false := h.lies.fz (Fs.obj_n hn).1 k
theorem FsIs.drewN (h : FsIs s lay w) (n : Nat) : FsIs s lay (w.drewN n) := ⟨h.lies.drewN n, h.ok⟩
theorem FsIs.alloc (h : FsIs s lay w) (o : Obj) : FsIs s lay (w.alloc o) := ⟨h.lies.alloc o, h.ok⟩
end
theorem at_some {s lay} (i : Int) (x : Nd) (w : World) (h : FsIs s lay w) (hn : s.nd i = some x) : Calls Tryz.prog 68 #[ptrTo (lay .T), .int .i64 i] w fun e w' => e = .returned (ptrTo (lay (.N (slotOf i)))) ∧ w = w' := by
  obtain ⟨h1, h2, h3⟩ := Fs.nd_slot hn
  have c1 := h.t0
  have c2 := h.g hn
  have hl := h.ok.nodes
  obtain ⟨k, rfl⟩ : ∃ k : Nat, i = k + 1 := ⟨(i - 1).toNat, by omega⟩
  have hk := slotOf_eq k
  rw [hk] at c2 ⊢
  have hk2 : k < s.nodes.length := by omega
  unfold ptrTo at *
  clear h hn h3
  go_enter Tryz.func68, Tryz.ntmps68
  go_wp2
  go_ret
  exact ⟨rfl, rfl⟩
theorem at_none {s lay} (i : Int) (w : World) (h : FsIs s lay w) (hn : s.nd i = none) : Calls Tryz.prog 68 #[ptrTo (lay .T), .int .i64 i] w fun e w' => e = .returned (.pointer none) ∧ w = w' := by
  have c1 := h.t0
  have hl := h.ok.nodes
  unfold ptrTo at *
  by_cases h1 : i < 1
  · clear h hn
    go_enter Tryz.func68, Tryz.ntmps68
    go_wp2
    go_ret
    exact ⟨rfl, rfl⟩
  · by_cases h2 : (s.nodes.length : Int) < i
    · have h0 : (1 : Int) ≤ i := by omega
      clear h hn
      go_enter Tryz.func68, Tryz.ntmps68
      go_wp2
      go_ret
      exact ⟨rfl, rfl⟩
    · have h3 := Fs.nd_none hn (by omega) (by omega)
      obtain ⟨k, rfl⟩ : ∃ k : Nat, i = k + 1 := ⟨(i - 1).toNat, by omega⟩
      have hk := slotOf_eq k
      rw [hk] at h3
      have c2 := h.g0 h3
      have hk2 : k < s.nodes.length := by omega
      clear h hn h3
      go_enter Tryz.func68, Tryz.ntmps68
      go_wp2
      go_ret
      exact ⟨rfl, rfl⟩
def Fs.fld (s : Fs) (f : Nd → Int) (i : Int) : Int := match s.nd i with
  | some x => f x
  | none => 0
theorem find_some {s lay} (i : Int) (x : Nd) (w : World) (h : FsIs s lay w) (hn : s.nd i = some x) : Calls Tryz.prog 37 #[ptrTo (lay .T), .int .i64 i] w fun e w' => e = .returned (.tuple #[ptrTo (lay (.N (slotOf i))), .int .i64 0]) ∧ w = w' := by
  go_enter Tryz.func37, Tryz.ntmps37
  unfold ptrTo
  go_wp2_with (go_at_call 68; refine (at_some i x w h hn).mono ?_; rintro e w' ⟨rfl, rfl⟩; unfold ptrTo)
  go_ret2
  exact ⟨rfl, rfl⟩
theorem find_none {s lay} (i : Int) (w : World) (h : FsIs s lay w) (hn : s.nd i = none) : Calls Tryz.prog 37 #[ptrTo (lay .T), .int .i64 i] w fun e w' => e = .returned (.tuple #[.pointer none, .int .i64 23]) ∧ w = w' := by
  go_enter Tryz.func37, Tryz.ntmps37
  unfold ptrTo
  go_wp2_with (go_at_call 68; refine (at_none i w h hn).mono ?_; rintro e w' ⟨rfl, rfl⟩)
  go_ret2
  exact ⟨rfl, rfl⟩
theorem kind_any {s lay} (i : Int) (w : World) (h : FsIs s lay w) : Calls Tryz.prog 53 #[ptrTo (lay .T), .int .i64 i] w fun e w' => e = .returned (.int .i64 (s.fld Nd.kind i)) ∧ w = w' := by
  cases hn : s.nd i with
  | none =>
    have hf : s.fld Nd.kind i = 0 := by unfold Fs.fld; rw [hn]
    rw [hf]
    go_enter Tryz.func53, Tryz.ntmps53
    unfold ptrTo
    go_wp2_with (go_at_call 68; refine (at_none i w h hn).mono ?_; rintro e w' ⟨rfl, rfl⟩)
    go_ret
    exact ⟨rfl, rfl⟩
  | some x =>
    have hf : s.fld Nd.kind i = x.kind := by unfold Fs.fld; rw [hn]
    rw [hf]
    have c3 := h.n2 (Fs.nd_slot hn).2.2
    go_enter Tryz.func53, Tryz.ntmps53
    unfold ptrTo
    go_wp2_with (go_at_call 68; refine (at_some i x w h hn).mono ?_; rintro e w' ⟨rfl, rfl⟩; unfold ptrTo)
    go_ret
    exact ⟨rfl, rfl⟩
theorem size_any {s lay} (i : Int) (w : World) (h : FsIs s lay w) : Calls Tryz.prog 62 #[ptrTo (lay .T), .int .i64 i] w fun e w' => e = .returned (.int .i64 (s.fld Nd.size i)) ∧ w = w' := by
  cases hn : s.nd i with
  | none =>
    have hf : s.fld Nd.size i = 0 := by unfold Fs.fld; rw [hn]
    rw [hf]
    go_enter Tryz.func62, Tryz.ntmps62
    unfold ptrTo
    go_wp2_with (go_at_call 68; refine (at_none i w h hn).mono ?_; rintro e w' ⟨rfl, rfl⟩)
    go_ret
    exact ⟨rfl, rfl⟩
  | some x =>
    have hf : s.fld Nd.size i = x.size := by unfold Fs.fld; rw [hn]
    rw [hf]
    have c3 := h.n3 (Fs.nd_slot hn).2.2
    go_enter Tryz.func62, Tryz.ntmps62
    unfold ptrTo
    go_wp2_with (go_at_call 68; refine (at_some i x w h hn).mono ?_; rintro e w' ⟨rfl, rfl⟩; unfold ptrTo)
    go_ret
    exact ⟨rfl, rfl⟩
theorem links_any {s lay} (i : Int) (w : World) (h : FsIs s lay w) : Calls Tryz.prog 66 #[ptrTo (lay .T), .int .i64 i] w fun e w' => e = .returned (.int .i64 (s.fld Nd.names i)) ∧ w = w' := by
  cases hn : s.nd i with
  | none =>
    have hf : s.fld Nd.names i = 0 := by unfold Fs.fld; rw [hn]
    rw [hf]
    go_enter Tryz.func66, Tryz.ntmps66
    unfold ptrTo
    go_wp2_with (go_at_call 68; refine (at_none i w h hn).mono ?_; rintro e w' ⟨rfl, rfl⟩)
    go_ret
    exact ⟨rfl, rfl⟩
  | some x =>
    have hf : s.fld Nd.names i = x.names := by unfold Fs.fld; rw [hn]
    rw [hf]
    have c3 := h.n0 (Fs.nd_slot hn).2.2
    go_enter Tryz.func66, Tryz.ntmps66
    unfold ptrTo
    go_wp2_with (go_at_call 68; refine (at_some i x w h hn).mono ?_; rintro e w' ⟨rfl, rfl⟩; unfold ptrTo)
    go_ret
    exact ⟨rfl, rfl⟩
end Go.Proofs.YtbecmcjibpamoaaGreatDoor
