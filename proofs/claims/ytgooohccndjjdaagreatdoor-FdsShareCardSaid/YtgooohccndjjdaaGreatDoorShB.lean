/- A tape and a file that are open under numbers 0 and 1 of sets: reading and writing. -/
import Derived.Test.YtgooohccndjjdaaGreatDoorShA
import Derived.Test.YtgooohccndjjdaaGreatDoorShJ
import Derived.Deep.QuietTactic
import Derived.BigQuiet
import Derived.StillTailTactics
import Derived.Deep.RegionHeld3
namespace Go.Proofs.YtgooohccndjjdaaGreatDoor
open Go.RowKit IntWalk
set_option linter.unusedVariables false
set_option linter.unusedSimpArgs false

/-- where things lie: two sets, two open things, a tape, a file -/
structure Pl where
  S : Nat
  C : Nat
  A0 : Nat
  A1 : Nat
  TP : Nat
  FL : Nat
def Pl.all (p : Pl) : List Nat := [p.S, p.C, p.A0, p.A1, p.TP, p.FL]
/-- the world of a round: the tree s, of which the node 2 is the file; the tape's rest; the file's place -/
structure Sh (W0 : World) (s : Fs) (lay : FId → Nat) (p : Pl) (rest : List UInt8) (q : Nat) (W : World) : Prop where
  is : FsIs s lay W
  st : ∀ Z, Z = p.S ∨ Z = p.C → W.cell? ⟨Z, 1, none⟩ = some (ptrTo p.A0) ∧ W.cell? ⟨Z, 2, none⟩ = some (ptrTo p.A1)
  o0 : W.cell? ⟨p.A0, 0, none⟩ = some (.iface 63 (ptrTo p.TP))
  o1 : W.cell? ⟨p.A1, 0, none⟩ = some (.iface 67 (ptrTo p.FL))
  tp : W.cell? ⟨p.TP, 0, none⟩ = some (.string ⟨rest.toArray⟩)
  tz : W.frozen? ⟨p.TP, 0, none⟩ = false
  f0 : W.cell? ⟨p.FL, 0, none⟩ = some (ptrTo (lay .F))
  f1 : W.cell? ⟨p.FL, 1, none⟩ = some (.int .i64 2)
  f2 : W.cell? ⟨p.FL, 2, none⟩ = some (.int .i64 q)
  f3 : W.cell? ⟨p.FL, 3, none⟩ = some (.int .i64 10)
  f4 : W.cell? ⟨p.FL, 4, none⟩ = some (.bool false)
  fz : W.frozen? ⟨p.FL, 2, none⟩ = false
  out : ∀ b, b ∈ p.all → ¬ Owns (s.obj lay) lay b
  neT : p.TP ≠ p.S ∧ p.TP ≠ p.C ∧ p.TP ≠ p.A0 ∧ p.TP ≠ p.A1 ∧ p.TP ≠ p.FL
  neF : p.FL ≠ p.S ∧ p.FL ≠ p.C ∧ p.FL ≠ p.A0 ∧ p.FL ≠ p.A1 ∧ p.FL ≠ p.TP
  below : Below W0.heap.size W0 W
  lowP : ∀ b, b ∈ p.all → W0.heap.size ≤ b
  lowO : ∀ b, Owns (s.obj lay) lay b → W0.heap.size ≤ b
theorem cell_lt {w : World} {b i : Nat} {v : Value} (h : w.cell? ⟨b, i, none⟩ = some v) : b < w.heap.size := World.block_lt_of_cell? w ⟨b, i, none⟩ h
theorem Sh.lt {W0 s lay p rest q W} (h : Sh W0 s lay p rest q W) : ∀ b, b ∈ p.all → b < W.heap.size := by
  intro b hb
  simp only [Pl.all, List.mem_cons, List.not_mem_nil, or_false] at hb
  rcases hb with rfl | rfl | rfl | rfl | rfl | rfl
  · exact cell_lt (h.st _ (.inl rfl)).1
  · exact cell_lt (h.st _ (.inr rfl)).1
  · exact cell_lt h.o0
  · exact cell_lt h.o1
  · exact cell_lt h.tp
  · exact cell_lt h.f1
theorem in_S (p : Pl) : p.S ∈ p.all := by simp [Pl.all]
theorem in_C (p : Pl) : p.C ∈ p.all := by simp [Pl.all]
theorem in_A0 (p : Pl) : p.A0 ∈ p.all := by simp [Pl.all]
theorem in_A1 (p : Pl) : p.A1 ∈ p.all := by simp [Pl.all]
theorem in_TP (p : Pl) : p.TP ∈ p.all := by simp [Pl.all]
theorem in_FL (p : Pl) : p.FL ∈ p.all := by simp [Pl.all]
/-- the tree goes on -/
theorem Sh.step {W0 s s' lay p rest q W W'} (h : Sh W0 s lay p rest q W) (hs : Step s lay W s' lay W') : Sh W0 s' lay p rest q W' := by
  have hk : ∀ b, b ∈ p.all → W'.heap[b]? = W.heap[b]? := fun b hb => hs.turned.block b (h.lt b hb) (h.out b hb)
  have hc : ∀ b i v, b ∈ p.all → W.cell? ⟨b, i, none⟩ = some v → W'.cell? ⟨b, i, none⟩ = some v := fun b i v hb hv => by rw [World.cell?_of_block (w := W) (hk b hb)]; exact hv
  have hf : ∀ b i, b ∈ p.all → W.frozen? ⟨b, i, none⟩ = false → W'.frozen? ⟨b, i, none⟩ = false := fun b i hb hv => by rw [World.frozen?_of_block (w := W) (hk b hb)]; exact hv
  refine ⟨hs.is, fun Z hZ => ?_, hc _ _ _ (in_A0 p) h.o0, hc _ _ _ (in_A1 p) h.o1, hc _ _ _ (in_TP p) h.tp, hf _ _ (in_TP p) h.tz, hc _ _ _ (in_FL p) h.f0, hc _ _ _ (in_FL p) h.f1, hc _ _ _ (in_FL p) h.f2, hc _ _ _ (in_FL p) h.f3, hc _ _ _ (in_FL p) h.f4, hf _ _ (in_FL p) h.fz, fun b hb hO => ?_, h.neT, h.neF, ?_, h.lowP, fun b hO => ?_⟩
  · have hZ2 : Z ∈ p.all := by rcases hZ with rfl | rfl; exact in_S p; exact in_C p
    exact ⟨hc _ _ _ hZ2 (h.st Z hZ).1, hc _ _ _ hZ2 (h.st Z hZ).2⟩
  · rcases hs.own b hO with hq | hq
    · exact h.out b hb hq
    · have := h.lt b hb; omega
  · have hB := h.below
    have hT := hs.turned
    exact ⟨hT.os.trans hB.os, hT.tape.trans hB.tape, hT.output.trans hB.output, Nat.le_trans hB.size hT.size, fun k hk => (hT.block k (Nat.lt_of_lt_of_le hk hB.size) (fun ho => by have := h.lowO k ho; omega)).trans (hB.block k hk)⟩
  · rcases hs.own b hO with hq | hq
    · exact h.lowO b hq
    · exact Nat.le_trans h.below.size hq
theorem below_cell {W0 W : World} (h : Below W0.heap.size W0 W) (a : Addr) (v : Value) (ha : W0.heap.size ≤ a.block) : Below W0.heap.size W0 (W.setCell a v) :=
  ⟨h.os, h.tape, h.output, by simpa [World.setCell] using h.size, fun k hk => by rw [Below.heap_setCell _ _ _ _ (by omega)]; exact h.block k hk⟩
theorem is_set {s lay W} (h : FsIs s lay W) (a : Addr) (v : Value) (ho : ¬ Owns (s.obj lay) lay a.block) : FsIs s lay (W.setCell a v) :=
  ⟨h.lies.kept fun i hi => Below.heap_setCell _ _ _ _ (fun e => ho ⟨i, hi, e⟩), h.ok⟩
theorem Sh.tape {W0 s lay p rest q W} (h : Sh W0 s lay p rest q W) (rest' : List UInt8) : Sh W0 s lay p rest' q (W.setCell ⟨p.TP, 0, none⟩ (.string ⟨rest'.toArray⟩)) := by
  obtain ⟨n1, n2, n3, n4, n5⟩ := h.neT
  have hc : ∀ b i v, p.TP ≠ b → W.cell? ⟨b, i, none⟩ = some v → (W.setCell ⟨p.TP, 0, none⟩ (.string ⟨rest'.toArray⟩)).cell? ⟨b, i, none⟩ = some v := fun b i v hne hv => by
    rw [cs_other (by simp [Ne.symm hne])]; exact hv
  refine ⟨is_set h.is _ _ (h.out _ (in_TP p)), fun Z hZ => ?_, hc _ _ _ n3 h.o0, hc _ _ _ n4 h.o1, cs_same h.tp, by rw [fz_set]; exact h.tz, hc _ _ _ n5 h.f0, hc _ _ _ n5 h.f1, hc _ _ _ n5 h.f2, hc _ _ _ n5 h.f3, hc _ _ _ n5 h.f4, by rw [fz_set]; exact h.fz, h.out, h.neT, h.neF, below_cell h.below _ _ (h.lowP _ (in_TP p)), h.lowP, h.lowO⟩
  have hne : p.TP ≠ Z := by rcases hZ with rfl | rfl; exact n1; exact n2
  exact ⟨hc _ _ _ hne (h.st Z hZ).1, hc _ _ _ hne (h.st Z hZ).2⟩
theorem Sh.place {W0 s lay p rest q W} (h : Sh W0 s lay p rest q W) {z : Int} {q' : Nat} (hz : z = q') : Sh W0 s lay p rest q' (W.setCell ⟨p.FL, 2, none⟩ (.int .i64 z)) := by
  subst hz
  obtain ⟨n1, n2, n3, n4, n5⟩ := h.neF
  have hc : ∀ b i v, p.FL ≠ b → W.cell? ⟨b, i, none⟩ = some v → (W.setCell ⟨p.FL, 2, none⟩ (.int .i64 q')).cell? ⟨b, i, none⟩ = some v := fun b i v hne hv => by
    rw [cs_other (by simp [Ne.symm hne])]; exact hv
  have hd : ∀ i v, i ≠ 2 → W.cell? ⟨p.FL, i, none⟩ = some v → (W.setCell ⟨p.FL, 2, none⟩ (.int .i64 q')).cell? ⟨p.FL, i, none⟩ = some v := fun i v hne hv => by
    rw [cs_other (by simp [hne])]; exact hv
  refine ⟨is_set h.is _ _ (h.out _ (in_FL p)), fun Z hZ => ?_, hc _ _ _ n3 h.o0, hc _ _ _ n4 h.o1, hc _ _ _ n5 h.tp, by rw [fz_set]; exact h.tz, hd _ _ (by omega) h.f0, hd _ _ (by omega) h.f1, cs_same h.f2, hd _ _ (by omega) h.f3, hd _ _ (by omega) h.f4, by rw [fz_set]; exact h.fz, h.out, h.neT, h.neF, below_cell h.below _ _ (h.lowP _ (in_FL p)), h.lowP, h.lowO⟩
  have hne : p.FL ≠ Z := by rcases hZ with rfl | rfl; exact n1; exact n2
  exact ⟨hc _ _ _ hne (h.st Z hZ).1, hc _ _ _ hne (h.st Z hZ).2⟩

theorem sat0_any {W0 s lay p rest q} (Z : Nat) (w : World) (h : Sh W0 s lay p rest q w) (hZ : Z = p.S ∨ Z = p.C) : Calls Tryz.prog 30 #[ptrTo Z, .int .i64 0] w fun e w' => e = .returned (.tuple #[ptrTo p.A0, .int .i64 0]) ∧ w = w' := by
  have h1 := (h.st Z hZ).1
  unfold ptrTo at *
  go_enter Tryz.func30, Tryz.ntmps30
  go_wp2
  go_ret2
  exact ⟨rfl, rfl⟩
theorem sat1_any {W0 s lay p rest q} (Z : Nat) (w : World) (h : Sh W0 s lay p rest q w) (hZ : Z = p.S ∨ Z = p.C) : Calls Tryz.prog 30 #[ptrTo Z, .int .i64 1] w fun e w' => e = .returned (.tuple #[ptrTo p.A1, .int .i64 0]) ∧ w = w' := by
  have h1 := (h.st Z hZ).2
  unfold ptrTo at *
  go_enter Tryz.func30, Tryz.ntmps30
  go_wp2
  go_ret2
  exact ⟨rfl, rfl⟩
theorem Sh.drewN {W0 s lay p rest q W} (h : Sh W0 s lay p rest q W) (n : Nat) : Sh W0 s lay p rest q (W.drewN n) :=
  ⟨h.is.drewN n, h.st, h.o0, h.o1, h.tp, h.tz, h.f0, h.f1, h.f2, h.f3, h.f4, h.fz, h.out, h.neT, h.neF, ⟨h.below.os, h.below.tape, h.below.output, h.below.size, h.below.block⟩, h.lowP, h.lowO⟩
set_option maxRecDepth 100000 in
theorem tread_any {W0 s lay p rest q} (n : Nat) (w : World) (h : Sh W0 s lay p rest q w) (hr : rest.length ≤ 1000000) (hn : n ≤ 1000000) : Calls Tryz.prog 154 #[ptrTo p.TP, .int .i64 n] w fun e w' =>
    e = .returned (.tuple #[.string ⟨(rest.take n).toArray⟩, .int .i64 0]) ∧ Sh W0 s lay p (rest.drop n) q w' := by
  have h1 := h.tp
  have h2 := h.tz
  have hr1 : (rest.length : Int) ≤ 1000000 := by omega
  have hn1 : (n : Int) ≤ 1000000 := by omega
  have hsz : (⟨rest.toArray⟩ : ByteArray).size = rest.length := rfl
  unfold ptrTo at *
  by_cases hle : n ≤ rest.length
  · have hle1 : ¬ (rest.length : Int) < n := by omega
    go_enter Tryz.func154, Tryz.ntmps154
    go_wp2_with fail
    go_quiet (fail)
    have hq := h.drewN nq
    have g1 := hq.tp
    have g2 := hq.tz
    unfold ptrTo at *
    have hl2 : ((rest.take n).length : Int) ≤ rest.length := by rw [List.length_take]; omega
    go_wp2_with fail
    go_ret2
    exact ⟨rfl, hq.tape _⟩
  · have hle1 : (rest.length : Int) < n := by omega
    have ht : rest.take n = rest := List.take_of_length_le (by omega)
    have hd : rest.drop n = [] := List.drop_of_length_le (by omega)
    rw [ht, hd]
    go_enter Tryz.func154, Tryz.ntmps154
    go_wp2_with fail
    go_quiet (fail)
    have hq := h.drewN nq
    have g1 := hq.tp
    have g2 := hq.tz
    unfold ptrTo at *
    go_wp2_with fail
    go_ret2
    exact ⟨rfl, hq.tape []⟩
theorem fmay_any {W0 s lay p rest q} (w : World) (h : Sh W0 s lay p rest q w) : Calls Tryz.prog 161 #[ptrTo p.FL, .int .i64 2] w fun e w' => e = .returned (.int .i64 0) ∧ w = w' := by
  have h3 := h.f3
  have h4 := h.f4
  unfold ptrTo at *
  go_enter Tryz.func161, Tryz.ntmps161
  go_wp2
  go_ret
  exact ⟨rfl, rfl⟩
set_option maxRecDepth 100000 in
theorem fplace_any {W0 s lay p rest q} (x : Nd) (d : List UInt8) (w : World) (h : Sh W0 s lay p rest q w) (hn : s.nd 2 = some x) (hk : x.kind = 1) (ht : x.taken s) (hs : 0 ≤ x.size ∧ x.size ≤ 4096) (hq : q + d.length < 4096) {s' : Fs} (hW : s.writeS 1 x q d = (d.length, s')) :
    Calls Tryz.prog 159 #[ptrTo p.FL, .string ⟨d.toArray⟩] w fun e w' => e = .returned (.tuple #[.int .i64 d.length, .int .i64 0]) ∧ Sh W0 s' lay p rest (q + d.length) w' := by
  have f0 := h.f0
  have f1 := h.f1
  have f2 := h.f2
  have f3 := h.f3
  have hql : (q : Int) + d.length < 4096 := by omega
  have HM := Lib.hid (fmay_any w h)
  have hd : d.take (4096 - q) = d := List.take_of_length_le (by omega)
  have HW : ∀ W, Sh W0 s lay p rest q W → Calls Tryz.prog 151 #[ptrTo (lay .F), .int .i64 2, .int .i64 q, .string ⟨d.toArray⟩] W fun e w' => e = .returned (.tuple #[.int .i64 d.length, .int .i64 0]) ∧ Sh W0 s' lay p rest q w' := fun W hS => by
    refine (nwrite_any 2 x q d W hS.is hn hk ht hs (by omega)).mono ?_
    rintro e w' ⟨n, s2, h1, rfl, hst⟩
    rw [hd, show slotOf 2 = 1 from rfl, hW] at h1
    cases h1
    refine ⟨?_, hS.step hst⟩
    by_cases h0 : d.length = 0
    · obtain rfl := List.length_eq_zero_iff.1 h0
      simp
    · rw [if_neg (by omega)]
  have HW' := Lib.hid HW
  clear HW
  unfold ptrTo at *
  go_enter Tryz.func159, Tryz.ntmps159
  go_wp2_with (go_at_call 161; refine HM.out.mono ?_; rintro e w' ⟨rfl, rfl⟩)
  have hD : Sh W0 s lay p rest q w.drew := h.drewN 1
  have f0' := hD.f0
  have f1' := hD.f1
  have f2' := hD.f2
  unfold ptrTo at f0'
  go_region_held3 (fun W => W.cell? ⟨p.FL, 0, none⟩ = some (.pointer (some ⟨lay .F, 0, none⟩)) ∧ W.cell? ⟨p.FL, 1, none⟩ = some (.int .i64 2) ∧ W.cell? ⟨p.FL, 2, none⟩ = some (.int .i64 q)) (first | go_keep | exact ⟨f0', f1', f2'⟩ | exact ⟨g0, g1, g2⟩)
    (first
      | (go_at_call 151
         go_must (refine (HW'.out _ (by exact hD)).mono ?_)
         rintro e w2 ⟨rfl, hS2⟩
         have g0 := hS2.f0
         have g1 := hS2.f1
         have g2 := hS2.f2
         unfold ptrTo at g0))
  have g2 := hS2.f2
  have gz := hS2.fz
  go_wp2_with fail
  go_ret2
  exact ⟨rfl, hS2.place (by omega)⟩
set_option maxRecDepth 100000 in
theorem sread_any {W0 s lay p rest q} (Z : Nat) (n : Nat) (w : World) (h : Sh W0 s lay p rest q w) (hZ : Z = p.S ∨ Z = p.C) (hr : rest.length ≤ 1000000) (hn : n ≤ 1000000) : Calls Tryz.prog 10 #[ptrTo Z, .int .i64 0, .int .i64 n] w fun e w' =>
    e = .returned (.tuple #[.string ⟨(rest.take n).toArray⟩, .int .i64 0]) ∧ Sh W0 s lay p (rest.drop n) q w' := by
  have hm : ∀ W : World, (method 333 63 (.pointer (some ⟨p.TP, 0, none⟩)) "Read").run Tryz.prog W = .ok (154, .pointer (some ⟨p.TP, 0, none⟩)) W := fun _ => by kernel_rfl
  have h8 := h.o0
  have HA := Lib.hid (sat0_any Z w h hZ)
  have HW := Lib.hid (tread_any n w h hr hn)
  clear h
  unfold ptrTo at *
  go_enter Tryz.func10, Tryz.ntmps10
  go_wp2_with fail
  refine HA.out.mono ?_
  rintro e w1 ⟨rfl, rfl⟩
  go_wp2_with fail
  refine HW.out.mono ?_
  rintro e w2 ⟨rfl, hr⟩
  go_wp2_with fail
  go_ret2
  exact ⟨rfl, hr⟩
set_option maxRecDepth 100000 in
theorem swrite_any {W0 s lay p rest q} (Z : Nat) (x : Nd) (d : List UInt8) (w : World) (h : Sh W0 s lay p rest q w) (hZ : Z = p.S ∨ Z = p.C) (hn : s.nd 2 = some x) (hk : x.kind = 1) (ht : x.taken s) (hs : 0 ≤ x.size ∧ x.size ≤ 4096) (hq : q + d.length < 4096) {s' : Fs} (hW : s.writeS 1 x q d = (d.length, s')) :
    Calls Tryz.prog 11 #[ptrTo Z, .int .i64 1, .string ⟨d.toArray⟩] w fun e w' => e = .returned (.tuple #[.int .i64 d.length, .int .i64 0]) ∧ Sh W0 s' lay p rest (q + d.length) w' := by
  have hm : ∀ W : World, (method 333 67 (.pointer (some ⟨p.FL, 0, none⟩)) "Write").run Tryz.prog W = .ok (159, .pointer (some ⟨p.FL, 0, none⟩)) W := fun _ => by kernel_rfl
  have h8 := h.o1
  have HA := Lib.hid (sat1_any Z w h hZ)
  have HW := Lib.hid (fplace_any x d w h hn hk ht hs hq hW)
  clear h
  unfold ptrTo at *
  go_enter Tryz.func11, Tryz.ntmps11
  go_wp2_with fail
  refine HA.out.mono ?_
  rintro e w1 ⟨rfl, rfl⟩
  go_wp2_with fail
  refine HW.out.mono ?_
  rintro e w2 ⟨rfl, hr⟩
  go_wp2_with fail
  go_ret2
  exact ⟨rfl, hr⟩
end Go.Proofs.YtgooohccndjjdaaGreatDoor
