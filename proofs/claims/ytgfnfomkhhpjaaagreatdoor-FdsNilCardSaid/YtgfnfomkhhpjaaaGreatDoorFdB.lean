/- Fds: how files, sets, open things and sinks lie in memory. -/
import Derived.Test.YtgfnfomkhhpjaaaGreatDoorFdA
import Derived.Test.YtgfnfomkhhpjaaaGreatDoorPipeC
namespace Go.Proofs.YtgfnfomkhhpjaaaGreatDoor
open Go.RowKit

/-- all is as it was but for new blocks and the blocks B -/
structure Kept (B : List Nat) (w w' : World) : Prop where
  os : w'.os = w.os
  tape : w'.tape = w.tape
  output : w'.output = w.output
  size : w.heap.size ≤ w'.heap.size
  block : ∀ k, k < w.heap.size → k ∉ B → w'.heap[k]? = w.heap[k]?
theorem Kept.refl (B : List Nat) (w : World) : Kept B w w := ⟨rfl, rfl, rfl, Nat.le_refl _, fun _ _ _ => rfl⟩
theorem Kept.trans {B : List Nat} {a b c : World} (h : Kept B a b) (k : Kept B b c) : Kept B a c :=
  ⟨k.os.trans h.os, k.tape.trans h.tape, k.output.trans h.output, Nat.le_trans h.size k.size, fun x hx hB => (k.block x (Nat.lt_of_lt_of_le hx h.size) hB).trans (h.block x hx hB)⟩
theorem Kept.more {B C : List Nat} {a b : World} (h : Kept B a b) (hs : ∀ x, x ∈ B → x ∈ C ∨ a.heap.size ≤ x) : Kept C a b :=
  ⟨h.os, h.tape, h.output, h.size, fun x hx hC => h.block x hx (fun hB => (hs x hB).elim hC (by omega))⟩
theorem Kept.step {B C : List Nat} {a b c : World} (h : Kept B a b) (k : Kept C b c) (hs : ∀ x, x ∈ C → x ∈ B ∨ a.heap.size ≤ x) : Kept B a c :=
  ⟨k.os.trans h.os, k.tape.trans h.tape, k.output.trans h.output, Nat.le_trans h.size k.size, fun x hx hB => (k.block x (Nat.lt_of_lt_of_le hx h.size) (fun e => (hs x e).elim hB (by omega))).trans (h.block x hx hB)⟩
theorem Kept.set {B : List Nat} {a b : World} (h : Kept B a b) (ad : Addr) (v : Value) (hb : ad.block ∈ B ∨ a.heap.size ≤ ad.block) : Kept B a (b.setCell ad v) := by
  have g := grown_set (World.grownBy.refl b (some ad.block)) ad rfl v
  refine ⟨g.os.trans h.os, g.tape.trans h.tape, g.output.trans h.output, Nat.le_trans h.size g.size, fun x hx hB => ?_⟩
  rw [g.block x (Nat.lt_of_lt_of_le hx h.size) (fun e => by cases e; exact hb.elim hB (by omega))]
  exact h.block x hx hB
theorem Kept.alloc {B : List Nat} {a b : World} (h : Kept B a b) (o : Obj) : Kept B a (b.alloc o) := by
  have g := ((Below.refl b.heap.size b).alloc (Nat.le_refl _) o)
  refine ⟨g.os.trans h.os, g.tape.trans h.tape, g.output.trans h.output, Nat.le_trans h.size g.size, fun x hx hB => ?_⟩
  rw [g.block x (Nat.lt_of_lt_of_le hx h.size)]
  exact h.block x hx hB
theorem Kept.grown {B : List Nat} {a b c : World} {r : Option Nat} (h : Kept B a b) (g : b.grownBy c r) (hr : ∀ k, r = some k → k ∈ B ∨ a.heap.size ≤ k) : Kept B a c := by
  refine ⟨g.os.trans h.os, g.tape.trans h.tape, g.output.trans h.output, Nat.le_trans h.size g.size, fun x hx hB => ?_⟩
  rw [g.block x (Nat.lt_of_lt_of_le hx h.size) (fun e => (hr x e.symm).elim hB (by omega))]
  exact h.block x hx hB
theorem Kept.drewN {B : List Nat} {a b : World} (h : Kept B a b) (n : Nat) : Kept B a (b.drewN n) := ⟨h.os, h.tape, h.output, h.size, h.block⟩
theorem Kept.below {B : List Nat} {w a b : World} (hb : Below w.heap.size w a) (h : Kept B a b) (hB : ∀ x, x ∈ B → w.heap.size ≤ x) : Below w.heap.size w b :=
  ⟨h.os.trans hb.os, h.tape.trans hb.tape, h.output.trans hb.output, Nat.le_trans hb.size h.size, fun x hx => (h.block x (Nat.lt_of_lt_of_le hx hb.size) (fun e => by have := hB x e; omega)).trans (hb.block x hx)⟩
theorem Kept.of_below {B : List Nat} {a b : World} (h : Below a.heap.size a b) : Kept B a b := ⟨h.os, h.tape, h.output, h.size, fun x hx _ => h.block x hx⟩

/-- a set: its files, and what stands at each number -/
structure SetIs (w : World) (S F : Nat) (tab : Nat → Option Addr) : Prop where
  files : w.cell? ⟨S, 0, none⟩ = some (.pointer (some ⟨F, 0, none⟩))
  fd : ∀ i, i < 16 → w.cell? ⟨S, 1 + i, none⟩ = some (.pointer (tab i))
  free : ∀ i, w.frozen? ⟨S, i, none⟩ = false
/-- all that is open: the tree, how many, the sinks -/
structure FilesIs (w : World) (F : Nat) (p : Option Addr) (n : Nat) (sv : Value) : Prop where
  fs : w.cell? ⟨F, 0, none⟩ = some (.pointer p)
  many : w.cell? ⟨F, 1, none⟩ = some (.int .i64 n)
  sinks : w.cell? ⟨F, 2, none⟩ = some sv
  free : ∀ i, w.frozen? ⟨F, i, none⟩ = false
/-- something open: what it is, and how many numbers are open for it -/
structure OpenIs (w : World) (O : Nat) (v : Value) (n : Nat) : Prop where
  thing : w.cell? ⟨O, 0, none⟩ = some v
  many : w.cell? ⟨O, 1, none⟩ = some (.int .i64 n)
  free : ∀ i, w.frozen? ⟨O, i, none⟩ = false
theorem SetIs.lt {w S F tab} (h : SetIs w S F tab) : S < w.heap.size := World.block_lt_of_cell? w ⟨S, 0, none⟩ h.files
theorem FilesIs.lt {w F p n sv} (h : FilesIs w F p n sv) : F < w.heap.size := World.block_lt_of_cell? w ⟨F, 0, none⟩ h.fs
theorem OpenIs.lt {w O v n} (h : OpenIs w O v n) : O < w.heap.size := World.block_lt_of_cell? w ⟨O, 0, none⟩ h.thing
theorem SetIs.keep {w w' : World} {S F tab} (h : SetIs w S F tab) (hb : w'.heap[S]? = w.heap[S]?) : SetIs w' S F tab :=
  ⟨by rw [World.cell?_of_block (w := w) hb]; exact h.files, fun i hi => by rw [World.cell?_of_block (w := w) hb]; exact h.fd i hi, fun i => by rw [World.frozen?_of_block (w := w) hb]; exact h.free i⟩
theorem FilesIs.keep {w w' : World} {F p n sv} (h : FilesIs w F p n sv) (hb : w'.heap[F]? = w.heap[F]?) : FilesIs w' F p n sv :=
  ⟨by rw [World.cell?_of_block (w := w) hb]; exact h.fs, by rw [World.cell?_of_block (w := w) hb]; exact h.many, by rw [World.cell?_of_block (w := w) hb]; exact h.sinks, fun i => by rw [World.frozen?_of_block (w := w) hb]; exact h.free i⟩
theorem OpenIs.keep {w w' : World} {O v n} (h : OpenIs w O v n) (hb : w'.heap[O]? = w.heap[O]?) : OpenIs w' O v n :=
  ⟨by rw [World.cell?_of_block (w := w) hb]; exact h.thing, by rw [World.cell?_of_block (w := w) hb]; exact h.many, fun i => by rw [World.frozen?_of_block (w := w) hb]; exact h.free i⟩
theorem SetIs.kept {B w w' S F tab} (h : SetIs w S F tab) (k : Kept B w w') (hB : S ∉ B) : SetIs w' S F tab := h.keep (k.block S h.lt hB)
theorem FilesIs.kept {B w w' F p n sv} (h : FilesIs w F p n sv) (k : Kept B w w') (hB : F ∉ B) : FilesIs w' F p n sv := h.keep (k.block F h.lt hB)
theorem OpenIs.kept {B w w' O v n} (h : OpenIs w O v n) (k : Kept B w w') (hB : O ∉ B) : OpenIs w' O v n := h.keep (k.block O h.lt hB)
theorem heap_set {w : World} {a : Addr} {v : Value} {k : Nat} (h : k ≠ a.block) : (w.setCell a v).heap[k]? = w.heap[k]? := by
  rcases Nat.lt_or_ge k w.heap.size with hk | hk
  · exact (grown_set (World.grownBy.refl w (some a.block)) a rfl v).block k hk (fun e => h (by cases e; rfl))
  · have hs : (w.setCell a v).heap.size = w.heap.size := by simp
    rw [Array.getElem?_eq_none (by omega), Array.getElem?_eq_none hk]
theorem SetIs.other {w S F tab} (h : SetIs w S F tab) (a : Addr) (v : Value) (hn : S ≠ a.block) : SetIs (w.setCell a v) S F tab := h.keep (heap_set hn)
theorem FilesIs.other {w F p n sv} (h : FilesIs w F p n sv) (a : Addr) (v : Value) (hn : F ≠ a.block) : FilesIs (w.setCell a v) F p n sv := h.keep (heap_set hn)
theorem OpenIs.other {w O x n} (h : OpenIs w O x n) (a : Addr) (v : Value) (hn : O ≠ a.block) : OpenIs (w.setCell a v) O x n := h.keep (heap_set hn)
def updT (tab : Nat → Option Addr) (i : Nat) (v : Option Addr) : Nat → Option Addr := fun j => if j = i then v else tab j
theorem SetIs.put {w S F tab} (h : SetIs w S F tab) (i : Nat) (hi : i < 16) (v : Option Addr) : SetIs (w.setCell ⟨S, 1 + i, none⟩ (.pointer v)) S F (updT tab i v) :=
  ⟨by rw [cs_other (by simp)]; exact h.files, fun j hj => by
    by_cases e : j = i
    · subst e; rw [cs_same (h.fd _ hj)]; simp [updT]
    · rw [cs_other (by first | (simp; done) | (simp; omega))]; simp [updT, e]; exact h.fd j hj,
   fun i => by rw [fz_set]; exact h.free i⟩
theorem FilesIs.set_many {w F p n sv} (h : FilesIs w F p n sv) {z : Int} {m : Nat} (hz : z = m) : FilesIs (w.setCell ⟨F, 1, none⟩ (.int .i64 z)) F p m sv :=
  ⟨by rw [cs_other (by simp)]; exact h.fs, by rw [hz]; exact cs_same h.many, by rw [cs_other (by simp)]; exact h.sinks, fun i => by rw [fz_set]; exact h.free i⟩
theorem FilesIs.set_sinks {w F p n sv} (h : FilesIs w F p n sv) (v : Value) : FilesIs (w.setCell ⟨F, 2, none⟩ v) F p n v :=
  ⟨by rw [cs_other (by simp)]; exact h.fs, by rw [cs_other (by simp)]; exact h.many, cs_same h.sinks, fun i => by rw [fz_set]; exact h.free i⟩
theorem OpenIs.set_many {w O v n} (h : OpenIs w O v n) {z : Int} {m : Nat} (hz : z = m) : OpenIs (w.setCell ⟨O, 1, none⟩ (.int .i64 z)) O v m :=
  ⟨by rw [cs_other (by simp)]; exact h.thing, by rw [hz]; exact cs_same h.many, fun i => by rw [fz_set]; exact h.free i⟩

def zeroSet : Array Value := (List.replicate 17 (Value.pointer none)).toArray
theorem zeroS (w : World) : (zeroValue 56).run Tryz.prog w = .ok (.agg zeroSet) w := by kernel_rfl
theorem zeroSet_size : zeroSet.size = 17 := by rfl
theorem cellsS : Tryz.prog.cellsOf 56 = 17 := by kernel_rfl
set_option maxRecDepth 100000 in
theorem set_any (F : Nat) (w : World) : Calls Tryz.prog 11 #[.pointer (some ⟨F, 0, none⟩)] w fun e w' => e = .returned (.pointer (some ⟨w.heap.size, 0, none⟩)) ∧ Below w.heap.size w w' ∧ SetIs w' w.heap.size F (fun _ => none) := by
  have hz := zeroS
  have hs := zeroSet_size
  have hc := cellsS
  go_enter Tryz.func11, Tryz.ntmps11
  go_wp2
  go_ret
  refine ⟨rfl, below_of_grown (grown_alloc (World.grownBy.refl _ _) _), ?_, fun i hi => ?_, fun i => fz_new rfl⟩
  · rw [cell_new rfl, Array.getElem?_setIfInBounds, if_pos rfl, if_pos (by rw [hs]; omega)]
  · rw [cell_new rfl, Array.getElem?_setIfInBounds, if_neg (by omega)]
    simp only [zeroSet, List.getElem?_toArray]
    rw [List.getElem?_replicate, if_pos (by omega)]
theorem fdsnew_any (p : Nat) (w : World) : Calls Tryz.prog 4 #[.pointer (some ⟨p, 0, none⟩)] w fun e w' => e = .returned (.tuple #[.pointer (some ⟨w.heap.size, 0, none⟩), .int .i64 0]) ∧ Below w.heap.size w w' ∧ FilesIs w' w.heap.size (some ⟨p, 0, none⟩) 0 (.slice none 0 0) := by
  go_enter Tryz.func4, Tryz.ntmps4
  go_wp2
  go_ret2
  exact ⟨rfl, below_of_grown (grown_alloc (World.grownBy.refl _ _) _), by rw [cell_new rfl]; rfl, by rw [cell_new rfl]; rfl, by rw [cell_new rfl]; rfl, fun i => fz_new rfl⟩
end Go.Proofs.YtgfnfomkhhpjaaaGreatDoor
