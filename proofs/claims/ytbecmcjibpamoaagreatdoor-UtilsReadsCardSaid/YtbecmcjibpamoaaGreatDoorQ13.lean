/- FsL -/
import Derived.Test.YtbecmcjibpamoaaGreatDoorQ12
import Derived.Laws.MakeOwn
set_option linter.unusedVariables false
set_option linter.unusedSimpArgs false
set_option linter.deprecated false
set_option linter.unnecessarySimpa false
namespace Go.Proofs.YtbecmcjibpamoaaGreatDoor
open Go.RowKit IntWalk
def Fs.byteAt (s : Fs) (x : Nd) (p : Nat) : UInt8 := match x.part (p / 64 : Nat) with
  | some b => ((s.bk b).getD []).getD (p % 64) 0
  | none => 0
def Fs.bytes (s : Fs) (x : Nd) (at_ m : Nat) : List UInt8 := (List.range m).map fun j => s.byteAt x (at_ + j)
theorem Step.rowNew {s lay w w'} (h : FsIs s lay w) (k : Step s lay w s lay w') (g : Nat) (cs : Array Value) (hg : w.heap.size ≤ g) : Step s lay w s lay (w'.setRow g cs) := by
  have hno : ∀ i, s.obj lay i ≠ none → lay i ≠ g := fun i hi e => by have := h.lies.owns_lt ⟨i, hi, rfl⟩; omega
  exact ⟨⟨k.is.lies.kept fun i hi => setRow_other _ _ _ _ (hno i hi), k.is.ok⟩, k.turned.row g cs (fun q => absurd q (by omega)), k.own⟩
theorem run_make_bytes {P : Program} {t e : TypeId} (ht : P.underlying t = some (.slice e)) (he : (P.info? e).map (fun i => (i.size, i.bytes, i.zero)) = some (1, 1, some (.int .u8 0))) (w : World) (k : Nat) (hk : k ≤ 1000000) :
    (Instr.makeSlice t (.int .i64 k) (.int .i64 k)).run P w = .ok (.slice (some ⟨w.heap.size, 0, none⟩) k k) (w.alloc (.cells (List.replicate k (byteV 0)).toArray e)) := by
  obtain ⟨i, hi, h1, h2, h3⟩ : ∃ i, P.info? e = some i ∧ i.size = 1 ∧ i.bytes = 1 ∧ i.zero = some (.int .u8 0) := by
    cases hq : P.info? e with
    | none => rw [hq] at he; cases he
    | some i => rw [hq] at he; simp only [Option.map_some, Option.some.injEq, Prod.mk.injEq] at he; exact ⟨i, rfl, he.1, he.2.1, he.2.2⟩
  have := run_make (P := P) w t e i _ ht hi h3 .i64 .i64 k k (by omega) (by omega) (by rw [h2]; omega) (by omega)
  rw [this, h1]
  congr 3
  simp only [Int.toNat_natCast, Nat.mul_one]
  apply Array.ext'
  apply List.ext_getElem?
  intro j
  by_cases q : j < k
  · simp [madeCells, Value.cells, q, byteV, Nat.mod_one]
  · simp [madeCells, Value.cells, q, byteV]
theorem Fs.bytes_add (s : Fs) (x : Nd) (at_ a b : Nat) : s.bytes x at_ (a + b) = s.bytes x at_ a ++ s.bytes x (at_ + a) b := by
  unfold Fs.bytes
  rw [List.range_add, List.map_append, List.map_map]
  congr 1
  apply List.map_congr_left
  intro j _
  simp [Function.comp, Nat.add_assoc]
theorem Fs.bytes_len (s : Fs) (x : Nd) (at_ m : Nat) : (s.bytes x at_ m).length = m := by simp [Fs.bytes]
theorem Fs.bytes_none {s : Fs} {x : Nd} {p pn k : Nat} (hp : x.part (pn : Int) = none) (hpn : pn = p / 64) (h : p % 64 + k ≤ 64) : s.bytes x p k = List.replicate k 0 := by
  apply List.ext_getElem?
  intro j
  unfold Fs.bytes
  by_cases q : j < k
  · have e : (p + j) / 64 = pn := by omega
    rw [List.getElem?_map, List.getElem?_range q]
    simp only [Option.map_some, Fs.byteAt, e, hp]
    simp [q]
  · simp [q]
theorem Fs.bytes_some {s : Fs} {x : Nd} {p pn k on : Nat} {b : Int} {l : List UInt8} (hp : x.part pn = some b) (hl : s.bk b = some l) (h64 : l.length = 64) (hpn : pn = p / 64) (hon : on = p % 64) (h : on + k ≤ 64) : s.bytes x p k = (l.drop on).take k := by
  apply List.ext_getElem?
  intro j
  unfold Fs.bytes
  by_cases q : j < k
  · have e : (p + j) / 64 = pn := by omega
    have e2 : (p + j) % 64 = on + j := by omega
    have h3 : on + j < l.length := by omega
    rw [List.getElem?_map, List.getElem?_range q]
    simp only [Option.map_some, Fs.byteAt, e, e2, hp, hl]
    simp [q, h3]
  · rw [List.getElem?_eq_none (by simp; omega), List.getElem?_eq_none (by simp; omega)]
structure RInv (s : Fs) (lay : FId → Nat) (w : World) (r : Nat) (x : Nd) (at_ m done : Nat) (W : World) : Prop where
  step : Step s lay w s lay W
  row : W.heap[r]? = some (.cells ((s.bytes x at_ done).map byteV ++ List.replicate (m - done) (byteV 0)).toArray 5 (0, 0))
  le : done ≤ m
theorem RInv.cell {s lay w r x at_ m W} (h : RInv s lay w r x at_ m m W) (j : Nat) (b : UInt8) (hj : (s.bytes x at_ m)[j]? = some b) : W.cell? ⟨r, 0 + j, none⟩ = some (byteV b) := by
  have hlt := (List.getElem?_eq_some_iff.1 hj).1
  have hr := h.row
  rw [Nat.sub_self, List.replicate_zero, List.append_nil] at hr
  simp [World.cell?, hr, hj]
theorem RInv.less {s lay w r x at_ m done W} {pn k : Nat} (h : RInv s lay w r x at_ m done W) (hp : x.part pn = none) (hpn : pn = (at_ + done) / 64) (hk : (at_ + done) % 64 + k ≤ 64) (hle : done + k ≤ m) : RInv s lay w r x at_ m (done + k) W := by
  refine ⟨h.step, ?_, hle⟩
  rw [h.row, Fs.bytes_add, Fs.bytes_none hp hpn hk, List.map_append, List.map_replicate, List.append_assoc, List.replicate_append_replicate]
  rw [show k + (m - (done + k)) = m - done by omega]
theorem RInv.more {s lay w r x at_ m done W} {pn k on : Nat} {b : Int} {l : List UInt8} (h : RInv s lay w r x at_ m done W) (hw : FsIs s lay w) (hr : w.heap.size ≤ r) (hp : x.part pn = some b) (hl : s.bk b = some l) (h64 : l.length = 64) (hpn : pn = (at_ + done) / 64) (hon : on = (at_ + done) % 64) (hk : on + k ≤ 64) (hle : done + k ≤ m) :
    RInv s lay w r x at_ m (done + k) (W.setRow r ((((s.bytes x at_ done).map byteV ++ List.replicate (m - done) (byteV 0)).take done) ++ (((l.drop on).take k).map byteV ++ ((s.bytes x at_ done).map byteV ++ List.replicate (m - done) (byteV 0)).drop (done + ((l.drop on).take k).length))).toArray) := by
  refine ⟨Step.rowNew hw h.step r _ hr, ?_, hle⟩
  rw [setRow_heap _ _ _ _ _ _ h.row]
  congr 2
  have hkl : ((l.drop on).take k).length = k := by rw [List.length_take, List.length_drop]; omega
  have hdl : ((s.bytes x at_ done).map byteV).length = done := by rw [List.length_map, Fs.bytes_len]
  rw [hkl, Fs.bytes_add, Fs.bytes_some hp hl h64 hpn hon hk, List.map_append, List.append_assoc]
  congr 1
  congr 1
  · rw [List.take_append_of_le_length (by omega), List.take_of_length_le (by omega)]
  · congr 1
    rw [List.drop_append, List.drop_of_length_le (by omega), List.nil_append, hdl, List.drop_replicate]
    congr 1
    omega
end Go.Proofs.YtbecmcjibpamoaaGreatDoor
