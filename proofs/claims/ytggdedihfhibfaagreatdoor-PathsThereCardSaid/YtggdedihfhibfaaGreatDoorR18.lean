/- Texts of one proof, packed: FsL, FsM -/
import Derived.Test.YtggdedihfhibfaaGreatDoorR17
import Derived.Laws.MakeOwn
set_option linter.unusedVariables false
set_option linter.unusedSimpArgs false
set_option linter.deprecated false
set_option linter.unnecessarySimpa false
/- The file system: bytes of a node are read. -/
namespace Go.Proofs.YtggdedihfhibfaaGreatDoor
open Go.RowKit IntWalk
set_option linter.unusedVariables false
set_option linter.unusedSimpArgs false

/-- the byte at a place of a node -/
def Fs.byteAt (s : Fs) (x : Nd) (p : Nat) : UInt8 := match x.part (p / 64 : Nat) with
  | some b => ((s.bk b).getD []).getD (p % 64) 0
  | none => 0
def Fs.bytes (s : Fs) (x : Nd) (at_ m : Nat) : List UInt8 := (List.range m).map fun j => s.byteAt x (at_ + j)
theorem Step.rowNew {s lay w w'} (h : FsIs s lay w) (k : Step s lay w s lay w') (g : Nat) (cs : Array Value) (hg : w.heap.size ≤ g) : Step s lay w s lay (w'.setRow g cs) := by
  have hno : ∀ i, s.obj lay i ≠ none → lay i ≠ g := fun i hi e => by have := h.lies.owns_lt ⟨i, hi, rfl⟩; omega
  exact ⟨⟨k.is.lies.kept fun i hi => setRow_other _ _ _ _ (hno i hi), k.is.ok⟩, k.turned.row g cs (fun q => absurd q (by omega)), k.own⟩
theorem run_make_bytes {P : Program} {t e : TypeId} (ht : P.underlying t = some (.slice e)) (he : (P.info? e).map (fun i => (i.size, i.bytes, i.zero)) = some (1, 1, some (.int .u8 0))) (w : World) (k : Nat) (hk : k ≤ 1000000) :
    (Instr.makeSlice t (.int .i64 k) (.int .i64 k)).run P w = .ok (.slice (some ⟨w.heap.size, 0, none⟩) k k) (w.alloc (.cells (List.replicate k (byteV 0)).toArray e)) := by
  obtain ⟨i, hi, h1, h2, h3⟩ : ∃ i, P.info? e = some i ∧ i.size = 1 ∧ i.bytes = 1 ∧ i.zero = some (.int .u8 0) := by
    cases hq : P.info? e with
    | none => rw [hq] at he; cases he
    | some i => rw [hq] at he; simp only [Option.map_some, Option.some.injEq, Prod.mk.injEq] at he; exact ⟨i, rfl, he.1, he.2.1, he.2.2⟩
  have := run_make (P := P) w t e i _ ht hi h3 .i64 .i64 k k (by omega) (by omega) (by rw [h2]; omega) (by omega)
  rw [this, h1]
  congr 3
  simp only [Int.toNat_natCast, Nat.mul_one]
  apply Array.ext'
  apply List.ext_getElem?
  intro j
  by_cases q : j < k
  · simp [madeCells, Value.cells, q, byteV, Nat.mod_one]
  · simp [madeCells, Value.cells, q, byteV]
theorem Fs.bytes_add (s : Fs) (x : Nd) (at_ a b : Nat) : s.bytes x at_ (a + b) = s.bytes x at_ a ++ s.bytes x (at_ + a) b := by
  unfold Fs.bytes
  rw [List.range_add, List.map_append, List.map_map]
  congr 1
  apply List.map_congr_left
  intro j _
  simp [Function.comp, Nat.add_assoc]
theorem Fs.bytes_len (s : Fs) (x : Nd) (at_ m : Nat) : (s.bytes x at_ m).length = m := by simp [Fs.bytes]
theorem Fs.bytes_none {s : Fs} {x : Nd} {p pn k : Nat} (hp : x.part (pn : Int) = none) (hpn : pn = p / 64) (h : p % 64 + k ≤ 64) : s.bytes x p k = List.replicate k 0 := by
  apply List.ext_getElem?
  intro j
  unfold Fs.bytes
  by_cases q : j < k
  · have e : (p + j) / 64 = pn := by omega
    rw [List.getElem?_map, List.getElem?_range q]
    simp only [Option.map_some, Fs.byteAt, e, hp]
    simp [q]
  · simp [q]
theorem Fs.bytes_some {s : Fs} {x : Nd} {p pn k on : Nat} {b : Int} {l : List UInt8} (hp : x.part pn = some b) (hl : s.bk b = some l) (h64 : l.length = 64) (hpn : pn = p / 64) (hon : on = p % 64) (h : on + k ≤ 64) : s.bytes x p k = (l.drop on).take k := by
  apply List.ext_getElem?
  intro j
  unfold Fs.bytes
  by_cases q : j < k
  · have e : (p + j) / 64 = pn := by omega
    have e2 : (p + j) % 64 = on + j := by omega
    have h3 : on + j < l.length := by omega
    rw [List.getElem?_map, List.getElem?_range q]
    simp only [Option.map_some, Fs.byteAt, e, e2, hp, hl]
    simp [q, h3]
  · rw [List.getElem?_eq_none (by simp; omega), List.getElem?_eq_none (by simp; omega)]
/-- a round of Read -/
structure RInv (s : Fs) (lay : FId → Nat) (w : World) (r : Nat) (x : Nd) (at_ m done : Nat) (W : World) : Prop where
  step : Step s lay w s lay W
  row : W.heap[r]? = some (.cells ((s.bytes x at_ done).map byteV ++ List.replicate (m - done) (byteV 0)).toArray 5 (0, 0))
  le : done ≤ m
theorem RInv.cell {s lay w r x at_ m W} (h : RInv s lay w r x at_ m m W) (j : Nat) (b : UInt8) (hj : (s.bytes x at_ m)[j]? = some b) : W.cell? ⟨r, 0 + j, none⟩ = some (byteV b) := by
  have hlt := (List.getElem?_eq_some_iff.1 hj).1
  have hr := h.row
  rw [Nat.sub_self, List.replicate_zero, List.append_nil] at hr
  simp [World.cell?, hr, hj]
theorem RInv.less {s lay w r x at_ m done W} {pn k : Nat} (h : RInv s lay w r x at_ m done W) (hp : x.part pn = none) (hpn : pn = (at_ + done) / 64) (hk : (at_ + done) % 64 + k ≤ 64) (hle : done + k ≤ m) : RInv s lay w r x at_ m (done + k) W := by
  refine ⟨h.step, ?_, hle⟩
  rw [h.row, Fs.bytes_add, Fs.bytes_none hp hpn hk, List.map_append, List.map_replicate, List.append_assoc, List.replicate_append_replicate]
  rw [show k + (m - (done + k)) = m - done by omega]
theorem RInv.more {s lay w r x at_ m done W} {pn k on : Nat} {b : Int} {l : List UInt8} (h : RInv s lay w r x at_ m done W) (hw : FsIs s lay w) (hr : w.heap.size ≤ r) (hp : x.part pn = some b) (hl : s.bk b = some l) (h64 : l.length = 64) (hpn : pn = (at_ + done) / 64) (hon : on = (at_ + done) % 64) (hk : on + k ≤ 64) (hle : done + k ≤ m) :
    RInv s lay w r x at_ m (done + k) (W.setRow r ((((s.bytes x at_ done).map byteV ++ List.replicate (m - done) (byteV 0)).take done) ++ (((l.drop on).take k).map byteV ++ ((s.bytes x at_ done).map byteV ++ List.replicate (m - done) (byteV 0)).drop (done + ((l.drop on).take k).length))).toArray) := by
  refine ⟨Step.rowNew hw h.step r _ hr, ?_, hle⟩
  rw [setRow_heap _ _ _ _ _ _ h.row]
  congr 2
  have hkl : ((l.drop on).take k).length = k := by rw [List.length_take, List.length_drop]; omega
  have hdl : ((s.bytes x at_ done).map byteV).length = done := by rw [List.length_map, Fs.bytes_len]
  rw [hkl, Fs.bytes_add, Fs.bytes_some hp hl h64 hpn hon hk, List.map_append, List.append_assoc]
  congr 1
  congr 1
  · rw [List.take_append_of_le_length (by omega), List.take_of_length_le (by omega)]
  · congr 1
    rw [List.drop_append, List.drop_of_length_le (by omega), List.nil_append, hdl, List.drop_replicate]
    congr 1
    omega
end Go.Proofs.YtggdedihfhibfaaGreatDoor
/- The file system: bytes of a node are read (the walk). -/
namespace Go.Proofs.YtggdedihfhibfaaGreatDoor
open Go.RowKit IntWalk
set_option linter.unusedVariables false
set_option linter.unusedSimpArgs false

set_option maxHeartbeats 2000000 in
set_option maxRecDepth 100000 in
theorem read_some {s lay} (i : Int) (x : Nd) (at_ n : Nat) (w : World) (h : FsIs s lay w) (hn : s.nd i = some x) (ht : x.taken s) (hs : 0 ≤ x.size ∧ x.size ≤ 4096) (hat : (at_ : Int) < x.size) (hn64 : (n : Int) ≤ 9223372036854775807) :
    Calls Tryz.prog 114 #[ptrTo (lay .T), .int .i64 i, .int .i64 at_, .int .i64 n] w fun e w' =>
      e = .returned (.tuple #[.string ⟨(s.bytes x at_ (min n (x.size.toNat - at_))).toArray⟩, .int .i64 0]) ∧ Step s lay w s lay w' := by
  obtain ⟨hi1, hi2, hk⟩ := Fs.nd_slot hn
  have hst0 := Step.refl h
  have c2 := h.n3 hk
  obtain ⟨m, hm⟩ : ∃ m : Nat, m = min n (x.size.toNat - at_) := ⟨_, rfl⟩
  rw [← hm]
  have hm4 : m ≤ 4096 := by omega
  have hrun := run_make_bytes (P := Tryz.prog) (t := 76) Tryz.underlying76 (by kernel_rfl) w m (by omega)
  go_enter Tryz.func114, Tryz.ntmps114
  unfold ptrTo
  go_wp2_with (go_at_call 126; refine (find_some i x w h hn).mono ?_; rintro e w' ⟨rfl, rfl⟩; unfold ptrTo)
  all_goals first
    | rw [show x.size - (at_ : Int) = (m : Int) by omega]
    | rw [show (n : Int) = (m : Int) by omega]
  all_goals (have hm' := Lib.hid hm; clear hm)
  all_goals rw [hrun]
  all_goals simp only [Result.andThen_ok]
  all_goals go_wp2_with fail
  all_goals
    have h0 : RInv s lay w w.heap.size x at_ m 0 (w.alloc (Obj.cells (Array.replicate m (byteV 0)) 5)) := ⟨hst0.alloc _, by
      show (w.heap.push _)[w.heap.size]? = _
      rw [Array.getElem?_push_size]
      simp [Fs.bytes], Nat.zero_le _⟩
    have hsz := h0.step.size
    have hwr : w.heap.size ≤ w.heap.size := Nat.le_refl _
    generalize w.alloc (Obj.cells (Array.replicate m (byteV 0)) 5) = w0 at h0 hsz ⊢
    generalize hrr : w.heap.size = r at h0 ⊢
    clear hrun
    go_loopw [13] (fun v W => ∃ (done : Nat), v = .int .i64 done ∧ RInv s lay w r x at_ m done W) (fun v _ => m - (intOf v).toNat)
    case atStart => exact ⟨0, rfl, h0⟩
    case round =>
      obtain ⟨done, rfl, hI⟩ := hrel
      by_cases hlt : done < m
      · have hlt2 : (done : Int) < m := by omega
        obtain ⟨pn, hpn⟩ : ∃ pn : Nat, pn = (at_ + done) / 64 := ⟨_, rfl⟩
        obtain ⟨on, hon⟩ : ∃ on : Nat, on = (at_ + done) % 64 := ⟨_, rfl⟩
        have hq1 := Lib.hid (show ((at_ : Int) + done) / 64 = pn by omega)
        have hq2 := Lib.hid (show ((at_ : Int) + done) % 64 = on by omega)
        have hon64 : on < 64 := by omega
        have hdone : (done : Int) ≤ 4096 := by omega
        obtain ⟨k, hkm⟩ : ∃ k : Nat, k = min (m - done) (64 - on) := ⟨_, rfl⟩
        have hpn' := Lib.hid hpn
        have hon' := Lib.hid hon
        have hm1 : (done : Int) + k ≤ m := by omega
        have hm2 : on + k ≤ 64 := by omega
        have hm3 : 0 < k := by omega
        have hkm' := Lib.hid hkm
        have c3 := hI.step.is.n4 hk
        have t1 := hI.step.is.t1
        unfold ptrTo at t1
        clear hpn hon hkm
        cases hp : x.part pn
        rotate_left
        · rename_i b
          have hl : (Instr.lookup 189 (.map (some (lay (.P (slotOf i))))) (.int .i64 (((at_ : Int) + done) / 64)) true).run Tryz.prog wr = .ok (.tuple #[.int .i64 b, .bool true]) wr := by
            rw [hq1.out, part_look hI.step.is hk pn, hp]; rfl
          obtain ⟨l, hbl⟩ := Option.isSome_iff_exists.1 (ht pn b hp)
          have h64 : l.length = 64 := hI.step.is.ok.bytes _ (List.mem_of_getElem? (Fs.bk_slot hbl).2.2)
          have hkl : ((l.drop on).take k).length = k := by rw [List.length_take, List.length_drop]; omega
          have hcopy := fun (ty : TypeId) => run_copy_str (P := Tryz.prog) (w := wr) (dT := 76) (sT := 9) (ty := ty) 5 Tryz.underlying76 (by kernel_rfl) r done (m - done) (m - done) ((l.drop on).take k) _ _ hI.row (by rw [hkl]; omega) (by simp [Fs.bytes_len]; omega)
          have hmore := hI.more hst0.is (Nat.le_of_eq hrr) hp hbl h64 hpn'.out hon'.out hm2 (by omega)
          generalize wr.setRow r ((((s.bytes x at_ done).map byteV ++ List.replicate (m - done) (byteV 0)).take done) ++ (((l.drop on).take k).map byteV ++ ((s.bytes x at_ done).map byteV ++ List.replicate (m - done) (byteV 0)).drop (done + ((l.drop on).take k).length))).toArray = w2 at hcopy hmore
          go_wp2_with fail
          all_goals rw [hq2.out]
          all_goals first
            | rw [show (64 - (on : Int)) = (k : Int) by have := hkm'.out; have := hq2.out; omega]
            | rw [show (m : Int) - done = (k : Int) by have := hkm'.out; have := hq2.out; omega]
          all_goals refine (bread_any b l on k wr hI.step.is hbl hon64 hm2).mono ?_
          all_goals rintro e w1 ⟨rfl, rfl⟩
          all_goals go_wp2_with fail
          all_goals refine ⟨⟨done + k, by rw [Int.natCast_add], hmore⟩, ?_⟩
          all_goals simp [intOf]
          all_goals omega
        · have hl : (Instr.lookup 189 (.map (some (lay (.P (slotOf i))))) (.int .i64 (((at_ : Int) + done) / 64)) true).run Tryz.prog wr = .ok (.tuple #[.int .i64 0, .bool false]) wr := by
            rw [hq1.out, part_look hI.step.is hk pn, hp]; rfl
          go_wp2_with fail
          rw [show ((done : Int) + if 64 - ((at_ : Int) + done) % 64 < (m : Int) - done then 64 - ((at_ : Int) + done) % 64 else (m : Int) - done) = ((done + k : Nat) : Int) by have := hkm'.out; rw [hq2.out]; split <;> omega]
          refine ⟨⟨done + k, rfl, hI.less hp hpn'.out (by rw [← hon'.out]; exact hm2) (by omega)⟩, ?_⟩
          simp [intOf]; omega
      · obtain rfl : done = m := by have := hI.le; omega
        have hlb : (s.bytes x at_ done).length = done := Fs.bytes_len ..
        have hconv := run_str_of (P := Tryz.prog) (w := wr) (src := 76) (dst := 9) Tryz.underlying76 Tryz.underlying9 Tryz.underlying5 r 0 done (s.bytes x at_ done) hI.cell
        rw [hlb] at hconv
        go_wp2_with fail
        go_ret2
        exact ⟨rfl, hI.step⟩
end Go.Proofs.YtggdedihfhibfaaGreatDoor
