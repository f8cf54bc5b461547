/- FsM -/
import Derived.Test.YtbecmcjibpamoaaGreatDoorQ13
set_option linter.unusedVariables false
set_option linter.unusedSimpArgs false
set_option linter.deprecated false
set_option linter.unnecessarySimpa false
namespace Go.Proofs.YtbecmcjibpamoaaGreatDoor
open Go.RowKit IntWalk
set_option maxHeartbeats 2000000 in
set_option maxRecDepth 100000 in
theorem read_some {s lay} (i : Int) (x : Nd) (at_ n : Nat) (w : World) (h : FsIs s lay w) (hn : s.nd i = some x) (ht : x.taken s) (hs : 0 ≤ x.size ∧ x.size ≤ 4096) (hat : (at_ : Int) < x.size) (hn64 : (n : Int) ≤ 9223372036854775807) :
    Calls Tryz.prog 102 #[ptrTo (lay .T), .int .i64 i, .int .i64 at_, .int .i64 n] w fun e w' =>
      e = .returned (.tuple #[.string ⟨(s.bytes x at_ (min n (x.size.toNat - at_))).toArray⟩, .int .i64 0]) ∧ Step s lay w s lay w' := by
  obtain ⟨hi1, hi2, hk⟩ := Fs.nd_slot hn
  have hst0 := Step.refl h
  have c2 := h.n3 hk
  obtain ⟨m, hm⟩ : ∃ m : Nat, m = min n (x.size.toNat - at_) := ⟨_, rfl⟩
  rw [← hm]
  have hm4 : m ≤ 4096 := by omega
  have hrun := run_make_bytes (P := Tryz.prog) (t := 23) Tryz.underlying23 (by kernel_rfl) w m (by omega)
  go_enter Tryz.func102, Tryz.ntmps102
  unfold ptrTo
  go_wp2_with (go_at_call 37; refine (find_some i x w h hn).mono ?_; rintro e w' ⟨rfl, rfl⟩; unfold ptrTo)
  all_goals first
    | rw [show x.size - (at_ : Int) = (m : Int) by omega]
    | rw [show (n : Int) = (m : Int) by omega]
  all_goals (have hm' := Lib.hid hm; clear hm)
  all_goals rw [hrun]
  all_goals simp only [Result.andThen_ok]
  all_goals go_wp2_with fail
  all_goals
    have h0 : RInv s lay w w.heap.size x at_ m 0 (w.alloc (Obj.cells (Array.replicate m (byteV 0)) 5)) := ⟨hst0.alloc _, by
      show (w.heap.push _)[w.heap.size]? = _
      rw [Array.getElem?_push_size]
      simp [Fs.bytes], Nat.zero_le _⟩
    have hsz := h0.step.size
    have hwr : w.heap.size ≤ w.heap.size := Nat.le_refl _
    generalize w.alloc (Obj.cells (Array.replicate m (byteV 0)) 5) = w0 at h0 hsz ⊢
    generalize hrr : w.heap.size = r at h0 ⊢
    clear hrun
    go_loopw [13] (fun v W => ∃ (done : Nat), v = .int .i64 done ∧ RInv s lay w r x at_ m done W) (fun v _ => m - (intOf v).toNat)
    case atStart => exact ⟨0, rfl, h0⟩
    case round =>
      obtain ⟨done, rfl, hI⟩ := hrel
      by_cases hlt : done < m
      · have hlt2 : (done : Int) < m := by omega
        obtain ⟨pn, hpn⟩ : ∃ pn : Nat, pn = (at_ + done) / 64 := ⟨_, rfl⟩
        obtain ⟨on, hon⟩ : ∃ on : Nat, on = (at_ + done) % 64 := ⟨_, rfl⟩
        have hq1 := Lib.hid (show ((at_ : Int) + done) / 64 = pn by omega)
        have hq2 := Lib.hid (show ((at_ : Int) + done) % 64 = on by omega)
        have hon64 : on < 64 := by omega
        have hdone : (done : Int) ≤ 4096 := by omega
        obtain ⟨k, hkm⟩ : ∃ k : Nat, k = min (m - done) (64 - on) := ⟨_, rfl⟩
        have hpn' := Lib.hid hpn
        have hon' := Lib.hid hon
        have hm1 : (done : Int) + k ≤ m := by omega
        have hm2 : on + k ≤ 64 := by omega
        have hm3 : 0 < k := by omega
        have hkm' := Lib.hid hkm
        have c3 := hI.step.is.n4 hk
        have t1 := hI.step.is.t1
        unfold ptrTo at t1
        clear hpn hon hkm
        cases hp : x.part pn
        rotate_left
        · rename_i b
          have hl : (Instr.lookup 94 (.map (some (lay (.P (slotOf i))))) (.int .i64 (((at_ : Int) + done) / 64)) true).run Tryz.prog wr = .ok (.tuple #[.int .i64 b, .bool true]) wr := by
            rw [hq1.out, part_look hI.step.is hk pn, hp]; rfl
          obtain ⟨l, hbl⟩ := Option.isSome_iff_exists.1 (ht pn b hp)
          have h64 : l.length = 64 := hI.step.is.ok.bytes _ (List.mem_of_getElem? (Fs.bk_slot hbl).2.2)
          have hkl : ((l.drop on).take k).length = k := by rw [List.length_take, List.length_drop]; omega
          have hcopy := fun (ty : TypeId) => run_copy_str (P := Tryz.prog) (w := wr) (dT := 23) (sT := 9) (ty := ty) 5 Tryz.underlying23 (by kernel_rfl) r done (m - done) (m - done) ((l.drop on).take k) _ _ hI.row (by rw [hkl]; omega) (by simp [Fs.bytes_len]; omega)
          have hmore := hI.more hst0.is (Nat.le_of_eq hrr) hp hbl h64 hpn'.out hon'.out hm2 (by omega)
          generalize wr.setRow r ((((s.bytes x at_ done).map byteV ++ List.replicate (m - done) (byteV 0)).take done) ++ (((l.drop on).take k).map byteV ++ ((s.bytes x at_ done).map byteV ++ List.replicate (m - done) (byteV 0)).drop (done + ((l.drop on).take k).length))).toArray = w2 at hcopy hmore
          go_wp2_with fail
          all_goals rw [hq2.out]
          all_goals first
            | rw [show (64 - (on : Int)) = (k : Int) by have := hkm'.out; have := hq2.out; omega]
            | rw [show (m : Int) - done = (k : Int) by have := hkm'.out; have := hq2.out; omega]
          all_goals refine (bread_any b l on k wr hI.step.is hbl hon64 hm2).mono ?_
          all_goals rintro e w1 ⟨rfl, rfl⟩
          all_goals go_wp2_with fail
          all_goals refine ⟨⟨done + k, by rw [Int.natCast_add], hmore⟩, ?_⟩
          all_goals simp [intOf]
          all_goals omega
        · have hl : (Instr.lookup 94 (.map (some (lay (.P (slotOf i))))) (.int .i64 (((at_ : Int) + done) / 64)) true).run Tryz.prog wr = .ok (.tuple #[.int .i64 0, .bool false]) wr := by
            rw [hq1.out, part_look hI.step.is hk pn, hp]; rfl
          go_wp2_with fail
          rw [show ((done : Int) + if 64 - ((at_ : Int) + done) % 64 < (m : Int) - done then 64 - ((at_ : Int) + done) % 64 else (m : Int) - done) = ((done + k : Nat) : Int) by have := hkm'.out; rw [hq2.out]; split <;> omega]
          refine ⟨⟨done + k, rfl, hI.less hp hpn'.out (by rw [← hon'.out]; exact hm2) (by omega)⟩, ?_⟩
          simp [intOf]; omega
      · obtain rfl : done = m := by have := hI.le; omega
        have hlb : (s.bytes x at_ done).length = done := Fs.bytes_len ..
        have hconv := run_str_of (P := Tryz.prog) (w := wr) (src := 23) (dst := 9) Tryz.underlying23 Tryz.underlying9 Tryz.underlying5 r 0 done (s.bytes x at_ done) hI.cell
        rw [hlb] at hconv
        go_wp2_with fail
        go_ret2
        exact ⟨rfl, hI.step⟩
end Go.Proofs.YtbecmcjibpamoaaGreatDoor
