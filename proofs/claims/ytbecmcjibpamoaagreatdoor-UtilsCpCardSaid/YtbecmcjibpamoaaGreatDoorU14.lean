/- Texts of one proof, packed: UtW, UtM -/
import Derived.Test.YtbecmcjibpamoaaGreatDoorE05
import Derived.Test.YtbecmcjibpamoaaGreatDoorBase
import Derived.Test.YtbecmcjibpamoaaGreatDoorU13
set_option linter.unusedVariables false
set_option linter.unusedSimpArgs false
set_option linter.deprecated false
set_option linter.unnecessarySimpa false
/- conchlaw20's awake, by the executor. -/
namespace Go.Proofs.YtbecmcjibpamoaaGreatDoor
open Go.RowKit
set_option linter.unusedVariables false
set_option linter.unusedSimpArgs false

theorem u_count : Zz.IsExtern Tryz.prog 179 Extern.BytealgCount.count :=
  ⟨_, Tryz.func179, by kernel_rfl, by kernel_rfl, by kernel_rfl, by kernel_rfl⟩
theorem u_index : Zz.IsExtern Tryz.prog 221 Extern.BytealgIndexByte.indexByte :=
  ⟨_, Tryz.func221, by kernel_rfl, by kernel_rfl, by kernel_rfl, by kernel_rfl⟩
theorem u_mixed : Tryz.prog.follows .mixedOrders = true := by kernel_rfl
def uRho : Nat → Value := fun _ => .string ⟨#[]⟩
theorem u_opq : Zz.Opq uRho := fun k => ⟨(fun _ h => by cases h), (fun _ h => by cases h)⟩
theorem u_hk (W : World) (base : Nat) : ∀ p ∈ ([(179, Zz.hCount), (221, Zz.hIndexByte)] : List (FuncId × (List Zz.AV → Zz.M Zz.AV))), (∀ args, Zz.Fr (p.2 args)) ∧ Zz.HookFn Tryz.prog uRho W base p.1 p.2 := by
  intro p hp
  rcases List.mem_cons.1 hp with rfl | hp
  · exact Zz.hCount_ok u_count
  · rcases List.mem_cons.1 hp with rfl | hp
    · exact Zz.hIndexByte_ok u_index
    · cases hp
theorem awake_any (W : World) : Calls Tryz.prog 5 #[] W fun e w' => e = .returned (.bool true) ∧ Below W.heap.size W w' :=
  Zz.exec_top (l := [(179, Zz.hCount), (221, Zz.hIndexByte)]) u_mixed u_opq W (u_hk W W.heap.size) 400 (args := []) (us := #[]) .nil (by kernel_rfl)
end Go.Proofs.YtbecmcjibpamoaaGreatDoor
/- conchlaw20.UtilsCp: the walk. (printed by wip/tools/gen_cp.py) -/
namespace Go.Proofs.YtbecmcjibpamoaaGreatDoor
open Go.RowKit IntWalk
set_option linter.unusedVariables false
set_option linter.unusedSimpArgs false

/-- one byte's slice as a text -/
theorem conv_one (w : World) (g : Nat) (c : UInt8) (z : Int) (hz : z = (c.toNat : Int)) (h : w.cell? ⟨g, 0, none⟩ = some (.int .u8 z)) :
    (convert 23 9 (.slice (some ⟨g, 0, none⟩) 1 1)).run Tryz.prog w = .ok (.string ⟨#[c]⟩) w := by
  subst hz
  refine run_convert_bytes_back w 23 9 5 ⟨g, 0, none⟩ 1 [c] (by kernel_rfl) (by kernel_rfl) (by kernel_rfl) ?_
  intro j hj
  obtain rfl : j = 0 := by simpa using hj
  exact h
theorem EnvG.next {W W' : World} (h : EnvG W) (hb : Below W.heap.size W W') : EnvG W' := by
  obtain ⟨m, hm⟩ := h.maxlen
  exact ⟨m, (hb.cell (World.block_lt_of_cell? _ _ hm)).trans hm⟩
theorem LS.alloc2 {W0 : World} {F : Nat} {s : Fs} {H : List (Nat × Obj)} {w : World} (h : LS W0 F s H w) (o1 o2 : Obj) : LS W0 F s ((w.heap.size + 1, o2) :: (w.heap.size, o1) :: H) ((w.alloc o1).alloc o2) := by
  have := (h.alloc o1).alloc o2
  rw [show (w.alloc o1).heap.size = w.heap.size + 1 by simp] at this
  exact this
def twoO (p q : Int) : Obj := .cells #[.int .u8 p, .int .u8 q] 22 (0, 0)
def doneO (out : List UInt8) : Obj := .cells #[.string ⟨out.toArray⟩, .string ⟨#[]⟩, .int .i64 0] 32 (0, 0)
def oneO (z : Int) : Obj := .cells #[.int .u8 z] 5 (0, 0)
theorem done_cells {w : World} {b : Nat} {out : List UInt8} (h : w.heap[b]? = some (doneO out)) : w.cell? ⟨b, 0, none⟩ = some (.string ⟨out.toArray⟩) ∧ w.cell? ⟨b, 1, none⟩ = some (.string ⟨#[]⟩) ∧ w.cell? ⟨b, 2, none⟩ = some (.int .i64 0) := by
  unfold doneO at h
  exact ⟨cell_of_row w _ 0 _ _ _ h, cell_of_row w _ 1 _ _ _ h, cell_of_row w _ 2 _ _ _ h⟩
theorem byte_of (p : Int) (hp : 0 ≤ p ∧ p ≤ 255) : ∃ c : UInt8, 97 + p % 4 = (c.toNat : Int) ∧ (c = 97 ∨ c = 98 ∨ c = 99 ∨ c = 100) := by
  have h : p % 4 = 0 ∨ p % 4 = 1 ∨ p % 4 = 2 ∨ p % 4 = 3 := by omega
  rcases h with h | h | h | h
  · exact ⟨97, by rw [h]; rfl, .inl rfl⟩
  · exact ⟨98, by rw [h]; rfl, .inr (.inl rfl)⟩
  · exact ⟨99, by rw [h]; rfl, .inr (.inr (.inl rfl))⟩
  · exact ⟨100, by rw [h]; rfl, .inr (.inr (.inr rfl))⟩
theorem byte_in {c : UInt8} (h : c = 97 ∨ c = 98 ∨ c = 99 ∨ c = 100) (h2 : c ≠ 100) : [c] ∈ [nA, nB, nC] := by
  rcases h with rfl | rfl | rfl | rfl
  · simp [nA]
  · simp [nB]
  · simp [nC]
  · exact absurd rfl h2
theorem un_in {l : List UInt8} (h : l ∈ [nA, nB, nC]) : UN l := by
  simp only [List.mem_cons, List.not_mem_nil, or_false] at h
  rcases h with rfl | rfl | rfl
  · exact un_a
  · exact un_b
  · exact un_c
theorem len_in {l : List UInt8} (h : l ∈ [nA, nB, nC]) : l.length ≠ 2 ∧ l ≠ [45] := by
  simp only [List.mem_cons, List.not_mem_nil, or_false] at h
  rcases h with rfl | rfl | rfl <;> exact ⟨by decide, by decide⟩
set_option maxRecDepth 100000 in
set_option maxHeartbeats 8000000 in
theorem cp_law (data : List UInt8) (hd : data.length ≤ maxLen) (p q : Int) (hp : 0 ≤ p ∧ p ≤ 255) (hq : 0 ≤ q ∧ q ≤ 255) (W : World) (hE : EnvG W) :
    Calls Tryz.prog 3 #[.string ⟨data.toArray⟩, .agg #[.int .u8 p, .int .u8 q]] W fun e w' => e = .returned (.bool true) ∧ Below W.heap.size W w' := by
  obtain ⟨a, hpa, ha⟩ := byte_of p hp
  obtain ⟨b, hqb, hb⟩ := byte_of q hq
  have hdl : data.length ≤ 9223372036854775807 := by simpa [maxLen] using hd
  obtain ⟨W3, hW3⟩ : ∃ W3, ((W.alloc (.cells #[.int .u8 p, .int .u8 q] 22)).alloc (.cells #[.int .u8 (97 + p % 4)] 5)).alloc (.cells #[.int .u8 (97 + q % 4)] 5) = W3 := ⟨_, rfl⟩
  have c1 := conv_one ((W.alloc (.cells #[.int .u8 p, .int .u8 q] 22)).alloc (.cells #[.int .u8 (97 + p % 4)] 5)) (W.heap.size + 1) a (97 + p % 4) hpa (by
    have := alloc_at (W.alloc (.cells #[.int .u8 p, .int .u8 q] 22)) (.cells #[.int .u8 (97 + p % 4)] 5)
    have h2 : ((W.alloc (.cells #[.int .u8 p, .int .u8 q] 22)).alloc (.cells #[.int .u8 (97 + p % 4)] 5)).heap[W.heap.size + 1]? = some (.cells #[.int .u8 (97 + p % 4)] 5) := by simpa using this
    exact cell_of_row _ _ 0 _ _ _ h2)
  have c2 := conv_one W3 (W.heap.size + 2) b (97 + q % 4) hqb (by
    rw [← hW3]
    have := alloc_at ((W.alloc (.cells #[.int .u8 p, .int .u8 q] 22)).alloc (.cells #[.int .u8 (97 + p % 4)] 5)) (.cells #[.int .u8 (97 + q % 4)] 5)
    have h2 : (((W.alloc (.cells #[.int .u8 p, .int .u8 q] 22)).alloc (.cells #[.int .u8 (97 + p % 4)] 5)).alloc (.cells #[.int .u8 (97 + q % 4)] 5)).heap[W.heap.size + 2]? = some (.cells #[.int .u8 (97 + q % 4)] 5) := by simpa using this
    exact cell_of_row _ _ 0 _ _ _ h2)
  have hBW : Below W.heap.size W W3 := by
    rw [← hW3]
    exact (((Below.refl _ W).alloc (Nat.le_refl _) _).alloc (by simp) _).alloc (by simp; omega) _
  rw [← hW3] at c2
  have HBW := Lib.hid hBW
  have HAw := Lib.hid (fun V : World => awake_any V)
  have HW3 := Lib.hid hW3
  clear hW3 hBW hpa hqb
  by_cases h1 : 2000 < data.length
  · have h1i : (2000 : Int) < (data.length : Int) := by omega
    go_enter Tryz.func3, Tryz.ntmps3
    go_wp2_with (go_at_call 5; (refine (HAw.out _).mono ?_); rintro e w9 ⟨rfl, hb9⟩; rw [HW3.out] at hb9; have HBX := Lib.hid (HBW.out.trans (hb9.mono HBW.out.size)); clear hb9)
    go_ret
    exact ⟨rfl, HBX.out⟩
  · by_cases h2 : a = b
    · subst h2
      go_enter Tryz.func3, Tryz.ntmps3
      go_wp2_with (go_at_call 5; (refine (HAw.out _).mono ?_); rintro e w9 ⟨rfl, hb9⟩; rw [HW3.out] at hb9; have HBX := Lib.hid (HBW.out.trans (hb9.mono HBW.out.size)); clear hb9)
      go_ret
      exact ⟨rfl, HBX.out⟩
    · have h2b : (a == b) = false := by simpa using h2
      by_cases h3 : a = 100
      · subst h3
        go_enter Tryz.func3, Tryz.ntmps3
        go_wp2_with (go_at_call 5; (refine (HAw.out _).mono ?_); rintro e w9 ⟨rfl, hb9⟩; rw [HW3.out] at hb9; have HBX := Lib.hid (HBW.out.trans (hb9.mono HBW.out.size)); clear hb9)
        go_ret
        exact ⟨rfl, HBX.out⟩
      · have h3b : (a == 100) = false := by simpa using h3
        by_cases h4 : b = 100
        · subst h4
          go_enter Tryz.func3, Tryz.ntmps3
          go_wp2_with (go_at_call 5; (refine (HAw.out _).mono ?_); rintro e w9 ⟨rfl, hb9⟩; rw [HW3.out] at hb9; have HBX := Lib.hid (HBW.out.trans (hb9.mono HBW.out.size)); clear hb9)
          go_ret
          exact ⟨rfl, HBX.out⟩
        · have h4b : (b == 100) = false := by simpa using h4
          have hma := byte_in ha h3
          have hmb := byte_in hb h4
          obtain ⟨d, s1, s3, d1, d3, hC⟩ := cp_plan [a] [b] data hma hmb (by simpa using h2) (by omega)
          have hua := un_in hma
          have hub := un_in hmb
          have HC := Lib.hid hC
          have HUA := Lib.hid hua
          have HUB := Lib.hid hub
          have hal := len_in hma
          have hbl := len_in hmb
          have HAL := Lib.hid hal
          have HBL := Lib.hid hbl
          have HE3 := Lib.hid (show EnvG W3 from hE.next HBW.out)
          have hdn : data.length ≤ 2000 := by omega
          have HPK := Lib.hid (show fileE ((beginS.newS 7 d [a]).fld Nd.kind 8) = 0 from by unfold Fs.fld; rw [HC.out.nd]; rfl)
          have HPT := Lib.hid (show (freshNd 1).taken (beginS.newS 7 d [a]) from by intro p b hb; cases hb)
          have HNB := Lib.hid (show [b] ≠ nNew from by intro q; have := congrArg List.length q; simp [nNew] at this)
          clear hC hua hub hal hbl hma hmb ha hb hE
          go_enter Tryz.func3, Tryz.ntmps3
          go_wp2_with first
            | (go_at_call 6; rw [HW3.out]; (refine (begun_t W3 HE3.out).mono ?_); rintro e w4 ⟨F, rfl, lay, hF, hfs, hG⟩; have HS4 := Lib.hid (show LS W3 F beginS [] w4 from ⟨lay, hF, hfs, fun p hp => by cases hp⟩); clear hfs hG hF)
            | (go_at_call 5; (refine (HAw.out w12).mono ?_); rintro e w13 ⟨rfl, hb13⟩; have hbz := HBW.out.trans (HS12.out.base.mono HBW.out.size); have HBX := Lib.hid (hbz.trans (hb13.mono hbz.size)); clear hb13 hbz)
            | (go_at_call 7; (refine (make_ls HE3.out HS4.out (t := [a]) (by simp) HC.out.made HC.out.g0).mono ?_); rintro e w5 ⟨rfl, hs5⟩; have HS5 := Lib.hid hs5; clear hs5)
            | (go_at_call 8; (refine (put_ls HS5.out (i := 8) HC.out.nd HPK.out HPT.out ⟨by decide, by decide⟩ (by omega) HC.out.wr HC.out.g1).mono ?_); rintro e w6 ⟨⟨v6, rfl⟩, hs6⟩; have HS6 := Lib.hid hs6; clear hs6)
            | (go_at_call 10; (refine (walk_ls HE3.out (HS11.out.alloc (doneO data)) (t := [b]) HWG.out HG4.out).mono ?_); rintro e w12 ⟨rfl, hs12⟩; have HS12 := Lib.hid hs12; obtain ⟨x70, x71, x72⟩ := done_cells (hs12.get (b := w7.heap.size) (o := doneO []) (.tail _ (.tail _ (.tail _ (.tail _ (.tail _ (.tail _ (.tail _ (.tail _ (.head _)))))))))); obtain ⟨x80, x81, x82⟩ := done_cells (hs12.get (b := w8.heap.size) (o := doneO data) (.tail _ (.tail _ (.tail _ (.tail _ (.tail _ (.tail _ (.head _)))))))); obtain ⟨x90, x91, x92⟩ := done_cells (hs12.get (b := w9.heap.size) (o := doneO data) (.tail _ (.tail _ (.tail _ (.tail _ (.head _)))))); obtain ⟨x100, x101, x102⟩ := done_cells (hs12.get (b := w10.heap.size) (o := doneO []) (.tail _ (.tail _ (.head _)))); obtain ⟨x110, x111, x112⟩ := done_cells (hs12.get (b := w11.heap.size) (o := doneO data) (.head _)); clear hs12)
            | (go_at_call 9; (refine (cat_ls HE3.out (HS10.out.alloc2 (doneO []) (argsO [catN, nNew])) List.mem_cons_self HG4.out HF4.out un_new (by decide) (by decide) (by omega)).mono ?_); rintro e w11 ⟨rfl, hs11⟩; have HS11 := Lib.hid hs11; clear hs11)
            | (go_at_call 9; (refine (mv_ls HE3.out (HS9.out.alloc2 (doneO data) (argsO [mvN, [b], nNew])) List.mem_cons_self HC.out.g3 HC.out.fb HUB.out HBL.out.1 un_new HC.out.nw).mono ?_); rintro e w10 ⟨rfl, hs10⟩; have HS10 := Lib.hid hs10; clear hs10)
            | (go_at_call 9; (refine (cat_ls HE3.out (HS8.out.alloc2 (doneO data) (argsO [catN, [b]])) List.mem_cons_self HC.out.g3 HC.out.fb HUB.out HBL.out.2 HBL.out.1 (by omega)).mono ?_); rintro e w9 ⟨rfl, hs9⟩; have HS9 := Lib.hid hs9; clear hs9)
            | (go_at_call 9; (refine (cat_ls HE3.out (HS7.out.alloc2 (doneO []) (argsO [catN, [a]])) List.mem_cons_self HC.out.g3 HC.out.fa HUA.out HAL.out.2 HAL.out.1 (by omega)).mono ?_); rintro e w8 ⟨rfl, hs8⟩; have HS8 := Lib.hid hs8; clear hs8)
            | (go_at_call 9; (refine (cp_ls HE3.out (HS6.out.alloc (argsO [cpN, [a], [b]])) List.mem_cons_self HC.out.g1 HC.out.f1 HUA.out HAL.out.2 HAL.out.1 HUB.out HC.out.n1 (by omega) HC.out.sv HC.out.g3).mono ?_); rintro e w7 ⟨rfl, hs7⟩; have hnok : NamesOk d3.names := (by obtain ⟨lay, _, h2, _⟩ := hs7; exact names_of h2.is HC.out.fb.root.dr); obtain ⟨hg4, d4, hf4, hn4⟩ := ren_file (u := nNew) HC.out.g3 HC.out.fb hnok HNB.out; have HG4 := Lib.hid hg4; have HF4 := Lib.hid hf4; have HWG := Lib.hid (walk_gone hf4.root HUB.out hn4 true); have HS7 := Lib.hid hs7; clear hs7 hnok hg4 hf4 hn4)
          go_ret
          exact ⟨rfl, HBX.out⟩
end Go.Proofs.YtbecmcjibpamoaaGreatDoor
