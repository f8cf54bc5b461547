/- Fds: writing to a sink, closing, dupping. -/
import Derived.Test.YtgfnfomkhhpjaaaGreatDoorFdC
import Derived.Test.YtgfnfomkhhpjaaaGreatDoorOwn
import Derived.Lib.AppendStr
namespace Go.Proofs.YtgfnfomkhhpjaaaGreatDoor
open Go.RowKit

set_option maxRecDepth 100000 in
theorem close_many {S F tab O v k} (fd : Nat) (w : World) (hS : SetIs w S F tab) (hO : OpenIs w O v (k + 1)) (hSO : S ≠ O) (hf : fd < 16) (ht : tab fd = some ⟨O, 0, none⟩) (hk : 0 < k) (hk2 : k < 1000000) :
    Calls Tryz.prog 16 #[.pointer (some ⟨S, 0, none⟩), .int .i64 fd] w fun e w' => e = .returned (.int .i64 0) ∧ SetIs w' S F (updT tab fd none) ∧ OpenIs w' O v k ∧ Kept [S, O] w w' := by
  have h1 := hS.fd fd hf
  rw [ht] at h1
  have h3 := hS.free (1 + fd)
  have h6 := hO.many
  have h7 := hO.free 1
  have hf1 : (fd : Int) < 16 := by omega
  have hf0 : (0 : Int) ≤ fd := by omega
  have hk1 : ((k : Int) == 0) = false := by rw [beq_eq_false_iff_ne]; omega
  have hk3 : ((k + 1 : Nat) : Int) - 1 = (k : Int) := by omega
  have hk4 : (k : Int) + 1 - 1 = (k : Int) := by omega
  have hk5 : ¬ (k : Int) = 0 := by omega
  have hk6 : ¬ k = 0 := by omega
  have hKr := Kept.refl [S, O] w
  go_enter Tryz.func16, Tryz.ntmps16
  go_wp2
  go_ret
  exact ⟨rfl, (hS.put fd hf none).other _ _ hSO, (hO.other _ _ hSO.symm).set_many rfl, (hKr.set _ _ (by simp)).set _ _ (by simp)⟩
set_option maxRecDepth 100000 in
theorem close_last {S F p n sv tab O K} (fd : Nat) (w : World) (hS : SetIs w S F tab) (hF : FilesIs w F p (n + 1) sv) (hO : OpenIs w O (.iface 49 (.pointer (some ⟨K, 0, none⟩))) 1) (hSO : S ≠ O) (hSF : S ≠ F) (hFO : F ≠ O) (hf : fd < 16) (ht : tab fd = some ⟨O, 0, none⟩) (hn : n < 1000000) :
    Calls Tryz.prog 16 #[.pointer (some ⟨S, 0, none⟩), .int .i64 fd] w fun e w' => e = .returned (.int .i64 0) ∧ SetIs w' S F (updT tab fd none) ∧ FilesIs w' F p n sv ∧ Kept [S, O, F] w w' := by
  have h1 := hS.fd fd hf
  rw [ht] at h1
  have h2 := hS.files
  have h3 := hS.free (1 + fd)
  have h4 := hF.many
  have h5 := hF.free 1
  have h6 := hO.many
  have h7 := hO.free 1
  have h8 := hO.thing
  have hf1 : (fd : Int) < 16 := by omega
  have hf0 : (0 : Int) ≤ fd := by omega
  have hKr := Kept.refl [S, O, F] w
  have hm : ∀ W : World, (method 294 49 (.pointer (some ⟨K, 0, none⟩)) "Close").run Tryz.prog W = .ok (119, .pointer (some ⟨K, 0, none⟩)) W := fun _ => by kernel_rfl
  have hn1 : ((n + 1 : Nat) : Int) - 1 = (n : Int) := by omega
  go_enter Tryz.func16, Tryz.ntmps16
  go_wp2
  go_ret
  exact ⟨rfl, ((hS.put fd hf none).other _ _ hSO).other _ _ hSF, (hF.other _ _ hSF.symm).other _ _ hFO |>.set_many rfl, ((hKr.set _ _ (by simp)).set _ _ (by simp)).set _ _ (by simp)⟩
theorem cell_blk {w w' : World} {b i : Nat} (h : w'.heap[b]? = w.heap[b]?) : w'.cell? ⟨b, i, none⟩ = w.cell? ⟨b, i, none⟩ := World.cell?_of_block h
theorem fz_blk {w w' : World} {b i : Nat} (h : w'.heap[b]? = w.heap[b]?) : w'.frozen? ⟨b, i, none⟩ = w.frozen? ⟨b, i, none⟩ := World.frozen?_of_block h
theorem append_str {ops : Array Oper} {rest : List Oper} {o : Oper} {a : Act} {Q : Exit → Act → World → Prop} {w : World} (hgd : o.guard = none) (s x : Operand)
    (ho : o.op = .call { callee := .builtin .append, args := #[s, x], argTypes := #[50, 9] }) (base : Nat) (v : Value) (l : List UInt8) (hs : a.eval s = v) (hown : OwnB w base v l)
    (m : List UInt8) (hx : a.eval x = .string ⟨m.toArray⟩) (hlen : l.length + m.length ≤ 100000000000) (hbase : base ≤ w.heap.size)
    (h : ∀ v' w', OwnB w' base v' (l ++ m) → w.grownBy w' v.ownBlock → wpList Tryz.prog ops Q rest (a.put o.dst v') w') : wpList Tryz.prog ops Q (o :: rest) a w := by
  obtain ⟨i0, hi, hz0, hz1, hz2⟩ := info_parts info_u8
  refine Go.Lib.wpList_append_own_string w hgd s x 50 9 ho base 5 i0 (by kernel_rfl) (by kernel_rfl) hi hz0 hz1 hz2 v l.length _ hs hown ⟨m.toArray⟩ hx (by simp [ByteArray.size, maxLen]; omega) (by simp [ByteArray.size]; omega) hbase ?_
  intro v' w' h1 h2 _
  refine h v' w' ?_ h2
  have e : (l ++ m).map (fun c => Value.int .u8 c.toNat) = (l.map fun c => Value.int .u8 c.toNat) ++ Go.Lib.strCells ⟨m.toArray⟩ := by
    rw [List.map_append]; rfl
  unfold OwnB
  rw [e, List.length_append]
  simpa [ByteArray.size] using h1
set_option maxRecDepth 100000 in
theorem close_none {S F tab} (fd : Nat) (w : World) (hS : SetIs w S F tab) (hf : fd < 16) (ht : tab fd = none) :
    Calls Tryz.prog 16 #[.pointer (some ⟨S, 0, none⟩), .int .i64 fd] w fun e w' => e = .returned (.int .i64 28) ∧ w = w' := by
  have h1 := hS.fd fd hf
  rw [ht] at h1
  have hf1 : (fd : Int) < 16 := by omega
  have hf0 : (0 : Int) ≤ fd := by omega
  go_enter Tryz.func16, Tryz.ntmps16
  go_wp2
  go_ret
  exact ⟨rfl, rfl⟩
set_option maxRecDepth 100000 in
theorem swrite_any {K base v l} (s : List UInt8) (w : World) (hc : w.cell? ⟨K, 0, none⟩ = some v) (hz : w.frozen? ⟨K, 0, none⟩ = false) (hown : OwnB w base v l) (hb : base ≤ w.heap.size) (hK : K < base) (hs : s.length ≤ 100000) (hl : l.length ≤ 100000000) :
    Calls Tryz.prog 121 #[.pointer (some ⟨K, 0, none⟩), .string ⟨s.toArray⟩] w fun e w' => e = .returned (.tuple #[.int .i64 s.length, .int .i64 0]) ∧
      ∃ v', w'.cell? ⟨K, 0, none⟩ = some v' ∧ w'.frozen? ⟨K, 0, none⟩ = false ∧ OwnB w' base v' (l ++ s) ∧ w'.os = w.os ∧ w'.tape = w.tape ∧ w'.output = w.output ∧ w.heap.size ≤ w'.heap.size ∧ ∀ k, k < base → k ≠ K → w'.heap[k]? = w.heap[k]? := by
  go_enter Tryz.func121, Tryz.ntmps121
  go_wp2_with (at_builtin; refine append_str rfl _ _ rfl base v l rfl hown s rfl (by omega) hb ?_; intro v' w1 hown1 hg1; have hKw := hg1.block K (by omega) (fun e => by have := (hown.lt K e.symm).1; omega); have hc1 := (cell_blk (i := 0) hKw).trans hc; have hz1 := (fz_blk (i := 0) hKw).trans hz; obtain ⟨va, vc, hv'⟩ := hown1.len; subst hv')
  go_ret2
  refine ⟨rfl, _, cs_same hc1, by rw [fz_set]; exact hz1, ?_, ?_⟩
  · rw [← List.length_append]
    refine hown1.other (grown_at (World.grownBy.refl w1 (some K))) ?_
    cases h : (Value.slice va (l ++ s).length vc).ownBlock with
    | none => exact .inl rfl
    | some k => exact .inr (fun e => by cases e; have := (hown1.lt K h).1; omega)
  · have g := grown_at (o := 0) (s := none) (v := Value.slice va (l.length + s.length) vc) (World.grownBy.refl w1 (some K))
    refine ⟨g.os.trans hg1.os, g.tape.trans hg1.tape, g.output.trans hg1.output, Nat.le_trans hg1.size g.size, fun k hk hne => ?_⟩
    rw [heap_set hne]
    exact hg1.block k (by omega) (fun e => by have := (hown.lt k e.symm).1; omega)
/-- writing under a number that is open for a sink -/
theorem write_any {S F tab O k K base v l} (fd : Nat) (s : List UInt8) (w : World) (hS : SetIs w S F tab) (hf : fd < 16) (ht : tab fd = some ⟨O, 0, none⟩) (hO : OpenIs w O (.iface 49 (.pointer (some ⟨K, 0, none⟩))) k)
    (hc : w.cell? ⟨K, 0, none⟩ = some v) (hz : w.frozen? ⟨K, 0, none⟩ = false) (hown : OwnB w base v l) (hb : base ≤ w.heap.size) (hK : K < base) (hs : s.length ≤ 100000) (hl : l.length ≤ 100000000) :
    Calls Tryz.prog 9 #[.pointer (some ⟨S, 0, none⟩), .int .i64 fd, .string ⟨s.toArray⟩] w fun e w' => e = .returned (.tuple #[.int .i64 s.length, .int .i64 0]) ∧
      ∃ v', w'.cell? ⟨K, 0, none⟩ = some v' ∧ w'.frozen? ⟨K, 0, none⟩ = false ∧ OwnB w' base v' (l ++ s) ∧ w'.os = w.os ∧ w'.tape = w.tape ∧ w'.output = w.output ∧ w.heap.size ≤ w'.heap.size ∧ ∀ k, k < base → k ≠ K → w'.heap[k]? = w.heap[k]? := by
  have hm : ∀ W : World, (method 294 49 (.pointer (some ⟨K, 0, none⟩)) "Write").run Tryz.prog W = .ok (121, .pointer (some ⟨K, 0, none⟩)) W := fun _ => by kernel_rfl
  have h8 := hO.thing
  have HA := Lib.hid (at_some fd _ w hS hf ht)
  have HW := Lib.hid (swrite_any s w hc hz hown hb hK hs hl)
  clear hc hz hown
  go_enter Tryz.func9, Tryz.ntmps9
  go_wp2_with fail
  refine HA.out.mono ?_
  rintro e w1 ⟨rfl, rfl⟩
  go_wp2_with fail
  refine HW.out.mono ?_
  rintro e w2 ⟨rfl, hr⟩
  go_wp2_with fail
  go_ret2
  exact ⟨rfl, hr⟩
theorem number_ok (fd : Nat) (hf : fd < 16) (w : World) : Calls Tryz.prog 26 #[.int .i64 fd] w fun e w' => e = .returned (.bool true) ∧ w = w' := by
  have hf1 : (fd : Int) < 16 := by omega
  have hf0 : (0 : Int) ≤ fd := by omega
  go_enter Tryz.func26, Tryz.ntmps26
  go_wp2
  go_ret
  exact ⟨rfl, rfl⟩
theorem dup_same {S F tab O} (fd : Nat) (w : World) (hS : SetIs w S F tab) (hf : fd < 16) (ht : tab fd = some ⟨O, 0, none⟩) :
    Calls Tryz.prog 15 #[.pointer (some ⟨S, 0, none⟩), .int .i64 fd, .int .i64 fd] w fun e w' => e = .returned (.int .i64 0) ∧ w = w' := by
  have HA := Lib.hid (at_some fd _ w hS hf ht)
  have hf1 : (fd : Int) < 16 := by omega
  have hf0 : (0 : Int) ≤ fd := by omega
  go_enter Tryz.func15, Tryz.ntmps15
  go_wp2_with (first | (go_at_call 25; refine HA.out.mono ?_; rintro e w1 ⟨rfl, rfl⟩) | (go_at_call 26; refine (number_ok fd hf _).mono ?_; rintro e w1 ⟨rfl, rfl⟩))
  go_ret
  exact ⟨rfl, rfl⟩
theorem dup_new {S F tab p n sv O v k} (fd to : Nat) (w : World) (hS : SetIs w S F tab) (hF : FilesIs w F p n sv) (hO : OpenIs w O v k) (hSF : S ≠ F) (hSO : S ≠ O) (hFO : F ≠ O) (hf : fd < 16) (ht : tab fd = some ⟨O, 0, none⟩) (hto : to < 16) (hn : tab to = none) (hne : fd ≠ to) (hn2 : n < 1000000) (hk : k < 1000000) (hk0 : 0 < k) :
    Calls Tryz.prog 15 #[.pointer (some ⟨S, 0, none⟩), .int .i64 fd, .int .i64 to] w fun e w' => e = .returned (.int .i64 0) ∧
      SetIs w' S F (updT tab to (some ⟨O, 0, none⟩)) ∧ FilesIs w' F p n sv ∧ OpenIs w' O v (k + 1) ∧ Kept [S, F, O] w w' := by
  have HA := Lib.hid (at_some fd _ w hS hf ht)
  have HC := Lib.hid (close_none to w hS hto hn)
  have HS := Lib.hid (share_any to w hS hF hO hSF hSO hFO hto hn2 hk)
  rw [if_neg (by omega)] at HS
  have hf1 : (to : Int) < 16 := by omega
  have hf0 : (0 : Int) ≤ to := by omega
  have hne1 : ((fd : Int) == to) = false := by rw [beq_eq_false_iff_ne]; omega
  have hne2 : ¬ (fd : Int) = to := by omega
  go_enter Tryz.func15, Tryz.ntmps15
  go_wp2_with (first | (go_at_call 25; refine HA.out.mono ?_; rintro e w1 ⟨rfl, rfl⟩) | (go_at_call 26; refine (number_ok to hto _).mono ?_; rintro e w1 ⟨rfl, rfl⟩) | (go_at_call 16; refine HC.out.mono ?_; rintro e w1 ⟨rfl, rfl⟩) | (go_at_call 27; refine HS.out.mono ?_; rintro e w1 ⟨rfl, a1, a2, a3, a4⟩))
  go_ret
  exact ⟨rfl, a1, a2, a3, a4⟩
theorem fopen_any {F p n sv} (w : World) (hF : FilesIs w F p n sv) : Calls Tryz.prog 12 #[.pointer (some ⟨F, 0, none⟩)] w fun e w' => e = .returned (.int .i64 n) ∧ w = w' := by
  have h := hF.many
  go_enter Tryz.func12, Tryz.ntmps12
  go_wp2
  go_ret
  exact ⟨rfl, rfl⟩
theorem sunk_one {F p n G c K v l base} (w : World) (hF : FilesIs w F p n (.slice (some ⟨G, 0, none⟩) 1 c)) (hG : w.cell? ⟨G, 0, none⟩ = some (.pointer (some ⟨K, 0, none⟩))) (hK : w.cell? ⟨K, 0, none⟩ = some v) (hown : OwnB w base v l) :
    Calls Tryz.prog 13 #[.pointer (some ⟨F, 0, none⟩), .int .i64 1] w fun e w' => e = .returned (.string ⟨l.toArray⟩) ∧ w = w' := by
  have h := hF.sinks
  have hcv := hown.conv
  obtain ⟨a, cp, rfl⟩ := hown.len
  clear hown
  go_enter Tryz.func13, Tryz.ntmps13
  go_wp2
  go_ret
  exact ⟨rfl, rfl⟩
end Go.Proofs.YtgfnfomkhhpjaaaGreatDoor
