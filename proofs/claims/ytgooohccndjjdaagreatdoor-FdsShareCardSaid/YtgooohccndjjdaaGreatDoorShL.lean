/- conchlaw16.FdsShare: it returns true at every text and every row of numbers, in every world that holds them, and changes nothing that was there. No other condition. -/
import Derived.Test.YtgooohccndjjdaaGreatDoorShW
import Derived.Test.YtgooohccndjjdaaGreatDoorOpen
namespace Go.Proofs.YtgooohccndjjdaaGreatDoor
open Go.RowKit Go.WideShapes IntWalk
set_option linter.unusedVariables false
set_option linter.unusedSimpArgs false

/-- a list of n numbers of the caller's -/
def Nums (W : World) (v : Value) (n : Nat) (zs : Nat → Int) : Prop :=
  ∃ p c, v = .slice p n c ∧ ∃ b off, (0 < n → p = some ⟨b, off, none⟩ ∧ b < W.heap.size) ∧ ∀ j, j < n → W.cell? ⟨b, off + j, none⟩ = some (.int .i64 (zs j)) ∧ -9223372036854775808 ≤ zs j ∧ zs j ≤ 9223372036854775807
theorem open_nums {H : Type} {enc : TypeId × Value → H} {P : Program} {W : World} {base : Nat} {t e : TypeId} {v : Value} {d : DataW H} {ps : List MemPlace} {r : Reach}
    (ht : P.underlying t = some (.slice e)) (he : P.underlying e = some (.int .i64)) (hc : P.cellsOf e = 1)
    (hval : Value.okWide P W r base t v) (h : DataW.Trod enc P W 0 (fun _ => true) true t v d ps) : ∃ n zs, Nums W v n zs := by
  obtain ⟨a0, len, cap, rfl⟩ := okWide_slice ht hval
  obtain ⟨fuel, hf⟩ := h
  rcases Go.Deep.open_slice ht hf with ⟨hcs, _⟩ | ⟨a, l, c, m, k, D, Pl, hcs, _, hl, hm, hmm, _, hx⟩
  · simp [Value.cells] at hcs
    obtain ⟨rfl, rfl, rfl⟩ := hcs
    exact ⟨0, fun _ => 0, none, 0, rfl, 0, 0, fun h => absurd h (by omega), fun j hj => absurd hj (by omega)⟩
  · simp [Value.cells] at hcs
    obtain ⟨rfl, rfl, rfl⟩ := hcs
    simp only [if_true] at hmm
    have each : ∀ i, i < len → ∃ o : Int, W.cell? (a.add i) = some (.int .i64 o) ∧ -9223372036854775808 ≤ o ∧ o ≤ 9223372036854775807 := by
      intro i hi
      obtain ⟨cs, h1, h2⟩ := hx i (by omega)
      rw [hc] at h1
      obtain ⟨_, hlen, hcell⟩ := World.cells?_some h1
      match cs, hlen with
      | [c0], _ =>
        obtain ⟨z0, e0, _, w0⟩ := DataW.trod_int he h2
        simp at e0
        subst e0
        refine ⟨z0, ?_, (wf_i64 w0).1, (wf_i64 w0).2⟩
        have := hcell 0 (by omega)
        simpa [Addr.add] using this
    obtain ⟨f, hf⟩ := Go.Deep.choose_lt (α := Int) (p := fun i o => W.cell? (a.add i) = some (.int .i64 o) ∧ -9223372036854775808 ≤ o ∧ o ≤ 9223372036854775807) each
    by_cases h0 : 0 < len
    · have h1 := (hf 0 h0).1
      have ha : a = ⟨a.block, a.off, none⟩ := cell_plain (by simpa [Addr.add] using h1)
      refine ⟨len, f, some a, cap, rfl, a.block, a.off, fun _ => ⟨by rw [← ha], World.block_lt_of_cell? W a (by simpa [Addr.add] using h1)⟩, fun j hj => ?_⟩
      have h2 := hf j hj
      rw [ha, add_mk] at h2
      exact h2
    · exact ⟨len, f, some a, cap, rfl, 0, 0, fun h => absurd h h0, fun j hj => absurd hj (by omega)⟩
theorem sh_awake_run : Zz.saysTrue ((Zz.exec Tryz.prog ⟨Zz.hookOf [(107, Zz.hCount), (129, Zz.hIndexByte)], Zz.noOra⟩ 400).call 6 [] Zz.st0) = true := by kernel_rfl
theorem awake_c (W : World) : Calls Tryz.prog 6 #[] W fun e w' => e = .returned (.bool true) ∧ Below W.heap.size W w' :=
  Zz.exec_top (ρ := shRho []) follows_mixed (sh_opq []) W (sh_hk _ W _) 400 .nil sh_awake_run
theorem bytes_app (a b : List UInt8) : (⟨a.toArray⟩ : ByteArray) ++ ⟨b.toArray⟩ = ⟨(a ++ b).toArray⟩ := by
  apply ByteArray.ext
  simp [ByteArray.append, ByteArray.data_append]
/-- what holds ahead of each round: q bytes have gone from the tape into the file -/
structure LInv (W : World) (lay : FId → Nat) (p : Pl) (text : List UInt8) (q : Nat) (V : World) : Prop where
  ex : ∃ s x, Sh W s lay p (text.drop q) q V ∧ Filed s 1 x (text.take q) ∧ x.kind = 1 ∧ s.dirs = shFs.dirs ∧ s.nodes[0]? = some (some shX0)
  le : q ≤ text.length
theorem filed_nd {s : Fs} {x : Nd} {g : List UInt8} (h : Filed s 1 x g) : s.nd 2 = some x := by
  unfold Fs.nd
  rw [if_neg (by omega), show slotOf 2 = 1 from rfl, h.node]; rfl
set_option maxRecDepth 100000 in
theorem round_read {W : World} {lay : FId → Nat} {p : Pl} {text : List UInt8} {q : Nat} (Z k : Nat) (V : World) (h : LInv W lay p text q V) (hZ : Z = p.S ∨ Z = p.C) (ht : text.length ≤ 500) (hk : k ≤ 50) (kk : Int) (hkk : kk = k) :
    Calls Tryz.prog 10 #[.pointer (some ⟨Z, 0, none⟩), .int .i64 0, .int .i64 kk] V fun e V' => ∃ t : List UInt8, e = .returned (.tuple #[.string ⟨t.toArray⟩, .int .i64 0]) ∧ t = (text.drop q).take k ∧
      Calls Tryz.prog 11 #[.pointer (some ⟨Z, 0, none⟩), .int .i64 1, .string ⟨t.toArray⟩] V' fun e V'' => e = .returned (.tuple #[.int .i64 t.length, .int .i64 0]) ∧ LInv W lay p text (q + t.length) V'' := by
  subst hkk
  obtain ⟨⟨s, x, hS, hF, hx, hd, h0⟩, hle⟩ := h
  refine (sread_any Z k V hS hZ (by rw [List.length_drop]; omega) (by omega)).mono ?_
  rintro e V' ⟨rfl, hS'⟩
  refine ⟨_, rfl, rfl, ?_⟩
  have hgl : (text.take q).length = q := by rw [List.length_take]; omega
  have htl : ((text.drop q).take k).length = min k (text.length - q) := by rw [List.length_take, List.length_drop]
  obtain ⟨s', x', hw, hF', hk'⟩ := hF.write ((text.drop q).take k) (by omega)
  have hsame := writeS_same s 1 x q ((text.drop q).take k)
  rw [hgl] at hw
  rw [hw] at hsame
  refine (swrite_any Z x ((text.drop q).take k) V' hS' hZ (filed_nd hF) hx hF.takenB (by rw [hF.size, hgl]; omega) (by omega) hw).mono ?_
  rintro e V'' ⟨rfl, hS''⟩
  refine ⟨rfl, ⟨s', x', ?_, ?_, hk'.trans hx, hsame.1.trans hd, (hsame.2 0 (by omega)).trans h0⟩, by omega⟩
  · have e1 : text.drop (q + ((text.drop q).take k).length) = (text.drop q).drop k := by
      rw [List.drop_drop, htl]
      by_cases c : k ≤ text.length - q
      · rw [Nat.min_eq_left c]
      · rw [List.drop_of_length_le (by omega), List.drop_of_length_le (by omega)]
    rw [e1]; exact hS''
  · have e2 : text.take (q + ((text.drop q).take k).length) = text.take q ++ (text.drop q).take k := by
      rw [List.take_add, htl]
      congr 1
      by_cases c : k ≤ text.length - q
      · rw [Nat.min_eq_left c]
      · rw [List.take_of_length_le (by rw [List.length_drop]; omega), List.take_of_length_le (by rw [List.length_drop]; omega)]
    rw [e2]; exact hF'
theorem take_self (l : List UInt8) (k : Nat) : l.take (l.take k).length = l.take k := by
  rw [List.length_take]
  by_cases c : k ≤ l.length
  · rw [Nat.min_eq_left c]
  · rw [Nat.min_eq_right (by omega), List.take_of_length_le (Nat.le_refl _), List.take_of_length_le (by omega)]
theorem take_more {text t : List UInt8} {q k : Nat} (ht : t = (text.drop q).take k) : text.take q ++ t = text.take (q + t.length) := by
  rw [List.take_add, ht, take_self]
set_option maxRecDepth 100000 in
theorem last_walk {W : World} {lay : FId → Nat} {p : Pl} {text : List UInt8} {q : Nat} (V : World) (h : LInv W lay p text q V) (ht : text.length ≤ 500) :
    Calls Tryz.prog 12 #[.pointer (some ⟨lay .F, 0, none⟩), .int .i64 1, .string ⟨#[97]⟩, .bool true] V fun e V' => e = .returned (.tuple #[.int .i64 2, .int .i64 0]) ∧
      Calls Tryz.prog 13 #[.pointer (some ⟨lay .F, 0, none⟩), .int .i64 2, .int .i64 0, .int .i64 4096] V' fun e V'' => e = .returned (.tuple #[.string ⟨(text.take q).toArray⟩, .int .i64 0]) ∧ Below W.heap.size W V'' := by
  obtain ⟨⟨s, x, hS, hF, hx, hd, h0⟩, hle⟩ := h
  have hgl : (text.take q).length = q := by rw [List.length_take]; omega
  have hnd := filed_nd hF
  have hk1 : s.fld Nd.kind 1 = 2 := by
    unfold Fs.fld Fs.nd
    rw [if_neg (by omega), show slotOf 1 = 0 from rfl, h0]; rfl
  have hk2 : s.fld Nd.kind 2 = 1 := by
    unfold Fs.fld
    rw [hnd]; exact hx
  refine (walk_a shDr 2 V hS.is hk1 (by unfold Fs.dr; rw [hd]; rfl) rfl hk2).mono ?_
  rintro e V' ⟨rfl, hB⟩
  have hS' := hS.step (step_below hS.is hB)
  refine ⟨rfl, ?_⟩
  have hsz : x.size = q := by rw [hF.size, hgl]
  by_cases hq : q = 0
  · subst hq
    refine (nread_end 2 x 0 4096 V' hS'.is hnd hx (by omega)).mono ?_
    rintro e V'' ⟨rfl, rfl⟩
    exact ⟨rfl, hS'.below⟩
  · have hr := nread_any 2 x 0 4096 V' hS'.is hnd hx hF.takenB (by omega) (by omega) (by omega)
    have hm : min 4096 (x.size.toNat - 0) = (text.take q).length := by rw [hgl]; omega
    rw [hm, hF.bytes] at hr
    refine hr.mono ?_
    rintro e V'' ⟨rfl, hst⟩
    exact ⟨rfl, (hS'.step hst).below⟩
end Go.Proofs.YtgooohccndjjdaaGreatDoor
