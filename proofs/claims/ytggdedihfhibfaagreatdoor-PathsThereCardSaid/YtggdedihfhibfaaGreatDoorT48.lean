/- Texts of one proof, packed: NaB, PrC, PrD, PrE, ThC -/
import Derived.Test.YtggdedihfhibfaaGreatDoorR45
import Derived.Test.YtggdedihfhibfaaGreatDoorT47
import Derived.Test.YtggdedihfhibfaaGreatDoorR22
import Derived.Test.YtggdedihfhibfaaGreatDoorShelf2
import Derived.Lib.AppendIntMem
import Derived.Lib.BufferKept
import Derived.Laws.Cover1
set_option linter.unusedVariables false
set_option linter.unusedSimpArgs false
set_option linter.deprecated false
set_option linter.unnecessarySimpa false
/- conchlaw21.small, conchref08.Texts; a field as a law's argument. -/
namespace Go.Proofs.YtggdedihfhibfaaGreatDoor
open Go.RowKit IntWalk
set_option linter.unusedVariables false
set_option linter.unusedSimpArgs false

def SmallP (x : List UInt8) (e : Ending) : Prop := ∃ b : Bool, e = .returned (.bool b) ∧ (b = true → x.length ≤ 60)
set_option maxRecDepth 100000 in
set_option maxHeartbeats 2000000 in
theorem small_any (x : List UInt8) (a0 : Option Addr) (n0 c0 : Nat) (W : World) (hx : x.length ≤ 9223372036854775807) : Calls Tryz.prog 12 #[.agg #[.string ⟨x.toArray⟩, .slice a0 n0 c0]] W fun e w' => SmallP x e ∧ Below W.heap.size W w' := by
  have hB := (Below.refl W.heap.size W).alloc (Nat.le_refl _) (.cells #[.string ⟨x.toArray⟩, .slice a0 n0 c0] 31)
  have HB := Lib.hid hB
  have hc : (W.alloc (.cells #[.string ⟨x.toArray⟩, .slice a0 n0 c0] 31)).cell? ⟨W.heap.size, 0, none⟩ = some (.string ⟨x.toArray⟩) := (cell01 (r_alloc_at _ _)).1
  obtain ⟨w1, hw1⟩ : ∃ w1, W.alloc (.cells #[.string ⟨x.toArray⟩, .slice a0 n0 c0] 31) = w1 := ⟨_, rfl⟩
  rw [hw1] at hc HB
  clear hB
  go_enter Tryz.func12, Tryz.ntmps12
  go_wp2
  clear hw1
  go_loopw [3, 4] (fun nv iv wr => ∃ n i : Nat, nv = .int .i64 n ∧ iv = .int .i64 i ∧ n ≤ i ∧ i ≤ x.length ∧ i ≤ 61 ∧ wr = w1) (fun _ iv _ => 61 - (intOf iv).toNat)
  case atStart => exact ⟨0, 0, rfl, rfl, Nat.le_refl _, Nat.zero_le _, by omega, rfl⟩
  case round =>
    obtain ⟨n, i, rfl, rfl, hn, hi, hi61, rfl⟩ := hrel
    by_cases hlt : i < x.length
    · have hl1 : (i : Int) < (x.length : Int) := by omega
      by_cases h60 : i ≤ 60
      · have h6 : (i : Int) ≤ 60 := by omega
        obtain ⟨c, _, hcc, hcs⟩ := str_at x i hlt
        cases h47 : ((c.toNat : Int) == 47)
        · go_wp2
          go_roundw
          case rel => exact ⟨n, i + 1, rfl, by go_num, by omega, by omega, by omega, by first | rfl | trivial⟩
          case measure => simp [intOf]; omega
        · go_wp2
          go_roundw
          case rel => exact ⟨n + 1, i + 1, by go_num, by go_num, by omega, by omega, by omega, by first | rfl | trivial⟩
          case measure => simp [intOf]; omega
      · have h6 : ¬ (i : Int) ≤ 60 := by omega
        have hx6 : ¬ (x.length : Int) ≤ 60 := by omega
        go_wp2
        go_ret
        exact ⟨⟨_, rfl, fun h => by cases h⟩, HB.out⟩
    · have hl1 : ¬ (i : Int) < (x.length : Int) := by omega
      by_cases hx6 : x.length ≤ 60
      · have hx6' : (x.length : Int) ≤ 60 := by omega
        go_wp2
        go_ret
        exact ⟨⟨_, rfl, fun _ => hx6⟩, HB.out⟩
      · have hx6' : ¬ (x.length : Int) ≤ 60 := by omega
        go_wp2
        go_ret
        exact ⟨⟨_, rfl, fun h => by cases h⟩, HB.out⟩
theorem row_in {W : World} {base : Nat} {v : Value} {L : List (List UInt8)} (h : W.ownsRow base 9 1 v L.length (L.map encB)) : ∃ a c, v = .slice a L.length c ∧ (0 < L.length → ∃ g, a = some ⟨g, 0, none⟩ ∧ base ≤ g ∧ g < W.heap.size ∧ ∀ (t : Nat) (y : List UInt8), L[t]? = some y → W.cell? ⟨g, t, none⟩ = some (.string ⟨y.toArray⟩)) := by
  rcases h.2 with ⟨rfl, hn⟩ | ⟨g, cap, cur, rfl, hbg, hg, _⟩
  · exact ⟨none, 0, by rw [hn], fun q => by omega⟩
  · obtain ⟨cu, hR, hb, _, _, hc⟩ := row_cur h
    exact ⟨_, cap, rfl, fun _ => ⟨g, rfl, hb, blk_lt hR.at_, fun t y ht => hR.cell (hc t y ht)⟩⟩
set_option maxRecDepth 100000 in
set_option maxHeartbeats 2000000 in
theorem texts_same (W : World) (b1 b2 : Nat) (v1 v2 : Value) (L : List (List UInt8)) (h1 : W.ownsRow b1 9 1 v1 L.length (L.map encB)) (h2 : W.ownsRow b2 9 1 v2 L.length (L.map encB)) (hl : L.length ≤ 100000) :
    Calls Tryz.prog 19 #[v1, v2] W fun e w' => e = .returned (.bool true) ∧ Below W.heap.size W w' := by
  obtain ⟨a1, c1, rfl, hs1⟩ := row_in h1
  obtain ⟨a2, c2, rfl, hs2⟩ := row_in h2
  have HS1 := Lib.hid hs1
  have HS2 := Lib.hid hs2
  clear h1 h2 hs1 hs2
  go_enter Tryz.func19, Tryz.ntmps19
  go_wp2
  go_loopw [5] (fun iv wr => ∃ k : Nat, iv = .int .i64 k ∧ k ≤ L.length ∧ Below W.heap.size W wr) (fun iv _ => L.length - (intOf iv).toNat)
  case atStart => exact ⟨0, rfl, Nat.zero_le _, Below.refl _ _⟩
  case round =>
    obtain ⟨k, rfl, hk, hb⟩ := hrel
    by_cases hlt : k < L.length
    · obtain ⟨g1, rfl, _, hg1, hc1⟩ := HS1.out (by omega)
      obtain ⟨g2, rfl, _, hg2, hc2⟩ := HS2.out (by omega)
      have hlk : L[k]? = some L[k] := List.getElem?_eq_getElem hlt
      have d1 := (hb.cell (p := ⟨g1, k, none⟩) hg1).trans (hc1 k _ hlk)
      have d2 := (hb.cell (p := ⟨g2, k, none⟩) hg2).trans (hc2 k _ hlk)
      generalize L[k] = y at d1 d2
      have hkl : (k : Int) < (L.length : Int) := by omega
      clear hlk hc1 hc2
      go_wp2
      go_quiet (fail)
      go_wp2_with fail
      go_roundw
      case rel => exact ⟨k + 1, by go_num, by omega, ⟨hb.os, hb.tape, hb.output, hb.size, hb.block⟩⟩
      case measure => simp [intOf]; omega
    · obtain rfl : k = L.length := by omega
      have hkl : ¬ (L.length : Int) < (L.length : Int) := by omega
      go_wp2
      go_ret
      exact ⟨rfl, hb⟩
/-- a field as an argument -/
def FieldArg (W : World) (v : Value) (a : List UInt8 × List Bool) : Prop := ∃ qv, v = fieldV a.1 qv ∧ BoolsC W qv a.2 ∧ a.1.length ≤ maxLen ∧ a.2.length ≤ maxLen
end Go.Proofs.YtggdedihfhibfaaGreatDoor
/- names: what a link and a file say; a name's number. -/
namespace Go.Proofs.YtggdedihfhibfaaGreatDoor
open Go.RowKit IntWalk
set_option linter.unusedVariables false
set_option linter.unusedSimpArgs false

/-- the library's table that numbers are told by -/
structure EnvT (W : World) : Prop where
  g : EnvG W
  pow10 : Lib.TabIs Tryz.prog W "internal/strconv.uint64pow10" .u64 Lib.pow10Tab
theorem gPow10 : Tryz.prog.globalNamed "internal/strconv.uint64pow10" = some 1 := by kernel_rfl
theorem tab_below {n : String} {g : Nat} {k : IntKind} {zs : List Int} {w w' : World} (hg : Tryz.prog.globalNamed n = some g) (h : Lib.TabIs Tryz.prog w n k zs) (hb : Below w.heap.size w w') : Lib.TabIs Tryz.prog w' n k zs := by
  unfold Lib.TabIs World.var? at h ⊢
  rw [hg] at h ⊢
  simp only [Option.bind_some] at h ⊢
  have hlt : g < w.heap.size := by
    rcases Nat.lt_or_ge g w.heap.size with h' | h'
    · exact h'
    · rw [Array.getElem?_eq_none h'] at h; simp at h
  rw [hb.block g hlt]; exact h
theorem EnvT.next {W W' : World} (h : EnvT W) (hb : Below W.heap.size W W') : EnvT W' := ⟨h.g.next hb, tab_below gPow10 h.pow10 hb⟩
section
variable {s : Fs} {lay : FId → Nat}
theorem name_look1 {w : World} (h : FsIs s lay w) {i : Int} {d : Dr} (hd : s.dr i = some d) (nm : List UInt8) :
    (Instr.lookup 93 (.map (some (lay (.M i)))) (.string ⟨nm.toArray⟩) false).run Tryz.prog w = .ok (.int .i64 ((d.name nm).getD 0)) w := by
  have hno := names_of h hd
  have hM := h.lies.at_ (.M i) d.names.obj (by simp [Fs.obj, hd])
  have := (GMap.look (P := Tryz.prog) (k := .str nm) Tryz.underlying93 Tryz.underlying9 hno.of hM (zero_int w)).1
  simp only [Key.val] at this
  rw [this]
  rcases hno.name nm with ⟨h1, h2⟩ | ⟨n, h1, h2⟩
  · rw [h1, show d.name nm = none from h2 d.parent]; rfl
  · rw [h1, show d.name nm = some n from h2 d.parent]; rfl
theorem readlink_any (i : Int) (w : World) (h : FsIs s lay w) (hW : s.Whole) (hk : s.fld Nd.kind i = 3) :
    Calls Tryz.prog 67 #[ptrTo (lay .F), .int .i64 i] w fun e w' => e = .returned (.tuple #[.string ⟨(s.link i).toArray⟩, .int .i64 0]) ∧ Step s lay w s lay w' := by
  have HN := Lib.hid (nkind_any i w h)
  have HR := Lib.hid (read_link i w h hW (by rw [hk]; decide))
  rw [hk] at HN
  have f0 := h.f0
  clear h hk
  unfold ptrTo at *
  go_enter Tryz.func67, Tryz.ntmps67
  go_wp2_with first
    | (go_at_call 114; refine HR.out.mono ?_; rintro e w' ⟨rfl, hs⟩; have HS := Lib.hid hs; clear hs)
    | (go_at_call 41; refine HN.out.mono ?_; rintro e w' ⟨rfl, rfl⟩)
  go_ret2
  exact ⟨rfl, HS.out⟩
theorem read_file (i : Int) (w : World) (h : FsIs s lay w) (hW : s.Whole) :
    Calls Tryz.prog 68 #[ptrTo (lay .F), .int .i64 i, .int .i64 0, .int .i64 (s.fld Nd.size i)] w fun e w' => ∃ z : Int, e = .returned (.tuple #[.string ⟨(s.fileS i).toArray⟩, .int .i64 z]) ∧ Step s lay w s lay w' := by
  by_cases hk : fileE (s.fld Nd.kind i) = 0
  · cases hn : s.nd i with
    | none => unfold Fs.fld at hk; rw [hn] at hk; exact absurd hk (by decide)
    | some x =>
      obtain ⟨ht, h0, h1⟩ := hW i x hn
      have hsz : s.fld Nd.size i = x.size := by unfold Fs.fld; rw [hn]
      have hf : s.fileS i = s.bytes x 0 x.size.toNat := by unfold Fs.fileS; rw [if_pos hk, hn]
      rw [hf, hsz]
      obtain ⟨n, hn2⟩ : ∃ n : Nat, x.size = (n : Int) := ⟨x.size.toNat, by omega⟩
      by_cases hs : x.size = 0
      · have hb : s.bytes x 0 x.size.toNat = [] := by rw [hs]; rfl
        rw [hb]
        have hr := read_end i x 0 0 w h hn (by omega)
        rw [hs]
        refine (nread_file i 0 0 w h hk (R := fun w' => w = w') hr).mono ?_
        rintro e w' ⟨rfl, rfl⟩
        exact ⟨_, rfl, Step.refl h⟩
      · have hr := read_some i x 0 n w h hn ht ⟨h0, h1⟩ (by omega) (by omega)
        have hm : min n (x.size.toNat - 0) = x.size.toNat := by rw [hn2]; simp
        rw [hm] at hr
        rw [hn2] at hr ⊢
        refine (nread_file i 0 n w h hk (R := fun w' => Step s lay w s lay w') hr).mono ?_
        rintro e w' ⟨rfl, hst⟩
        exact ⟨_, rfl, hst⟩
  · have hf : s.fileS i = [] := by unfold Fs.fileS; rw [if_neg hk]
    rw [hf]
    refine (nread_nofile i 0 (s.fld Nd.size i) w h hk).mono ?_
    rintro e w' ⟨rfl, rfl⟩
    exact ⟨_, rfl, Step.refl h⟩
end
end Go.Proofs.YtggdedihfhibfaaGreatDoor
/- names.FS.Print: the walk. -/
namespace Go.Proofs.YtggdedihfhibfaaGreatDoor
open Go.RowKit IntWalk
set_option linter.unusedVariables false
set_option linter.unusedSimpArgs false

/-- where Print stands: the builder, and what it holds -/
structure PrSt (w0 : World) (bb : Nat) (out : List UInt8) (w : World) : Prop where
  below : Below w0.heap.size w0 w
  bld : Lib.IsBuilderF 78 5 w0.heap.size bb (Lib.byteCells out) w
theorem bldF_below {T e : TypeId} {B b : Nat} {p : Value} {bs : List Value} {W W' : World} (h : Lib.BuilderAtF T e B b p bs W) (hb : Below W.heap.size W W') : Lib.BuilderAtF T e B b p bs W' := by
  have hlt := h.lt
  obtain ⟨hB, v, hv, hown, hne⟩ := h
  exact ⟨hB, v, (hb.block b hlt).trans hv, hown.kept (row := none) ⟨hb.os, hb.tape, hb.output, hb.size, fun k hk _ => hb.block k hk⟩ (Classical.em _), hne⟩
section
variable {w0 w w' : World} {bb : Nat} {out : List UInt8}
theorem PrSt.lt (h : PrSt w0 bb out w) : bb < w.heap.size := h.bld.elim (fun x => x.lt) (fun x => x.lt)
theorem PrSt.next (h : PrSt w0 bb out w) (hb : Below w.heap.size w w') : PrSt w0 bb out w' :=
  ⟨h.below.trans (hb.mono h.below.size), h.bld.elim (fun x => .inl (bldF_below x hb)) (fun x => .inr (bldF_below x hb))⟩
theorem cells_app (a b : List UInt8) : Lib.byteCells a ++ Lib.strCells ⟨b.toArray⟩ = Lib.byteCells (a ++ b) := by simp [Lib.byteCells, Lib.strCells]
/-- what is written into it -/
theorem PrSt.write (h : PrSt w0 bb out w) (x : List UInt8) (hl : out.length + x.length ≤ 140737488355328) :
    Calls Tryz.prog 66 #[.pointer (some ⟨bb, 0, none⟩), .string ⟨x.toArray⟩] w fun e w' => e = .returned (.tuple #[.int .i64 (ByteArray.mk x.toArray).size, .nilIface]) ∧ PrSt w0 bb (out ++ x) w' ∧ Lib.OthersKept 5 (some bb) w w' := by
  refine (Tryz.Builder_WriteString_k w0.heap.size bb (Lib.byteCells out) ⟨x.toArray⟩ w h.bld (by rw [Lib.byteCells_length, str_size]; exact hl) h.below.size).mono ?_
  rintro e w' ⟨rfl, h1, h2, h3⟩
  rw [cells_app] at h1
  exact ⟨rfl, ⟨h.below.trans h2, .inr h1⟩, h3⟩
theorem kept_below (h : Below w.heap.size w w') : Lib.OthersKept 5 (some bb) w w' := (Lib.OthersKept.refl _ _ _).below h
end
theorem take_flat {f : List UInt8 → List UInt8} {L : List (List UInt8)} {k : Nat} {t : List UInt8} (h : L[k]? = some t) : (L.take (k + 1)).flatMap f = (L.take k).flatMap f ++ f t := by
  rw [List.take_add_one, h]
  simp
theorem take_flat_le (f : List UInt8 → List UInt8) (L : List (List UInt8)) (k : Nat) : ((L.take k).flatMap f).length ≤ (L.flatMap f).length := by
  have : L.flatMap f = (L.take k).flatMap f ++ (L.drop k).flatMap f := by rw [← List.flatMap_append, List.take_append_drop]
  rw [this, List.length_append]; omega
theorem len_app (a b : List UInt8) : (a ++ b).length = a.length + b.length := List.length_append
/-- what a call of print is to show -/
def PrintsAt (s : Fs) (lay : FId → Nat) (rk : Int → Nat) (w0 : World) (bb f : Nat) : Prop := ∀ (dir : Int) (path out : List UInt8) (w : World), rk dir < f → s.fld Nd.kind dir = 2 → path.length + 34 * rk dir ≤ 1100 →
  out.length + (s.printS f dir path).length ≤ 140737488355328 → PrSt w0 bb out w →
  Calls Tryz.prog 36 #[.pointer (some ⟨lay .F, 0, none⟩), .pointer (some ⟨bb, 0, none⟩), .int .i64 dir, .string ⟨path.toArray⟩] w fun e w' => e = .returned (.tuple #[]) ∧ PrSt w0 bb (out ++ s.printS f dir path) w' ∧ Lib.OthersKept 5 (some bb) w w'
section
variable {W0 w0 : World} {s : Fs} {lay : FId → Nat}
theorem list_dir (hT : Tr s) {dir : Int} (hk : s.fld Nd.kind dir = 2) : ∃ d, s.dr dir = some d ∧ s.listS dir = sortS (d.names.es.map nameOf) := by
  have hk' := hk
  unfold Fs.fld at hk'
  cases hn : s.nd dir with
  | none => rw [hn] at hk'; cases hk'
  | some x =>
    rw [hn] at hk'
    obtain ⟨d, hd⟩ := Option.isSome_iff_exists.1 (hT.dir dir x hn hk')
    refine ⟨d, hd, ?_⟩
    unfold Fs.listS
    rw [hn]
    dsimp only
    rw [if_pos hk', hd]
set_option maxRecDepth 100000 in
set_option maxHeartbeats 4000000 in
theorem print_step (hE : EnvT w0) (hF : FsIn W0 s lay w0) (hT : Tr s) (hW : s.Whole) {b : Nat} {rk : Int → Nat} (hR : Rk s b rk) (bb f : Nat) (ih : PrintsAt s lay rk w0 bb f) : PrintsAt s lay rk w0 bb (f + 1) := by
  intro dir path out w hf hk hp hl hS
  obtain ⟨d, hd, hls⟩ := list_dir hT hk
  have h := (hF.kept hS.below).is
  have hM : w.heap[lay (.M dir)]? = some d.names.obj := h.lies.at_ (.M dir) _ (by simp [Fs.obj, hd])
  have hok : NamesOk d.names := names_ok h.ok hd
  obtain ⟨D0, hown, hsz, hperm⟩ := own_names (hT.many dir d hd) (hT.name dir d hd) hok hM
  have h10 := hT.many dir d hd
  have hl0 := dir_look h dir
  rw [hd] at hl0
  simp only [Option.map_some, Option.getD_some] at hl0
  have e0 := h.e0 hd
  have c1 := h.f1
  have HK := Lib.hid (keys_says (some (lay (.M dir))) w)
  have HSo := Lib.hid (sorted_says (lay (.M dir)) _ D0 w hown (by omega))
  have HP := Lib.hid (sortS_eq hperm)
  have HE := Lib.hid hE
  have HF := Lib.hid hF
  have HT := Lib.hid hT
  have HWh := Lib.hid hW
  have HRk := Lib.hid hR
  have HS := Lib.hid hS
  have HD := Lib.hid hd
  have HIH := Lib.hid ih
  have hpr : s.printS (f + 1) dir path = (s.listS dir).flatMap (s.entS (s.printS f) dir path) := rfl
  rw [hpr] at hl ⊢
  have HLS := Lib.hid hls
  have HLC := Lib.hid (fun (t : List UInt8) (ht : t ∈ s.listS dir) => list_child h.ok hT ht)
  have hll := list_len hT dir
  have hl100 := hll.1
  have HLL := Lib.hid hll.2
  have HKD := Lib.hid hk
  clear hll
  have HL := Lib.hid hl
  clear h hM hok hown hperm hE hF hT hW hR hS hd ih hpr hls hl hk
  unfold ptrTo at *
  go_enter Tryz.func36, Tryz.ntmps36
  go_wp2_with first
    | (go_at_call 43; refine HK.out.mono ?_; rintro e w' ⟨rfl, rfl⟩)
    | (go_at_call 42; refine HSo.out.mono ?_; rintro e w2 ⟨v, rfl, hrow, hb⟩; rw [HP.out, ← HLS.out] at hrow; have HRow := Lib.hid hrow; have HB := Lib.hid hb; obtain ⟨va, vc, rfl⟩ := row_form hrow; clear hrow hb)
  have hB2 : Below w.heap.size w w2 := ((Below.refl _ w).alloc (Nat.le_refl _) _).trans (HB.out.mono (by simp))
  have HS2 := Lib.hid (HS.out.next hB2)
  have HK2 := Lib.hid (kept_below (bb := bb) hB2)
  obtain ⟨va1, vc1, e1, hrow⟩ := row_in HRow.out
  cases e1
  have HRW := Lib.hid hrow
  have hbw := HS.out.lt
  clear hrow hB2 c1 hl0 e0
  generalize hLq : s.listS dir = L at HRow HRW hl100 HLL HLC HL
  have HLQ := Lib.hid hLq
  clear hLq
  go_loopw [30] (fun iv wr => ∃ k : Nat, iv = .int .i64 k ∧ k ≤ L.length ∧ RowKit.Hid (PrSt w0 bb (out ++ (L.take k).flatMap (s.entS (s.printS f) dir path)) wr) ∧ RowKit.Hid (Lib.OthersKept 5 (some bb) w2 wr)) (fun iv _ => L.length - (intOf iv).toNat)
  case atStart => exact ⟨0, rfl, Nat.zero_le _, Lib.hid (by simpa using HS2.out), Lib.hid (Lib.OthersKept.refl _ _ _)⟩
  case round =>
    obtain ⟨k, rfl, hkl, HP1, HO⟩ := hrel
    rename World => wr
    by_cases hlt : k < L.length
    · obtain ⟨g1, rfl, hg0, hg1, hc1⟩ := HRW.out (by omega)
      obtain ⟨t, ht⟩ : ∃ t, L[k]? = some t := ⟨_, List.getElem?_eq_getElem hlt⟩
      have htl := HLL.out t (List.mem_of_getElem? ht)
      obtain ⟨d', x, hd', hx, hcx⟩ := HLC.out t (List.mem_of_getElem? ht)
      rw [HD.out] at hd'
      cases hd'
      obtain ⟨cur, hRS, _, _, _, hcur⟩ := row_cur HRow.out
      have hg0' : w.heap.size + 1 ≤ g1 := by simpa using hg0
      have hgr := HO.out g1 _ hRS.at_ (by intro e; have := Option.some.inj e; omega) (by intro c fz e; cases e)
      have hcell : wr.cell? ⟨g1, k, none⟩ = some (.string ⟨t.toArray⟩) := (World.cell?_of_block (a := ⟨g1, k, none⟩) (hgr.trans hRS.at_.symm)).trans (hRS.cell (hcur k t ht))
      have h' := (HF.out.kept HP1.out.below).is
      have c0 := h'.f0
      have e0 := h'.e0 HD.out
      have hnl := name_look1 h' HD.out t
      rw [hx] at hnl
      simp only [Option.getD_some] at hnl
      have hki := kind_any x wr h'
      have htf := take_flat (f := s.entS (s.printS f) dir path) ht
      have hle := take_flat_le (s.entS (s.printS f) dir path) L (k + 1)
      rw [htf, List.length_append] at hle
      have hLL := HL.out
      have hent : s.entS (s.printS f) dir path t = if s.fld Nd.kind x = 2 then (path ++ [47] ++ t ++ [47, 10]) ++ s.printS f x (path ++ [47] ++ t)
          else if s.fld Nd.kind x = 3 then path ++ [47] ++ t ++ [32, 45, 62, 32] ++ s.link x ++ [10]
          else path ++ [47] ++ t ++ [32] ++ Lib.itoa (s.fileS x).length ++ [10] ++ s.fileS x ++ [10] := by unfold Fs.entS; rw [hcx]
      have hkl1 : (k : Int) < (L.length : Int) := by omega
      have hp1 : path.length ≤ 1100 := by omega
      have ht32 := htl.2
      have h63a : ¬ 9223372036854775807 < path.length + 1 := by omega
      have h63b : ¬ 9223372036854775807 < path.length + (t.length + 1) := by omega
      have h63c : ¬ 9223372036854775807 < path.length + 1 + t.length := by omega
      have HX := Lib.hid h'
      have HTF := Lib.hid htf
      have HEN := Lib.hid hent
      have HLE := Lib.hid hle
      have HKI := Lib.hid hki
      have HTT := Lib.hid ht
      have hlow := HRk.out.low dir d t x HD.out hx
      clear hcx hx hRS hcur hgr h' htf hle hent hki ht htl
      have hbd : (out ++ (L.take k).flatMap (s.entS (s.printS f) dir path)).length + (s.entS (s.printS f) dir path t).length ≤ 140737488355328 := by
        have := HLE.out
        rw [List.length_append]; omega
      by_cases hk2 : s.fld Nd.kind x = 2
      · have hen : s.entS (s.printS f) dir path t = (path ++ 47 :: (t ++ [47, 10])) ++ s.printS f x (path ++ 47 :: t) := by
          rw [HEN.out, if_pos hk2]
          simp
        have hq : (out ++ (L.take (k + 1)).flatMap (s.entS (s.printS f) dir path)) = (out ++ (L.take k).flatMap (s.entS (s.printS f) dir path)) ++ (path ++ 47 :: (t ++ [47, 10])) ++ s.printS f x (path ++ 47 :: t) := by
          rw [HTF.out, hen]
          simp only [List.append_assoc]
        rw [hen, len_app (path ++ 47 :: (t ++ [47, 10]))] at hbd
        have hK2 := hk2
        rw [hk2] at HKI
        have HQ := Lib.hid hq
        have HB1 := Lib.hid (show (out ++ (L.take k).flatMap (s.entS (s.printS f) dir path)).length + (path ++ 47 :: (t ++ [47, 10])).length ≤ 140737488355328 by omega)
        have HB2 := Lib.hid (show (out ++ (L.take k).flatMap (s.entS (s.printS f) dir path) ++ (path ++ 47 :: (t ++ [47, 10]))).length + (s.printS f x (path ++ 47 :: t)).length ≤ 140737488355328 by rw [len_app (out ++ (L.take k).flatMap (s.entS (s.printS f) dir path))]; omega)
        have HB3 := Lib.hid (show (path ++ 47 :: t).length + 34 * rk x ≤ 1100 by simp; omega)
        have HK3 := Lib.hid hK2
        generalize (L.take k).flatMap (s.entS (s.printS f) dir path) = fk at HP1 HB1 HB2 HQ
        clear hen hq hbd hK2 hk2 HEN HTF hLL
        go_wp2_with first
          | (go_at_call 36; (refine (HIH.out x (path ++ 47 :: t) _ w4 (by omega) HK3.out HB3.out HB2.out HP4.out).mono ?_); rintro e w5 ⟨rfl, hp5, ho5⟩; rw [← HQ.out] at hp5; have HP5 := Lib.hid hp5; have HO5 := Lib.hid (HO4.out.trans ho5); clear hp5 ho5)
          | (go_at_call 66; (refine (HP1.out.write (path ++ 47 :: (t ++ [47, 10])) HB1.out).mono ?_); rintro e w4 ⟨rfl, hp4, ho4⟩; have HP4 := Lib.hid hp4; have HO4 := Lib.hid (HO.out.trans ho4); clear hp4 ho4)
          | (go_at_call 65; (with_reducible refine HKI.out.mono ?_); rintro e w3 ⟨rfl, rfl⟩)
        go_roundw
        case rel => exact ⟨k + 1, by go_num, by omega, HP5, HO5⟩
        case measure => simp [intOf]; omega
      · have hkb : (s.fld Nd.kind x == 2) = false := by simpa using hk2
        by_cases hk3 : s.fld Nd.kind x = 3
        · have HRL := Lib.hid (readlink_any x wr HX.out HWh.out hk3)
          have hll := link_len (s := s) x
          rw [hk3] at HKI
          unfold ptrTo at HRL
          generalize s.link x = lk at HRL hll HEN
          have hen : s.entS (s.printS f) dir path t = path ++ 47 :: (t ++ 32 :: 45 :: 62 :: 32 :: (lk ++ [10])) := by
            rw [HEN.out, if_neg hk2, if_pos hk3]
            simp
          have HQ := Lib.hid (show (out ++ (L.take (k + 1)).flatMap (s.entS (s.printS f) dir path)) = (out ++ (L.take k).flatMap (s.entS (s.printS f) dir path)) ++ (path ++ 47 :: (t ++ 32 :: 45 :: 62 :: 32 :: (lk ++ [10]))) by
            rw [HTF.out, hen, List.append_assoc])
          rw [hen] at hbd
          have HB1 := Lib.hid hbd
          clear hkb hen hbd HEN HTF hLL hk2 hk3
          generalize (L.take k).flatMap (s.entS (s.printS f) dir path) = fk at HP1 HB1 HQ
          go_wp2_with first
            | (go_at_call 66; (refine (HPP.out.write _ HB1.out).mono ?_); rintro e w4 ⟨rfl, hp4, ho4⟩; rw [← HQ.out] at hp4; have HP4 := Lib.hid hp4; have HO4 := Lib.hid (HOO.out.trans ho4); clear hp4 ho4)
            | (go_at_call 67; refine HRL.out.mono ?_; rintro e w3 ⟨rfl, hst⟩; have hb3 := hst.below HX.out; have HPP := Lib.hid (HP1.out.next hb3); have HOO := Lib.hid (HO.out.trans (kept_below (bb := bb) hb3)); clear hst hb3)
            | (go_at_call 65; (with_reducible refine HKI.out.mono ?_); rintro e w3 ⟨rfl, rfl⟩)
          go_roundw
          case rel => exact ⟨k + 1, by go_num, by omega, HP4, HO4⟩
          case measure => simp [intOf]; omega
        · have hkc : (s.fld Nd.kind x == 3) = false := by simpa using hk3
          have HSz := Lib.hid (size_any x wr HX.out)
          have HRF := Lib.hid (read_file x wr HX.out HWh.out)
          have hfl := file_len HWh.out x
          unfold ptrTo at HRF
          generalize s.fld Nd.size x = sz at HSz HRF
          rw [if_neg hk2, if_neg hk3] at HEN
          generalize s.fld Nd.kind x = kd at HKI hkb hkc hk2 hk3
          generalize s.fileS x = fl at HRF hfl HEN
          have hfi : (fl.length : Int) ≤ 4096 := by omega
          have hen : s.entS (s.printS f) dir path t = path ++ 47 :: (t ++ 32 :: (Lib.itoa (fl.length : Int) ++ 10 :: (fl ++ [10]))) := by
            rw [HEN.out]
            simp
          have HQ := Lib.hid (show (out ++ (L.take (k + 1)).flatMap (s.entS (s.printS f) dir path)) = (out ++ (L.take k).flatMap (s.entS (s.printS f) dir path)) ++ (path ++ 47 :: (t ++ 32 :: (Lib.itoa (fl.length : Int) ++ 10 :: (fl ++ [10])))) by
            rw [HTF.out, hen, List.append_assoc])
          rw [hen] at hbd
          have HB1 := Lib.hid hbd
          have hil := itoa_len fl.length hfl
          have q1 : ¬ 9223372036854775807 < path.length + (t.length + 1 + 1) + (Lib.itoa (fl.length : Int)).length := by omega
          have q2 : ¬ 9223372036854775807 < path.length + (t.length + ((Lib.itoa (fl.length : Int)).length + 1) + 1) + 1 := by omega
          have q3 : ¬ 9223372036854775807 < path.length + (t.length + ((Lib.itoa (fl.length : Int)).length + 1 + 1) + 1) + fl.length := by omega
          have q4 : ¬ 9223372036854775807 < path.length + (t.length + ((Lib.itoa (fl.length : Int)).length + (fl.length + 1) + 1) + 1) + 1 := by omega
          clear hen hbd HEN HTF hLL hk2 hk3
          generalize (L.take k).flatMap (s.entS (s.printS f) dir path) = fk at HP1 HB1 HQ
          go_wp2_with first
            | (go_at_call 66; (refine (HPQ.out.write _ HB1.out).mono ?_); rintro e w6 ⟨rfl, hp4, ho4⟩; rw [← HQ.out] at hp4; have HP4 := Lib.hid hp4; have HO4 := Lib.hid (HOQ.out.trans ho4); clear hp4 ho4)
            | (go_at_call 70; (refine (Tryz.strconv_Itoa (fl.length : Int) (by omega) (by omega) w4 (HE.out.next HPP.out.below).pow10).mono ?_); rintro e w5 ⟨rfl, kk, os, rfl⟩; have hb5 := Lib.below_grow w4.heap.size w4 (Nat.le_refl _) kk os; generalize Sort.grow (w4.drewN kk) os = w5 at hb5; have HPQ := Lib.hid (HPP.out.next hb5); have HOQ := Lib.hid (HOO.out.trans (kept_below (bb := bb) hb5)); clear hb5)
            | (go_at_call 68; refine HRF.out.mono ?_; rintro e w4 ⟨z, rfl, hst⟩; have hb4 := hst.below HX.out; have HPP := Lib.hid (HP1.out.next hb4); have HOO := Lib.hid (HO.out.trans (kept_below (bb := bb) hb4)); clear hst hb4)
            | (go_at_call 69; refine HSz.out.mono ?_; rintro e w3 ⟨rfl, rfl⟩)
            | (go_at_call 65; (with_reducible refine HKI.out.mono ?_); rintro e w3 ⟨rfl, rfl⟩)
          go_roundw
          case rel => exact ⟨k + 1, by go_num, by omega, HP4, HO4⟩
          case measure => simp [intOf]; omega
    · obtain rfl : k = L.length := by omega
      have hkl1 : ¬ (L.length : Int) < (L.length : Int) := by omega
      rw [List.take_length] at HP1
      have HOF := Lib.hid (HK2.out.trans HO.out)
      go_wp2
      go_end0
      rw [HLQ.out]
      exact ⟨rfl, HP1.out, HOF.out⟩
end
end Go.Proofs.YtggdedihfhibfaaGreatDoor
/- names.FS.Print: what it answers. -/
namespace Go.Proofs.YtggdedihfhibfaaGreatDoor
open Go.RowKit IntWalk
set_option linter.unusedVariables false
set_option linter.unusedSimpArgs false

section
variable {W0 w0 : World} {s : Fs} {lay : FId → Nat}
theorem print_all (hE : EnvT w0) (hF : FsIn W0 s lay w0) (hT : Tr s) (hW : s.Whole) {b : Nat} {rk : Int → Nat} (hR : Rk s b rk) (bb : Nat) : ∀ f, PrintsAt s lay rk w0 bb f
  | 0 => fun dir path out w hf => absurd hf (Nat.not_lt_zero _)
  | f + 1 => print_step hE hF hT hW hR bb f (print_all hE hF hT hW hR bb f)
set_option maxRecDepth 100000 in
set_option maxHeartbeats 1000000 in
theorem print_ft {F : Nat} {w : World} (hE : EnvT w) (h : FT W0 F s w) (hT : Tr s) {b : Nat} (hR : Ranked s b) (hr : s.fld Nd.kind 1 = 2) :
    Calls Tryz.prog 13 #[ptrTo F] w fun e w' => e = .returned (.string ⟨(s.printS 30 1 []).toArray⟩) ∧ Below w.heap.size w w' := by
  obtain ⟨lay, rfl, hfs, hgen⟩ := h
  obtain ⟨rk, hrk, h29⟩ := hR
  have hlen := print_len hfs.is.ok hT hgen.whole hrk 30 1 [] (by rw [h29]; simp)
  rw [h29] at hlen
  have hlen2 : (s.printS 30 1 []).length ≤ 140737488355328 := by omega
  have HW1 := Lib.hid ((Below.refl w.heap.size w).alloc (Nat.le_refl _) (.cells #[.pointer none, .slice none 0 0] 78))
  have HS1 := Lib.hid (show PrSt w w.heap.size [] (w.alloc (.cells #[.pointer none, .slice none 0 0] 78)) from ⟨HW1.out, .inl ⟨Nat.le_refl _, .slice none 0 0, r_alloc_at _ _, World.ownsRowF_nil _ _ _ _, by simp [Value.ownBlock]⟩⟩)
  have HPA := Lib.hid (print_all hE hfs hT hgen.whole hrk w.heap.size 30 1 [] [] (w.alloc (.cells #[.pointer none, .slice none 0 0] 78)) (by rw [h29]; decide) hr (by rw [h29]; decide) (by simpa using hlen2) HS1.out)
  clear hlen hE hfs hT hgen hrk hlen2 HW1 HS1
  generalize s.printS 30 1 [] = out at HPA ⊢
  rw [List.nil_append] at HPA
  unfold ptrTo at *
  have hemp : (ByteArray.empty : ByteArray) = ⟨([] : List UInt8).toArray⟩ := rfl
  go_enter Tryz.func13, Tryz.ntmps13
  go_wp2_with first
    | (go_at_call 37; (refine (Tryz.Builder_String_any_k w.heap.size w.heap.size out w2 HP2.out.bld HP2.out.below.size).mono ?_); rintro e w3 ⟨rfl, _, hb3, _⟩; have HB3 := Lib.hid (HP2.out.below.trans hb3); clear hb3)
    | (go_at_call 36; (refine HPA.out.mono ?_); rintro e w2 ⟨rfl, hp2, _⟩; have HP2 := Lib.hid hp2; clear hp2)
  go_ret
  exact ⟨rfl, HB3.out⟩
end
end Go.Proofs.YtggdedihfhibfaaGreatDoor
/- conchlaw21.PathsThere: the walk. (printed by wip/tools/gen_there.py) -/
namespace Go.Proofs.YtggdedihfhibfaaGreatDoor
open Go.RowKit IntWalk
set_option linter.unusedVariables false
set_option linter.unusedSimpArgs false

theorem row_long {W : World} {base : Nat} {v : Value} {L : List (List UInt8)} (h : W.ownsRow base 9 1 v L.length (L.map encB)) : L.length ≤ 9223372036854775807 := by
  rcases h.2 with ⟨_, hn⟩ | ⟨g, cap, cur, _, _, _, hnc, hcm, _⟩
  · omega
  · simp only [maxLen] at hcm; omega
set_option maxRecDepth 100000 in
set_option maxHeartbeats 8000000 in
theorem there_law (W : World) (v : Value) (L : List MadeR) (hL : Mades W v L) (fv : Value) (a : List UInt8 × List Bool) (hF : FieldArg W fv a) (hE : EnvT W) :
    Calls Tryz.prog 4 #[v, fv] W fun e w' => e = .returned (.bool true) ∧ Below W.heap.size W w' := by
  obtain ⟨x, q⟩ := a
  obtain ⟨qv, rfl, hq, hxl, hql⟩ := hF
  dsimp only at hq hxl hql ⊢
  obtain ⟨qa, qc, rfl, _⟩ := id hq.1
  have hxl' : x.length ≤ 9223372036854775807 := by simpa [maxLen] using hxl
  have hql' : q.length ≤ 9223372036854775807 := by simpa [maxLen] using hql
  obtain ⟨w0, hw0⟩ : ∃ w0, W.alloc (.cells #[.string ⟨x.toArray⟩, .slice qa q.length qc] 31) = w0 := ⟨_, rfl⟩
  have hb0 : Below W.heap.size W w0 := by rw [← hw0]; exact (Below.refl _ W).alloc (Nat.le_refl _) _
  have hx0 : w0.heap[W.heap.size]? = some (.cells #[.string ⟨x.toArray⟩, .slice qa q.length qc] 31 (0, 0)) := by rw [← hw0]; exact r_alloc_at _ _
  have HB0 := Lib.hid hb0
  have HX0 := Lib.hid hx0
  have HFw := Lib.hid (few_any w0 v L (hL.below hb0))
  have HSm := Lib.hid (fun (V : World) => small_any x qa q.length qc V hxl')
  have HAw := Lib.hid (fun (V : World) (hb : Below W.heap.size W V) => awake_any V (hE.next hb).g)
  have HL := Lib.hid hL
  have HE := Lib.hid hE
  have HQ := Lib.hid hq
  obtain ⟨la, lcap, rfl, _⟩ := hL.shape
  clear hL hE hq hb0 hx0 hxl hql
  unfold fieldV
  cases hf : fewS L
  · rw [hf] at HFw
    go_enter Tryz.func4, Tryz.ntmps4
    go_wp2_with first
      | (go_at_call 9; (refine (HAw.out w1 HB1.out).mono ?_); rintro e w2 ⟨rfl, hb2⟩)
      | (go_at_call 8; (with_reducible refine HFw.out.mono ?_); rintro e w1 ⟨rfl, hb1⟩; have HB1 := Lib.hid (HB0.out.trans (hb1.mono HB0.out.size)); clear hb1)
    go_ret
    exact ⟨rfl, HB1.out.trans (hb2.mono HB1.out.size)⟩
  · rw [hf] at HFw
    obtain ⟨h15, hsm⟩ := fewS_ok hf
    have HT := Lib.hid (fun (w1 : World) (hb : Below W.heap.size W w1) => tree_any w1 _ L (HL.out.below hb) (HE.out.next hb).g h15 hsm)
    have HTN := Lib.hid (treeS_trn gen_begin L)
    have HRK := Lib.hid (treeS_rk gen_begin L h15)
    have hN : 6 + L.length ≤ 100 := by omega
    unfold ptrTo at HT
    clear hsm hf
    generalize treeS L = s at HT HTN HRK
    go_enter Tryz.func4, Tryz.ntmps4
    go_wp2_with first
      | (go_at_call 9; (refine (HAw.out w2 HB2.out).mono ?_); rintro e w3 ⟨rfl, hb3⟩)
      | (go_at_call 12; (refine (HSm.out w1).mono ?_); rintro e w2 ⟨⟨sb, rfl, hsb⟩, hb2⟩; have HB2 := Lib.hid (HB1.out.trans (hb2.mono HB1.out.size)); have HX2 := Lib.hid ((hb2.block _ (blk_lt HX1.out)).trans HX1.out); obtain ⟨y0, y1⟩ := cell01 HX2.out; clear hb2; cases sb)
      | (go_at_call 8; (with_reducible refine HFw.out.mono ?_); rintro e w1 ⟨rfl, hb1⟩; have HB1 := Lib.hid (HB0.out.trans (hb1.mono HB0.out.size)); have HX1 := Lib.hid ((hb1.block _ (blk_lt HX0.out)).trans HX0.out); obtain ⟨x0, x1⟩ := cell01 HX1.out; clear hb1)
    · go_ret
      exact ⟨rfl, HB2.out.trans (hb3.mono HB2.out.size)⟩
    · have hx60 := hsb (by first | rfl | trivial)
      clear hsb x0 x1
      have HTr := Lib.hid (HTN.out.tr hN)
      have HRoot := Lib.hid HTN.out.root
      have HE2 := Lib.hid (HE.out.next HB2.out)
      unfold ptrTo at *
      have HPr := Lib.hid (fun (F : Nat) (V : World) (hb : Below W.heap.size W V) (h : FT w2 F s V) => print_ft (W0 := w2) (HE.out.next hb) h HTr.out HRK.out HRoot.out)
      generalize hP0 : s.printS 30 1 [] = P0 at HPr
      have HTH := Lib.hid (fun (hok : s.Ok) => expand_there HTN.out hok 1 x q)
      have HXP := Lib.hid (fun (F : Nat) (V : World) (hb : Below W.heap.size W V) (h : FT w2 F s V) => expand_ft HE2.out.g HTr.out 1 x q (.slice qa q.length qc) V h ⟨HQ.out.1.below hb, HQ.out.2⟩ (by omega) hql')
      clear hP0
      generalize s.expandS 1 x q = E at HTH HXP
      unfold fieldV ptrTo at *
      go_wp2_with first
        | (go_at_call 11; (refine (HXP.out (lay .F) w4 HB4.out HF4.out).mono ?_); rintro e w5 ⟨⟨ve, rfl, hre⟩, hb5⟩; have HR5 := Lib.hid hre; have HB5 := Lib.hid (HB4.out.trans (hb5.mono HB4.out.size)); have HF5 := Lib.hid (HF4.out.kept hb5); have HX5 := Lib.hid ((hb5.block _ (blk_lt HX4.out)).trans HX4.out); obtain ⟨y05, y15⟩ := cell01 HX5.out; have HTE := Lib.hid (HTH.out HOK.out); have hne := HTE.out.ne; have hl0 : ((E.length : Int) == 0) = false := (by rw [beq_eq_false_iff_ne]; omega); have hEL := row_long hre; obtain ⟨ea, ec, rfl, hrow⟩ := row_in hre; have HRW := Lib.hid hrow; clear hre hrow hb5 hne y04 y14)
        | (go_at_call 13; (refine (HPr.out (lay .F) w5 HB5.out HF5.out).mono ?_); rintro e w6 ⟨rfl, hb6⟩; have HB56 := Lib.hid hb6; have HB6 := Lib.hid (HB5.out.trans (hb6.mono HB5.out.size)); have HF6 := Lib.hid (HF5.out.kept hb6); have HX6 := Lib.hid ((hb6.block _ (blk_lt HX5.out)).trans HX5.out); clear hb6)
        | (go_at_call 13; (refine (HPr.out (lay .F) w3 HB3.out HF3.out).mono ?_); rintro e w4 ⟨rfl, hb4⟩; have HB4 := Lib.hid (HB3.out.trans (hb4.mono HB3.out.size)); have HF4 := Lib.hid (HF3.out.kept hb4); have HX4 := Lib.hid ((hb4.block _ (blk_lt HX3.out)).trans HX3.out); obtain ⟨y04, y14⟩ := cell01 HX4.out; clear hb4 y03 y13)
        | (go_at_call 10; (refine (HT.out w2 HB2.out).mono ?_); rintro e w3 ⟨F, rb, rfl, hf3⟩; obtain ⟨lay, rfl, hfs, hgen⟩ := hf3; have HOK := Lib.hid hfs.is.ok; have HF3 := Lib.hid (show FT w2 (lay .F) s w3 from ⟨lay, rfl, hfs, hgen⟩); have HB3 := Lib.hid (HB2.out.trans (hfs.below.mono HB2.out.size)); have HX3 := Lib.hid ((hfs.below.block _ (blk_lt HX2.out)).trans HX2.out); obtain ⟨y03, y13⟩ := cell01 HX3.out; clear hfs hgen y0 y1)
      go_loopw [9] (fun iv wr => ∃ i : Nat, iv = .int .i64 i ∧ i ≤ E.length ∧ RowKit.Hid (Below w6.heap.size w6 wr)) (fun iv _ => E.length - (intOf iv).toNat)
      case atStart => exact ⟨0, rfl, Nat.zero_le _, Lib.hid (Below.refl _ _)⟩
      case round =>
        obtain ⟨i, rfl, hi, HBV⟩ := hrel
        rename World => V
        have HBW := Lib.hid (HB6.out.trans (HBV.out.mono HB6.out.size))
        by_cases hlt : i < E.length
        · have hil : (i : Int) < (E.length : Int) := by omega
          obtain ⟨lg, rfl, _, hlg, hlc⟩ := HRW.out (by omega)
          obtain ⟨y, hy⟩ : ∃ y, E[i]? = some y := ⟨_, List.getElem?_eq_getElem hlt⟩
          have HB5V := Lib.hid (HB56.out.trans (HBV.out.mono HB56.out.size))
          have d0 := (HB5V.out.cell (p := ⟨lg, i, none⟩) hlg).trans (hlc i y hy)
          have HLC := Lib.hid hlc
          have HY := Lib.hid hy
          have hlc' := hlc
          obtain ⟨lay', hle, hfs', _⟩ := HF6.out
          have HFV := Lib.hid (hfs'.kept HBV.out)
          have HWk := Lib.hid (walk_any (W0 := w2) HE2.out.g 1 y false V HFV.out)
          have HIS : RowKit.Hid ((s.walkS 1 y false).2 = 0 ∨ E = [x]) := Lib.hid (HTE.out.is.elim (fun h => .inr h) (fun h => .inl (h y (List.mem_of_getElem? hy))))
          have HUP := Lib.hid (fun (j : Nat) (u : List UInt8) (hj : j + 1 = i) (hu : E[j]? = some u) => HTE.out.up j u y hu (by rw [hj]; exact hy))
          rw [hle] at HWk
          generalize s.walkS 1 y false = r at HWk HIS
          obtain ⟨rn, re⟩ := r
          dsimp only at HWk HIS
          unfold ptrTo at HWk
          clear hlc hy hlc' hfs' hle
          by_cases hre : re = 0
          · have hz : (re != 0) = false := by rw [hre]; rfl
            clear hre
            by_cases hi0 : i = 0
            · subst hi0
              go_wp2_with first
                | (go_at_call 14; (refine HWk.out.mono ?_); rintro e w7 ⟨rfl, hst⟩; have hb7 := hst.below HFV.out.is; have HB7 := Lib.hid (HBV.out.trans (hb7.mono HBV.out.size)); have HX7 := Lib.hid (((HBV.out.trans (hb7.mono HBV.out.size)).block _ (blk_lt HX6.out)).trans HX6.out); obtain ⟨z0, z1⟩ := cell01 HX7.out; have HB57 := Lib.hid (HB56.out.trans ((HBV.out.trans (hb7.mono HBV.out.size)).mono HB56.out.size)); have d1 := (HB57.out.cell (p := ⟨lg, 0, none⟩) hlg).trans (HLC.out 0 y HY.out); clear hst hb7)
              go_quiet (fail)
              go_wp2_with fail
              go_roundw
              case rel => exact ⟨1, by go_num, by omega, Lib.hid ⟨HB7.out.os, HB7.out.tape, HB7.out.output, HB7.out.size, HB7.out.block⟩⟩
              case measure => simp [intOf]; omega
            · obtain ⟨j, hij⟩ : ∃ j, i = j + 1 := ⟨i - 1, by omega⟩
              obtain ⟨u, hu⟩ : ∃ u, E[j]? = some u := ⟨_, List.getElem?_eq_getElem (by omega)⟩
              have huy := HUP.out j u hij.symm hu
              have HU := Lib.hid hu
              have hbl : Op.bytesLess u y = true := by rw [Go.Proofs.bytesLess_eq]; exact decide_eq_true huy
              clear huy
              have hip : 0 < i := by omega
              have hj0 : (0 : Int) < (i : Int) := by omega
              have hi1 : (i : Int) - 1 = (j : Int) := by omega
              have hjl : (j : Int) < (E.length : Int) := by omega
              have hwj : wrap64 (j : Int) = (j : Int) := wrap64_in _ (by omega)
              clear hu hij
              go_wp2_with first
                | (go_at_call 14; (refine HWk.out.mono ?_); rintro e w7 ⟨rfl, hst⟩; have hb7 := hst.below HFV.out.is; have HB7 := Lib.hid (HBV.out.trans (hb7.mono HBV.out.size)); have HX7 := Lib.hid (((HBV.out.trans (hb7.mono HBV.out.size)).block _ (blk_lt HX6.out)).trans HX6.out); obtain ⟨z0, z1⟩ := cell01 HX7.out; have HB57 := Lib.hid (HB56.out.trans ((HBV.out.trans (hb7.mono HBV.out.size)).mono HB56.out.size)); have d1 := (HB57.out.cell (p := ⟨lg, i, none⟩) hlg).trans (HLC.out i y HY.out); have d2 := (HB57.out.cell (p := ⟨lg, j, none⟩) hlg).trans (HLC.out j u HU.out); clear hst hb7)
              go_quiet (fail)
              go_wp2_with fail
              go_roundw
              case rel => exact ⟨i + 1, by go_num, by omega, Lib.hid ⟨HB7.out.os, HB7.out.tape, HB7.out.output, HB7.out.size, HB7.out.block⟩⟩
              case measure => simp [intOf]; omega
          · have hE1 := HIS.out.resolve_left hre
            have hlen1 : E.length = 1 := by rw [hE1]; rfl
            obtain rfl : i = 0 := by omega
            have h1n : ¬ 1 < E.length := by omega
            have hyx : y = x := by have := HY.out; rw [hE1] at this; simpa using this.symm
            clear hE1 hlen1
            have hz : (re != 0) = true := by simpa using hre
            subst hyx
            go_wp2_with first
              | (go_at_call 14; (refine HWk.out.mono ?_); rintro e w7 ⟨rfl, hst⟩; have hb7 := hst.below HFV.out.is; have HB7 := Lib.hid (HBV.out.trans (hb7.mono HBV.out.size)); have HX7 := Lib.hid (((HBV.out.trans (hb7.mono HBV.out.size)).block _ (blk_lt HX6.out)).trans HX6.out); obtain ⟨z0, z1⟩ := cell01 HX7.out; have HB57 := Lib.hid (HB56.out.trans ((HBV.out.trans (hb7.mono HBV.out.size)).mono HB56.out.size)); have d1 := (HB57.out.cell (p := ⟨lg, 0, none⟩) hlg).trans (HLC.out 0 y HY.out); clear hst hb7)
            have h1i : ¬ (1 : Int) < (E.length : Int) := by omega
            go_quiet (fail)
            go_wp2_with fail
            go_roundw
            case rel => exact ⟨1, by go_num, by omega, Lib.hid ⟨HB7.out.os, HB7.out.tape, HB7.out.output, HB7.out.size, HB7.out.block⟩⟩
            case measure => simp [intOf]; omega
        · obtain rfl : i = E.length := by omega
          have hil : ¬ (E.length : Int) < (E.length : Int) := by omega
          go_wp2_with (go_at_call 9; (refine (HAw.out V HBW.out).mono ?_); rintro e w10 ⟨rfl, hb10⟩)
          go_ret
          exact ⟨rfl, HBW.out.trans (hb10.mono HBW.out.size)⟩
end Go.Proofs.YtggdedihfhibfaaGreatDoor
