/- Texts of one proof, packed: FeS, FeA, FeB, FeC, FeD, FeE -/
import Derived.Test.YtomjjedgmnkciaaGreatDoorP01
import Derived.Test.YtomjjedgmnkciaaGreatDoorP03
import Derived.Test.YtomjjedgmnkciaaGreatDoorOwn
import Derived.Deep.AppendLies
import Derived.Test.YtomjjedgmnkciaaGreatDoorP04
import Derived.Test.YtomjjedgmnkciaaGreatDoorP05
set_option linter.unusedVariables false
set_option linter.unusedSimpArgs false
set_option linter.deprecated false
set_option linter.unnecessarySimpa false
/- fds: a sink of bytes: what a write to it leaves. -/
namespace Go.Proofs.YtomjjedgmnkciaaGreatDoor
open Go.RowKit IntWalk
set_option linter.unusedVariables false
set_option linter.unusedSimpArgs false
set_option linter.unnecessarySimpa false

inductive SId where
  | S | B
  deriving DecidableEq
/-- a sink's bytes, the block that holds them -/
structure Sx where
  out : List UInt8
  cur : Option (Nat × Array Value)
def Sx.val (s : Sx) (lay : SId → Nat) : Value := match s.cur with
  | none => .slice none 0 0
  | some (cap, _) => .slice (some ⟨lay .B, 0, none⟩) s.out.length cap
def Sx.obj (s : Sx) (lay : SId → Nat) : SId → Option Obj
  | .S => some (.cells #[s.val lay] 114 (0, 0))
  | .B => match s.cur with
    | none => none
    | some (_, cs) => some (.cells cs 5 (0, 0))
def Sx.Ok (s : Sx) : Prop := match s.cur with
  | none => s.out = []
  | some (cap, cs) => s.out.length ≤ cap ∧ cap ≤ maxLen ∧ cs.size = cap ∧ cs.toList.take s.out.length = s.out.map fun c => Value.int .u8 c.toNat
def bytesV (d : List UInt8) : List Value := d.map fun c => Value.int .u8 c.toNat
theorem strCells_of (d : List UInt8) : Go.Lib.strCells ⟨d.toArray⟩ = bytesV d := by simp [Go.Lib.strCells, bytesV]
/-- append of a string's bytes, by what it leaves: nothing, the same block, or a new one -/
theorem append_str3 {P : Program} {w : World} (t u ty e : TypeId) (i : TypeInfo) (ht : P.underlying t = some (.slice e)) (hu : P.underlying u = some .string) (hi : P.info? e = some i) (hz : i.zero = some (.int .u8 0)) (hsize : i.size = 1) (hby : i.bytes = 1) (d : List UInt8) :
    (d = [] → (Builtin.append_ #[t, u] ty #[.slice none 0 0, .string ⟨d.toArray⟩]).run P w = .ok (.slice none 0 0) w) ∧
    (d ≠ [] → d.length ≤ 1000000 → ∃ cap cs, (Builtin.append_ #[t, u] ty #[.slice none 0 0, .string ⟨d.toArray⟩]).run P w = .ok (.slice (some ⟨w.heap.size, 0, none⟩) d.length cap) (w.drew.alloc (.cells cs e)) ∧ d.length ≤ cap ∧ cap ≤ maxLen ∧ cs.size = cap ∧ cs.toList.take d.length = bytesV d) ∧
    (∀ (g cap : Nat) (cs : Array Value) (out : List UInt8), w.heap[g]? = some (.cells cs e (0, 0)) → out.length ≤ cap → cap ≤ maxLen → cs.size = cap → cs.toList.take out.length = bytesV out → out.length + d.length ≤ 1000000 →
      (∃ cs', (Builtin.append_ #[t, u] ty #[.slice (some ⟨g, 0, none⟩) out.length cap, .string ⟨d.toArray⟩]).run P w = .ok (.slice (some ⟨g, 0, none⟩) (out.length + d.length) cap) (w.setRow g cs') ∧ out.length + d.length ≤ cap ∧ cs'.size = cap ∧ cs'.toList.take (out.length + d.length) = bytesV (out ++ d)) ∨
      (∃ cap' cs', (Builtin.append_ #[t, u] ty #[.slice (some ⟨g, 0, none⟩) out.length cap, .string ⟨d.toArray⟩]).run P w = .ok (.slice (some ⟨w.heap.size, 0, none⟩) (out.length + d.length) cap') (w.drew.alloc (.cells cs' e)) ∧ out.length + d.length ≤ cap' ∧ cap' ≤ maxLen ∧ cs'.size = cap' ∧ cs'.toList.take (out.length + d.length) = bytesV (out ++ d))) := by
  have hsz : (⟨d.toArray⟩ : ByteArray).size = d.length := rfl
  have hbl : ∀ x : List UInt8, (bytesV x).length = x.length := fun x => by simp [bytesV]
  have hgrown : ∀ (need old : Nat), need ≤ 1000000 → need ≤ grownCap w need old e ∧ grownCap w need old e ≤ maxLen := fun need old hn => ⟨grownCap_ge w need old e, grownCap_le_maxLen w need old e (by simp only [maxLen]; omega)⟩
  have hrow : ∀ (olds : List Value) (n : Nat) (c : Nat), olds.length = n → n + d.length ≤ c → (olds.toArray ++ (Go.Lib.strCells ⟨d.toArray⟩).toArray ++ Builtin.zeroCells (Value.int IntKind.u8 0).cells (c - (n + d.length))).size = c ∧
      (olds.toArray ++ (Go.Lib.strCells ⟨d.toArray⟩).toArray ++ Builtin.zeroCells (Value.int IntKind.u8 0).cells (c - (n + d.length))).toList.take (n + d.length) = olds ++ bytesV d := by
    intro olds n c hn hc
    have hz1 : (Value.int IntKind.u8 0).cells.size = 1 := rfl
    refine ⟨?_, ?_⟩
    · simp only [Array.size_append, List.size_toArray, size_zeroCells, hz1, hn, strCells_of, hbl]
      omega
    · simp only [Array.toList_append, strCells_of]
      rw [List.take_left' (by simp [hn, hbl])]
  refine ⟨?_, ?_, ?_⟩
  · rintro rfl
    have hf := Go.Lib.run_firstCells_string (P := P) w 1 (⟨#[]⟩ : ByteArray)
    have h0 : (⟨#[]⟩ : ByteArray).size = 0 := rfl
    rw [h0] at hf
    simp [Builtin.append_, run_underlying ht, run_underlying hu, sizeOf, typeInfo, hi, hsize, Builtin.lenOf, h0, hf]
  · intro hd hl
    have hpos : 0 < d.length := List.length_pos_iff.2 hd
    have hr := run_append_nil_string (P := P) w t u ty e i (.int .u8 0) ht hu hi hz ⟨d.toArray⟩ (by rw [hsz]; exact hpos) (by rw [hsz]; omega) (by rw [hby, hsz]; omega)
    rw [hsz] at hr
    have hg := hgrown d.length 0 hl
    have hrw := hrow [] 0 (grownCap w d.length 0 e) rfl (by omega)
    simp only [Nat.zero_add, List.nil_append, Array.empty_append] at hrw
    have e1 : ((⟨d.toArray⟩ : ByteArray).data.map fun b => Value.int .u8 b.toNat) = (Go.Lib.strCells ⟨d.toArray⟩).toArray := by
      apply Array.ext'
      simp [Go.Lib.strCells]
    rw [e1] at hr
    exact ⟨_, _, hr, hg.1, hg.2, hrw.1, hrw.2⟩
  · intro g cap cs out hg hoc hcm hcs htk hl
    by_cases hroom : out.length + d.length ≤ cap
    · left
      have hr := Go.Lib.run_append_room_string (P := P) w t u ty e i ht hu hi hsize g out.length cap cs hg ⟨d.toArray⟩ (by rw [hsz]; exact hroom) (by rw [hsz, hcs]; exact hroom)
      rw [hsz] at hr
      refine ⟨_, hr, hroom, ?_, ?_⟩
      · simp only [List.size_toArray, List.length_append, List.length_take, List.length_drop, Array.length_toList, strCells_of, hbl]
        omega
      · rw [strCells_of, htk, List.take_left' (by simp [hbl])]
        simp [bytesV]
    · right
      have holds : ∀ j v, (bytesV out)[j]? = some v → w.cell? ((⟨g, 0, none⟩ : Addr).add j) = some v := fun j v hj => by
        have hadd : (⟨g, 0, none⟩ : Addr).add j = ⟨g, j, none⟩ := by unfold Addr.add; split <;> simp_all
        rw [hadd, World.cell?, hg]
        have hjl : j < out.length := by have := (List.getElem?_eq_some_iff.1 hj).1; rwa [hbl] at this
        rw [← htk, List.getElem?_take_of_lt hjl] at hj
        simpa using hj
      have hr := Go.Lib.run_append_grow_string (P := P) w t u ty e i (.int .u8 0) ht hu hi hz ⟨g, 0, none⟩ out.length cap (bytesV out) (by rw [hsize, hbl]; omega) holds ⟨d.toArray⟩ (by rw [hsz]; omega) (by rw [hsz]; omega) (by rw [hby, hsz]; exact growslice_fits (by omega) (by omega))
      rw [hsz] at hr
      have hgr := hgrown (out.length + d.length) cap hl
      have hrw := hrow (bytesV out) out.length (grownCap w (out.length + d.length) cap e) (hbl out) hgr.1
      exact ⟨_, _, hr, hgr.1, hgr.2, hrw.1, by rw [hrw.2]; simp [bytesV]⟩
/-- a sink's object with other bytes -/
theorem sx_write_room {s : Sx} {lay : SId → Nat} {w : World} {cap : Nat} {cs cs' : Array Value} (h : Lies (s.obj lay) lay w) (hc : s.cur = some (cap, cs)) (out' : List UInt8) :
    GStep (s.obj lay) lay w ((Sx.mk out' (some (cap, cs'))).obj lay) lay ((w.setRow (lay .B) cs').setCell ⟨lay .S, 0, none⟩ (.slice (some ⟨lay .B, 0, none⟩) out'.length cap)) := by
  have hB : w.heap[lay .B]? = some (.cells cs 5 (0, 0)) := h.at_ .B _ (by simp [Sx.obj, hc])
  have hrow : w.setRow (lay .B) cs' = { w with heap := w.heap.setIfInBounds (lay .B) (.cells cs' 5 (0, 0)) } := by
    have hlt := (Array.getElem?_eq_some_iff.1 hB).1
    have hge := (Array.getElem?_eq_some_iff.1 hB).2
    unfold World.setRow
    congr 1
    apply Array.ext_getElem?
    intro j
    rw [Array.getElem?_modify, Array.getElem?_setIfInBounds]
    by_cases e : lay .B = j
    · subst e
      rw [if_pos rfl, if_pos rfl, if_pos hlt, hB]
      rfl
    · rw [if_neg e, if_neg e]
  rw [hrow]
  have h1 := (GStep.refl h).put (i := .B) (o := .cells cs 5 (0, 0)) (o' := .cells cs' 5 (0, 0)) (c3 := fun j => if j = .B then some (.cells cs' 5 (0, 0)) else s.obj lay j) (by simp [Sx.obj, hc]) (fun j => rfl)
  refine h1.set (i := .S) (cs := #[s.val lay]) (ty := 114) (fz := (0, 0)) (by simp [Sx.obj]) 0 _ (fun j => ?_)
  cases j <;> simp [Sx.obj, Sx.val]
theorem sx_write_new {s : Sx} {lay lay' : SId → Nat} {w : World} {cap : Nat} {cs : Array Value} (h : Lies (s.obj lay) lay w) (hl : ∀ j, lay' j = if j = .B then w.heap.size else lay j) (out' : List UInt8) :
    GStep (s.obj lay) lay w ((Sx.mk out' (some (cap, cs))).obj lay') lay' (((w.drew).alloc (.cells cs 5)).setCell ⟨lay .S, 0, none⟩ (.slice (some ⟨w.heap.size, 0, none⟩) out'.length cap)) := by
  have hS : lay' .S = lay .S := by rw [hl, if_neg (by simp)]
  have hB : lay' .B = w.heap.size := by rw [hl, if_pos rfl]
  have h1 := ((GStep.refl h).drew).new (c3 := fun j => if j = .B then some (.cells cs 5 (0, 0)) else s.obj lay j) (lay3 := lay') .B (.cells cs 5 (0, 0)) (fun j => rfl) hl
  rw [← hS, ← hB]
  refine h1.set (i := .S) (cs := #[s.val lay]) (ty := 114) (fz := (0, 0)) (by simp [Sx.obj]) 0 _ (fun j => ?_)
  cases j <;> simp [Sx.obj, Sx.val, hS]
/-- an append, by its run -/
theorem wpList_append_at {P : Program} {ops : Array Oper} {rest : List Oper} {o : Oper} {a : Act} {w w' : World} {Q : Exit → Act → World → Prop} (hgd : o.guard = none) (s x : Operand) (t u : TypeId)
    (ho : o.op = .call { callee := .builtin .append, args := #[s, x], argTypes := #[t, u] }) (v y r : Value) (hs : a.eval s = v) (hx : a.eval x = y)
    (hr : (Builtin.append_ #[t, u] o.type #[v, y]).run P w = .ok r w') (h : wpList P ops Q rest (a.put o.dst r) w') : wpList P ops Q (o :: rest) a w := by
  refine wpList_plain hgd fun K hK => ?_
  unfold Oper.wp execOp
  simp only [ho, resolve, invoke, builtin, Sem.run_bind, Sem.run_pure, Result.andThen_ok, List.map_toArray, List.map_cons, List.map_nil, hs, hx, hr]
  exact hK _ _ h
/-- what a write to the sink leaves -/
def SxW (s : Sx) (lay : SId → Nat) (d : List UInt8) (w w' : World) : Prop :=
  ∃ (s' : Sx) (lay' : SId → Nat), s'.out = s.out ++ d ∧ s'.Ok ∧ lay' .S = lay .S ∧ GStep (s.obj lay) lay w (s'.obj lay') lay' w'
theorem SxW.mk {s : Sx} {lay : SId → Nat} {d : List UInt8} {w w' : World} {s' : Sx} {lay' : SId → Nat} (hst : GStep (s.obj lay) lay w (s'.obj lay') lay' w') (h1 : s'.out = s.out ++ d) (h3 : s'.Ok) (h4 : lay' .S = lay .S) : SxW s lay d w w' := ⟨s', lay', h1, h3, h4, hst⟩
theorem info_u8i : ∃ i, Tryz.prog.info? 5 = some i ∧ i.zero = some (.int .u8 0) ∧ i.size = 1 ∧ i.bytes = 1 := by
  obtain ⟨i0, hi, hz0, hz1, hz2⟩ := info_parts info_u8
  exact ⟨i0, hi, hz0, hz1, hz2⟩
set_option maxHeartbeats 1000000 in
set_option maxRecDepth 100000 in
theorem sinkwrite_any {s lay} (d : List UInt8) (w : World) (h : Lies (s.obj lay) lay w) (hok : s.Ok) (hl : s.out.length + d.length ≤ 1000000) :
    Calls Tryz.prog 165 #[ptrOf (lay .S), .string ⟨d.toArray⟩] w fun e w' => e = .returned (.tuple #[.int .i64 d.length, .int .i64 0]) ∧ SxW s lay d w w' := by
  obtain ⟨i, hi, hz, hsz, hby⟩ := info_u8i
  have hap := fun ty => append_str3 (P := Tryz.prog) (w := w) 112 9 ty 5 i (by kernel_rfl) (by kernel_rfl) hi hz hsz hby d
  have c0 : w.cell? ⟨lay .S, 0, none⟩ = some (s.val lay) := h.cell (i := .S) (cs := #[s.val lay]) (ty := 114) (fz := (0, 0)) rfl rfl
  have f0 : w.frozen? ⟨lay .S, 0, none⟩ = false := h.fz (i := .S) (cs := #[s.val lay]) (ty := 114) rfl 0
  have hSl : lay .S < w.heap.size := h.owns_lt ⟨.S, by simp [Sx.obj], rfl⟩
  have hdl : (d.length : Int) ≤ 1000000 := by omega
  clear hi
  cases hc : s.cur with
  | none =>
    have hv : s.val lay = .slice none 0 0 := by unfold Sx.val; rw [hc]
    have ho : s.out = [] := by have := hok; unfold Sx.Ok at this; rw [hc] at this; exact this
    rw [hv] at c0
    by_cases hd : d = []
    · subst hd
      have hrun := (hap 112).1 rfl
      have hst := (GStep.refl h).set (i := .S) (cs := #[s.val lay]) (ty := 114) (fz := (0, 0)) (c3 := s.obj lay) rfl 0 (.slice none 0 0) (fun j => by cases j <;> simp [Sx.obj, hv])
      have HS := Lib.hid (SxW.mk (d := []) hst (by simp) hok rfl)
      unfold ptrOf at *
      clear hap hst h hok ho hv hc
      have HR := Lib.hid hrun
      clear hrun
      go_enter Tryz.func165, Tryz.ntmps165
      go_wp2_with (refine wpList_append_at rfl _ _ _ _ rfl _ _ _ rfl rfl HR.out ?_)
      go_ret2
      exact ⟨rfl, HS.out⟩
    · obtain ⟨cap, cs, hrun, h1, h2, h3, h4⟩ := (hap 112).2.1 hd (by omega)
      have hst := sx_write_new (cap := cap) (cs := cs) (lay' := fun j => if j = .B then w.heap.size else lay j) h (fun j => rfl) d
      have HS := Lib.hid (SxW.mk (d := d) hst (by rw [ho]; rfl) ⟨h1, h2, h3, h4⟩ (by simp))
      have c1 : (w.drew.alloc (.cells cs 5)).cell? ⟨lay .S, 0, none⟩ = some (.slice none 0 0) := by
        rw [World.cell?_of_block (w := w) (Below.heap_alloc w.drew _ _ hSl)]; exact c0
      have f1 : (w.drew.alloc (.cells cs 5)).frozen? ⟨lay .S, 0, none⟩ = false := by
        rw [World.frozen?_of_block (w := w) (Below.heap_alloc w.drew _ _ hSl)]; exact f0
      unfold ptrOf at *
      clear hap hst h hok ho hv hc h1 h2 h3 h4
      generalize w.drew.alloc (.cells cs 5) = w2 at *
      have HR := Lib.hid hrun
      clear hrun
      go_enter Tryz.func165, Tryz.ntmps165
      go_wp2_with (refine wpList_append_at rfl _ _ _ _ rfl _ _ _ rfl rfl HR.out ?_)
      go_ret2
      exact ⟨rfl, HS.out⟩
  | some p =>
    obtain ⟨cap, cs⟩ := p
    have hv : s.val lay = .slice (some ⟨lay .B, 0, none⟩) s.out.length cap := by unfold Sx.val; rw [hc]
    have hok' := hok
    unfold Sx.Ok at hok'
    rw [hc] at hok'
    obtain ⟨h1, h2, h3, h4⟩ := hok'
    have hB : w.heap[lay .B]? = some (.cells cs 5 (0, 0)) := h.at_ .B _ (by simp [Sx.obj, hc])
    have hBl : lay .B < w.heap.size := (Array.getElem?_eq_some_iff.1 hB).1
    have hne : lay .B ≠ lay .S := fun e => by
      have := h.inj .B .S (by simp [Sx.obj, hc]) (by simp [Sx.obj]) e
      cases this
    rw [hv] at c0
    rcases (hap 112).2.2 (lay .B) cap cs s.out hB h1 h2 h3 h4 hl with ⟨cs', hrun, g1, g2, g3⟩ | ⟨cap', cs', hrun, g1, g1', g2, g3⟩
    · have hst := sx_write_room (cs' := cs') h hc (s.out ++ d)
      rw [List.length_append] at hst
      have HS := Lib.hid (SxW.mk (d := d) hst rfl ⟨by simpa using g1, h2, g2, by simpa [bytesV] using g3⟩ rfl)
      have c1 : (w.setRow (lay .B) cs').cell? ⟨lay .S, 0, none⟩ = some (.slice (some ⟨lay .B, 0, none⟩) s.out.length cap) := by
        rw [World.cell?_of_block (w := w) (setRow_other w _ _ _ (by simpa using Ne.symm hne))]; exact c0
      have f1 : (w.setRow (lay .B) cs').frozen? ⟨lay .S, 0, none⟩ = false := by
        rw [World.frozen?_of_block (w := w) (setRow_other w _ _ _ (by simpa using Ne.symm hne))]; exact f0
      unfold ptrOf at *
      clear hap hst h hok hv hc h1 h2 h3 h4 g1 g2 g3 hB
      generalize w.setRow (lay .B) cs' = w2 at *
      generalize s.out.length = n at *
      have HR := Lib.hid hrun
      clear hrun
      go_enter Tryz.func165, Tryz.ntmps165
      go_wp2_with (refine wpList_append_at rfl _ _ _ _ rfl _ _ _ rfl rfl HR.out ?_)
      go_ret2
      exact ⟨rfl, HS.out⟩
    · have hst := sx_write_new (cap := cap') (cs := cs') (lay' := fun j => if j = .B then w.heap.size else lay j) h (fun j => rfl) (s.out ++ d)
      rw [List.length_append] at hst
      have HS := Lib.hid (SxW.mk (d := d) hst rfl ⟨by simpa using g1, g1', g2, by simpa [bytesV] using g3⟩ (by simp))
      have c1 : (w.drew.alloc (.cells cs' 5)).cell? ⟨lay .S, 0, none⟩ = some (.slice (some ⟨lay .B, 0, none⟩) s.out.length cap) := by
        rw [World.cell?_of_block (w := w) (Below.heap_alloc w.drew _ _ hSl)]; exact c0
      have f1 : (w.drew.alloc (.cells cs' 5)).frozen? ⟨lay .S, 0, none⟩ = false := by
        rw [World.frozen?_of_block (w := w) (Below.heap_alloc w.drew _ _ hSl)]; exact f0
      unfold ptrOf at *
      clear hap hst h hok hv hc h1 h2 h3 h4 g1 g2 g3 hB
      generalize s.out.length = n at *
      generalize w.drew.alloc (.cells cs' 5) = w2 at *
      have HR := Lib.hid hrun
      clear hrun
      go_enter Tryz.func165, Tryz.ntmps165
      go_wp2_with (refine wpList_append_at rfl _ _ _ _ rfl _ _ _ rfl rfl HR.out ?_)
      go_ret2
      exact ⟨rfl, HS.out⟩
end Go.Proofs.YtomjjedgmnkciaaGreatDoor
/- fds: what is open beside a tree and sets: tapes, sinks, files, pipes, by their blocks; all of it together. -/
namespace Go.Proofs.YtomjjedgmnkciaaGreatDoor
open Go.RowKit IntWalk
set_option linter.unusedVariables false
set_option linter.unusedSimpArgs false

/-- what lies in a block: a tape, a sink (its bytes in g), bytes of a sink, the row of sinks, a file, a pipe -/
inductive Po where
  | tape (s : List UInt8)
  | sink (x : Sx) (g : Nat)
  | row (b : Nat)
  | prow
  | file (node at_ flags : Int) (closed : Bool)
  | pipe (l : List UInt8) (r wr : Nat)
  | held (o : Obj)
def slay (b g : Nat) : SId → Nat
  | .S => b
  | .B => g
def fileC (F : Nat) (node at_ flags : Int) (closed : Bool) : Array Value := #[ptrTo F, .int .i64 node, .int .i64 at_, .int .i64 flags, .bool closed]
def PoIs (F : Nat) (pl : Nat → Option Po) (w : World) (b : Nat) : Po → Prop
  | .tape s => w.heap[b]? = some (.cells #[.string ⟨s.toArray⟩] 110 (0, 0)) ∧ s.length ≤ 1000000
  | .sink x g => Lies (x.obj (slay b g)) (slay b g) w ∧ x.Ok ∧ (x.cur ≠ none → pl g = some (.row b))
  | .row _ => b < w.heap.size
  | .prow => b < w.heap.size
  | .file n a f c => w.heap[b]? = some (.cells (fileC F n a f c) 143 (0, 0))
  | .pipe l r wr => PipeSt w b l r wr ∧ r ≤ 9 ∧ wr ≤ 9
  | .held o => w.heap[b]? = some o
def PoolIs (F : Nat) (pl : Nat → Option Po) (w : World) : Prop := ∀ b o, pl b = some o → PoIs F pl w b o
def updP (pl : Nat → Option Po) (b : Nat) (o : Po) : Nat → Option Po := fun c => if c = b then some o else pl c
section
variable {F : Nat} {pl pl' : Nat → Option Po} {w w' : World}
theorem PoIs.lt {b : Nat} {o : Po} (h : PoIs F pl w b o) : b < w.heap.size := by
  cases o with
  | tape s => exact (Array.getElem?_eq_some_iff.1 h.1).1
  | sink x g => exact h.1.lt (i := .S) rfl
  | row c => exact h
  | prow => exact h
  | file n a f c => exact (Array.getElem?_eq_some_iff.1 h).1
  | pipe l r wr => exact PipeSt.lt h.1
  | held o => exact (Array.getElem?_eq_some_iff.1 h).1
theorem PoolIs.lt (h : PoolIs F pl w) {b : Nat} (hb : pl b ≠ none) : b < w.heap.size := by
  cases ho : pl b with
  | none => exact absurd ho hb
  | some o => exact (h b o ho).lt
/-- one thing is kept where its blocks are -/
theorem PoIs.keep {b : Nat} {o : Po} (h : PoIs F pl w b o) (hs : w.heap.size ≤ w'.heap.size) (hb : w'.heap[b]? = w.heap[b]?) (hg : ∀ x g, o = .sink x g → x.cur ≠ none → w'.heap[g]? = w.heap[g]? ∧ pl' g = some (.row b)) : PoIs F pl' w' b o := by
  cases o with
  | tape s => exact ⟨hb.trans h.1, h.2⟩
  | sink x g =>
    obtain ⟨h1, h2, h4⟩ := h
    refine ⟨h1.kept fun i hi => ?_, h2, fun hc => (hg x g rfl hc).2⟩
    cases i with
    | S => exact hb
    | B =>
      refine (hg x g rfl (fun e => hi ?_)).1
      simp [Sx.obj, e]
  | row c => exact Nat.lt_of_lt_of_le h hs
  | prow => exact Nat.lt_of_lt_of_le h hs
  | file n a f c => exact hb.trans h
  | pipe l r wr => exact ⟨PipeSt.keep h.1 hb, h.2⟩
  | held o => exact hb.trans h
theorem PoolIs.keep (h : PoolIs F pl w) (hs : w.heap.size ≤ w'.heap.size) (hk : ∀ b, pl b ≠ none → w'.heap[b]? = w.heap[b]?) : PoolIs F pl w' := fun b o hb =>
  (h b o hb).keep hs (hk b (by rw [hb]; simp)) (fun x g e hc => by
    subst e
    have := (h b _ hb).2.2 hc
    exact ⟨hk g (by rw [this]; simp), this⟩)
/-- one thing is another; bytes of it may be, too -/
theorem PoolIs.turn (h : PoolIs F pl w) (hs : w.heap.size ≤ w'.heap.size) (b : Nat) (o : Po) (hk : ∀ c, pl c ≠ none → c ≠ b → pl c ≠ some (.row b) → w'.heap[c]? = w.heap[c]?) (hnr : ∀ c, pl b ≠ some (.row c))
    (hpl : ∀ c, c ≠ b → pl' c = pl c ∨ (pl c = none ∧ pl' c = some (.row b) ∧ c < w'.heap.size)) (hb : pl' b = some o) (ho : PoIs F pl' w' b o) : PoolIs F pl' w' := fun c p hc => by
  by_cases e : c = b
  · subst e
    rw [hb] at hc
    cases hc
    exact ho
  · rcases hpl c e with q | ⟨q1, q2, q3⟩
    · rw [q] at hc
      have h1 := h c p hc
      cases p with
      | row d => exact Nat.lt_of_lt_of_le h1 hs
      | prow => exact Nat.lt_of_lt_of_le h1 hs
      | sink x g =>
        refine h1.keep hs (hk c (by rw [hc]; simp) e (by rw [hc]; simp)) fun x' g' q' hcur => ?_
        cases q'
        have hl := h1.2.2 hcur
        have hgb : g ≠ b := fun z => hnr c (by rw [← z, hl])
        refine ⟨hk g (by rw [hl]; simp) hgb (by rw [hl]; intro z; cases z; exact e rfl), ?_⟩
        rcases hpl g hgb with r | ⟨r, _⟩
        · rw [r, hl]
        · rw [hl] at r; cases r
      | tape s => exact h1.keep hs (hk c (by rw [hc]; simp) e (by rw [hc]; simp)) (fun x g q => by cases q)
      | file n a f cl => exact h1.keep hs (hk c (by rw [hc]; simp) e (by rw [hc]; simp)) (fun x g q => by cases q)
      | pipe l r wr => exact h1.keep hs (hk c (by rw [hc]; simp) e (by rw [hc]; simp)) (fun x g q => by cases q)
      | held o2 => exact h1.keep hs (hk c (by rw [hc]; simp) e (by rw [hc]; simp)) (fun x g q => by cases q)
    · rw [q2] at hc
      cases hc
      exact q3
end
/-- the row of sinks -/
def SvIs (W0 : World) (pl : Nat → Option Po) (v : Value) (n : Nat) (w : World) : Prop := ∃ xs, w.ownsRow W0.heap.size 111 1 v n xs ∧ ∀ g, v.ownBlock = some g → pl g = some .prow
theorem ownsRow_keep {base : Nat} {t : TypeId} {k : Nat} {v : Value} {n : Nat} {xs : List Value} {w w' : World} (h : w.ownsRow base t k v n xs) (ho : w'.os = w.os) (ht : w'.tape = w.tape) (hu : w'.output = w.output) (hb : ∀ g, v.ownBlock = some g → w'.heap[g]? = w.heap[g]?) : w'.ownsRow base t k v n xs := by
  obtain ⟨hxs, hr⟩ := h
  refine ⟨hxs, ?_⟩
  rcases hr with ⟨rfl, hn⟩ | ⟨g, cap, cur, rfl, hbg, hg, hr⟩
  · exact .inl ⟨rfl, hn⟩
  · exact .inr ⟨g, cap, cur, rfl, hbg, (hb g rfl).trans hg, hr⟩
/-- a tree, sets and what is open for them, and the rest, in a world that began as W0 -/
structure Al (W0 : World) (s : Fs) (fl : FId → Nat) (x : Fx) (xl : XId → Nat) (pl : Nat → Option Po) (ns : Nat) (w : World) : Prop where
  fs : FsIn W0 s fl w
  fx : FxIs x xl w
  po : PoolIs (fl .F) pl w
  fxlow : ∀ k, Owns (x.obj xl) xl k → W0.heap.size ≤ k
  polow : ∀ k, pl k ≠ none → W0.heap.size ≤ k
  ap1 : ∀ k, Owns (s.obj fl) fl k → ¬ Owns (x.obj xl) xl k
  ap2 : ∀ k, pl k ≠ none → ¬ Owns (s.obj fl) fl k
  ap3 : ∀ k, pl k ≠ none → ¬ Owns (x.obj xl) xl k
  top : x.fs = fl .F
  sv : SvIs W0 pl x.sv ns w
section
variable {W0 : World} {s s' : Fs} {fl fl' : FId → Nat} {x x' : Fx} {xl xl' : XId → Nat} {pl pl' : Nat → Option Po} {ns : Nat} {w w' : World}
theorem SvIs.keep {F : Nat} {v : Value} (h : SvIs W0 pl v ns w) {S : Nat → Prop} (ht : Turned S w w') (hpo : PoolIs F pl w) (hS : ∀ g, pl g = some .prow → ¬ S g) (hpl : ∀ g, pl g = some .prow → pl' g = some .prow) : SvIs W0 pl' v ns w' := by
  obtain ⟨xs, h1, h2⟩ := h
  exact ⟨xs, ownsRow_keep h1 ht.os ht.tape ht.output (fun g hg => ht.block g (hpo.lt (by rw [h2 g hg]; simp)) (hS g (h2 g hg))), fun g hg => hpl g (h2 g hg)⟩
theorem Al.stepF (h : Al W0 s fl x xl pl ns w) (hs : Step s fl w s' fl' w') (hw : s'.Whole) (hF : fl' .F = fl .F) : Al W0 s' fl' x xl pl ns w' := by
  have hfx : ∀ k, Owns (x.obj xl) xl k → k < w.heap.size := fun k hk => h.fx.lies.owns_lt hk
  refine ⟨h.fs.step hs hw, ⟨h.fx.lies.turned hs.turned (fun k hk q => h.ap1 k q hk), h.fx.ok⟩, ?_, h.fxlow, h.polow, fun k hk hx => ?_, fun k hk hq => ?_, h.ap3, by rw [hF]; exact h.top, h.sv.keep hs.turned h.po (fun g hg q => h.ap2 g (by rw [hg]; simp) q) (fun _ hg => hg)⟩
  · rw [hF]
    exact h.po.keep hs.turned.size (fun b hb => hs.turned.block b (h.po.lt hb) (h.ap2 b hb))
  · rcases hs.own k hk with q | q
    · exact h.ap1 k q hx
    · have := hfx k hx; omega
  · rcases hs.own k hq with q | q
    · exact h.ap2 k hk q
    · have := h.po.lt hk; omega
theorem Al.stepX (h : Al W0 s fl x xl pl ns w) (hs : XStep x xl w x' xl' w') (hf : x'.fs = x.fs) (hv : x'.sv = x.sv) : Al W0 s fl x' xl' pl ns w' := by
  have hFs : ∀ k, Owns (s.obj fl) fl k → k < w.heap.size := fun k hk => h.fs.is.lies.owns_lt hk
  refine ⟨⟨⟨h.fs.is.lies.turned hs.g.turned (fun k hk q => h.ap1 k hk q), h.fs.is.ok⟩, h.fs.low, below_turned h.fs.below hs.g.turned h.fxlow, h.fs.whole⟩, hs.is, ?_, fun k hk => ?_, h.polow, fun k hk hx => ?_, h.ap2, fun k hk hq => ?_, by rw [hf]; exact h.top, by rw [hv]; exact h.sv.keep hs.g.turned h.po (fun g hg q => h.ap3 g (by rw [hg]; simp) q) (fun _ hg => hg)⟩
  · exact h.po.keep hs.g.turned.size (fun b hb => hs.g.turned.block b (h.po.lt hb) (h.ap3 b hb))
  · rcases hs.g.own k hk with q | q
    · exact h.fxlow k q
    · exact Nat.le_trans h.fs.below.size q
  · rcases hs.g.own k hx with q | q
    · exact h.ap1 k hk q
    · have := hFs k hk; omega
  · rcases hs.g.own k hq with q | q
    · exact h.ap3 k hk q
    · have := h.po.lt hk; omega
/-- the rest is turned -/
theorem Al.stepP (h : Al W0 s fl x xl pl ns w) (ht : Turned (fun k => pl k ≠ none) w w') (hp : PoolIs (fl .F) pl' w') (hn : ∀ k, pl' k ≠ none → pl k ≠ none ∨ w.heap.size ≤ k) (hsv : SvIs W0 pl' x.sv ns w') : Al W0 s fl x xl pl' ns w' := by
  have hFs : ∀ k, Owns (s.obj fl) fl k → k < w.heap.size := fun k hk => h.fs.is.lies.owns_lt hk
  have hfx : ∀ k, Owns (x.obj xl) xl k → k < w.heap.size := fun k hk => h.fx.lies.owns_lt hk
  refine ⟨⟨⟨h.fs.is.lies.turned ht (fun k hk q => h.ap2 k q hk), h.fs.is.ok⟩, h.fs.low, below_turned h.fs.below ht h.polow, h.fs.whole⟩, ⟨h.fx.lies.turned ht (fun k hk q => h.ap3 k q hk), h.fx.ok⟩, hp, h.fxlow, fun k hk => ?_, h.ap1, fun k hk hq => ?_, fun k hk hq => ?_, h.top, hsv⟩
  · rcases hn k hk with q | q
    · exact h.polow k q
    · exact Nat.le_trans h.fs.below.size q
  · rcases hn k hk with q | q
    · exact h.ap2 k q hq
    · have := hFs k hq; omega
  · rcases hn k hk with q | q
    · exact h.ap3 k q hq
    · have := hfx k hq; omega
theorem Al.below (h : Al W0 s fl x xl pl ns w) (hb : Below w.heap.size w w') : Al W0 s fl x xl pl ns w' :=
  h.stepP (Turned.of_below hb) (h.po.keep hb.size (fun b hb' => hb.block b (h.po.lt hb'))) (fun k hk => .inl hk) (h.sv.keep (Turned.of_below hb : Turned (fun _ => False) w w') h.po (fun _ _ q => q) (fun _ hg => hg))
theorem Al.drewN (h : Al W0 s fl x xl pl ns w) (n : Nat) : Al W0 s fl x xl pl ns (w.drewN n) :=
  h.stepP ((Turned.refl _ w).drewN n) (h.po.keep (Nat.le_refl _) (fun b _ => rfl)) (fun k hk => .inl hk) (h.sv.keep ((Turned.refl (fun _ => False) w).drewN n) h.po (fun _ _ q => q) (fun _ hg => hg))
end
end Go.Proofs.YtomjjedgmnkciaaGreatDoor
/- fds: a number is opened for a new thing; which numbers are free. -/
namespace Go.Proofs.YtomjjedgmnkciaaGreatDoor
open Go.RowKit IntWalk
set_option linter.unusedVariables false
set_option linter.unusedSimpArgs false
set_option linter.unnecessarySimpa false

theorem XStep.newO {s0 lay0 w0 s lay w} (h : XStep s0 lay0 w0 s lay w) {k : Nat} (hk : s.op k = none) (v : Value) (lay' : XId → Nat) (hl : ∀ j, lay' j = if j = .O k then w.heap.size else lay j) : XStep s0 lay0 w0 (s.setOp k v 0) lay' (w.alloc (.cells #[v, .int .i64 0] 106)) := by
  have hX : lay' .X = lay .X := by rw [hl, if_neg (by simp)]
  have hne : ∀ i l j, s.zs i = some l → some j ∈ l → j ≠ k := fun i l j hi hj e => by
    obtain ⟨v', n', h'⟩ := h.ok.live i l j hi hj
    rw [e, hk] at h'
    cases h'
  have hsl : ∀ i l, s.zs i = some l → setV lay' l = setV lay l := fun i l hi => by
    unfold setV
    rw [hX]
    congr 1
    apply List.map_congr_left
    intro a ha
    cases a with
    | none => rfl
    | some j => simp only [slotV, hl, XId.O.injEq, hne i l j hi ha, if_false]
  refine ⟨h.g.new (.O k) (.cells #[v, .int .i64 0] 106) (fun j => ?_) hl, ⟨h.ok.len, fun i l j hi hj => ?_⟩, hX.trans h.top⟩
  · rw [Fx.setOp_obj]
    by_cases e : j = .O k
    · rw [if_pos e, if_pos e]
    · rw [if_neg e, if_neg e]
      cases j with
      | X => rfl
      | O i => rfl
      | Z i =>
        simp only [Fx.obj]
        cases hz : s.zs i with
        | none => rfl
        | some l => simp only [hsl i l hz]
  · obtain ⟨v', n', h'⟩ := h.ok.live i l j hi hj
    exact ⟨v', n', by simp [Fx.setOp, hne i l j hi hj, h']⟩
theorem share_zero {s lay} (i : Int) (l : List (Option Nat)) (n k : Nat) (v : Value) (w : World) (h : FxIs s lay w) (hi : s.zs i = some l) (hn : n < 16) (hk : s.op k = some (v, 0)) (hm : 0 ≤ s.many) (hm2 : s.many < 1000000) :
    Calls Tryz.prog 21 #[ptrOf (lay (.Z i)), .int .i64 n, ptrOf (lay (.O k))] w fun e w' => e = .returned (.tuple #[]) ∧ XStep s lay w (((s.setMany (s.many + 1)).setOp k v 1).setZ i (l.set n (some k))) lay w' := by
  have c1 := h.o1 hk
  have f1 := h.of hk 1
  have hn1 : (n : Int) < 16 := by omega
  have hst := (((XStep.refl h).setMany (s.many + 1)).setOp (k := k) (v := v) (m := 0) (by simpa [Fx.setMany] using hk) 1).setZ (i := i) (l := l) (by simpa [Fx.setOp, Fx.setMany] using hi) n (some k) hn (fun k' hk' => by cases hk'; exact ⟨v, 1, by simp [Fx.setOp]⟩)
  have f2 := h.zf hi (1 + n)
  obtain ⟨o3, ho3⟩ : ∃ o, l[n]? = some o := ⟨_, List.getElem?_eq_getElem (by rw [h.ok.len i l hi]; exact hn)⟩
  have c3 := h.slot hi ho3
  have c4 := h.z0 hi
  have c5 := h.x1
  have f5 := h.xf 1
  generalize slotV lay o3 = old at c3
  clear ho3
  have hne : lay (.O k) ≠ lay (.Z i) := h.lies.ne (Fx.obj_o hk) (Fx.obj_z hi) (by simp)
  have hne2 : lay .X ≠ lay (.O k) := h.lies.ne (i := .X) rfl (Fx.obj_o hk) (by simp)
  have hne3 : lay .X ≠ lay (.Z i) := h.lies.ne (i := .X) rfl (Fx.obj_z hi) (by simp)
  simp only [slotV] at hst
  unfold ptrOf at *
  have HS := Lib.hid hst
  clear hst h hi hk
  go_enter Tryz.func21, Tryz.ntmps21
  go_wp2
  go_end0
  exact ⟨rfl, HS.out⟩
/-- sets and what is open, when a number is opened for a new thing -/
def Fx.putS (s : Fx) (i : Int) (l : List (Option Nat)) (n k : Nat) (v : Value) : Fx := (((s.setOp k v 0).setMany (s.many + 1)).setOp k v 1).setZ i (l.set n (some k))
theorem put_new {s lay} (i : Int) (l : List (Option Nat)) (n k : Nat) (vt : TypeId) (vu : Value) (lay' : XId → Nat) (w : World) (h : FxIs s lay w) (hi : s.zs i = some l) (hn : n < 16) (hk : s.op k = none) (hl : ∀ j, lay' j = if j = .O k then w.heap.size else lay j) (hm : 0 ≤ s.many) (hm2 : s.many < 1000000) :
    Calls Tryz.prog 39 #[ptrOf (lay (.Z i)), .int .i64 n, .iface vt vu] w fun e w' => e = .returned (.tuple #[]) ∧ XStep s lay w (s.putS i l n k (.iface vt vu)) lay' w' := by
  have hst := (XStep.refl h).newO hk (.iface vt vu) lay' hl
  have hz : lay' (.Z i) = lay (.Z i) := by rw [hl, if_neg (by simp)]
  have ho : lay' (.O k) = w.heap.size := by rw [hl, if_pos rfl]
  have hsh := Lib.hid (share_zero (lay := lay') i l n k (.iface vt vu) (w.alloc (.cells #[.iface vt vu, .int .i64 0] 106)) hst.is (by simpa [Fx.setOp] using hi) hn (by simp [Fx.setOp]) hm hm2)
  rw [hz, ho] at hsh
  have HS := Lib.hid hst
  unfold ptrOf at *
  clear h hi hk hl hst
  go_enter Tryz.func39, Tryz.ntmps39
  go_wp2_with (go_at_call 21; refine hsh.out.mono ?_; rintro e w' ⟨rfl, h2⟩)
  go_end0
  exact ⟨rfl, HS.out.trans h2⟩
theorem may_open {s lay} (i : Int) (l : List (Option Nat)) (n : Nat) (w : World) (h : FxIs s lay w) (hi : s.zs i = some l) (hn : l[n]? = some none) : Calls Tryz.prog 41 #[ptrOf (lay (.Z i)), .int .i64 n] w fun e w' => e = .returned (.int .i64 0) ∧ w = w' := by
  have c1 := h.slot hi hn
  have hl := h.ok.len i l hi
  have hlt := (List.getElem?_eq_some_iff.1 hn).1
  have hn1 : (n : Int) < 16 := by omega
  simp only [slotV] at c1
  unfold ptrOf at *
  clear h hi hn hl
  go_enter Tryz.func41, Tryz.ntmps41
  go_wp2
  go_ret
  exact ⟨rfl, rfl⟩
theorem may_taken {s lay} (i : Int) (l : List (Option Nat)) (n k : Nat) (w : World) (h : FxIs s lay w) (hi : s.zs i = some l) (hn : l[n]? = some (some k)) : Calls Tryz.prog 41 #[ptrOf (lay (.Z i)), .int .i64 n] w fun e w' => e = .returned (.int .i64 22) ∧ w = w' := by
  have c1 := h.slot hi hn
  have hl := h.ok.len i l hi
  have hlt := (List.getElem?_eq_some_iff.1 hn).1
  have hn1 : (n : Int) < 16 := by omega
  simp only [slotV] at c1
  unfold ptrOf at *
  clear h hi hn hl
  go_enter Tryz.func41, Tryz.ntmps41
  go_wp2
  go_ret
  exact ⟨rfl, rfl⟩
theorem number_far (n : Int) (w : World) (hn : n < 0 ∨ 16 ≤ n) : Calls Tryz.prog 43 #[.int .i64 n] w fun e w' => e = .returned (.bool false) ∧ w = w' := by
  by_cases h0 : n < 0
  · go_enter Tryz.func43, Tryz.ntmps43
    go_wp2
    go_ret
    exact ⟨rfl, rfl⟩
  · have h1 : (0 : Int) ≤ n := by omega
    have h2 : (16 : Int) ≤ n := by omega
    clear hn h0
    go_enter Tryz.func43, Tryz.ntmps43
    go_wp2
    go_ret
    exact ⟨by simp; omega, rfl⟩
theorem may_far (z : Nat) (n : Int) (w : World) (hn : n < 0 ∨ 16 ≤ n) : Calls Tryz.prog 41 #[ptrOf z, .int .i64 n] w fun e w' => e = .returned (.int .i64 28) ∧ w = w' := by
  have HN := Lib.hid (number_far n w hn)
  unfold ptrOf
  clear hn
  go_enter Tryz.func41, Tryz.ntmps41
  go_wp2_with (go_at_call 43; refine HN.out.mono ?_; rintro e w' ⟨rfl, rfl⟩)
  go_ret
  exact ⟨rfl, rfl⟩
theorem at_far (z : Nat) (n : Int) (w : World) (hn : n < 0 ∨ 16 ≤ n) : Calls Tryz.prog 40 #[ptrOf z, .int .i64 n] w fun e w' => e = .returned (.tuple #[.pointer none, .int .i64 28]) ∧ w = w' := by
  have HN := Lib.hid (number_far n w hn)
  unfold ptrOf
  clear hn
  go_enter Tryz.func40, Tryz.ntmps40
  go_wp2_with (go_at_call 43; refine HN.out.mono ?_; rintro e w' ⟨rfl, rfl⟩)
  go_ret2
  exact ⟨rfl, rfl⟩
end Go.Proofs.YtomjjedgmnkciaaGreatDoor
/- fds, plain: what is open and in how many numbers; how a call turns that. No program's text. -/
namespace Go.Proofs.YtomjjedgmnkciaaGreatDoor
open Go.RowKit IntWalk
set_option linter.unusedVariables false
set_option linter.unusedSimpArgs false

inductive Th where
  | tape (b : Nat)
  | sink (b : Nat)
  | file (b : Nat) (node : Int)
  | pend (b : Nat) (wr : Bool)
def Th.val : Th → Value
  | .tape b => .iface 108 (ptrOf b)
  | .sink b => .iface 111 (ptrOf b)
  | .file b _ => .iface 115 (ptrOf b)
  | .pend b wr => .iface 99 (.agg #[ptrOf b, .bool wr])
def Th.isAt (t : Th) (i : Int) : Bool := match t with
  | .file _ n => decide (n = i)
  | _ => false
def Th.blk : Th → Option Nat
  | .file b _ => some b
  | _ => none
/-- a thing that is open is in the pool -/
def ThOk (pl : Nat → Option Po) : Th → Prop
  | .tape b => ∃ s, pl b = some (.tape s)
  | .sink b => ∃ x g, pl b = some (.sink x g)
  | .file b n => ∃ a f : Int, 0 ≤ a ∧ a ≤ 4096 ∧ pl b = some (.file n a f false) ∧ 2 ≤ n
  | .pend b _ => ∃ l r wr, pl b = some (.pipe l r wr)
def users (l : List (Nat × Th)) (i : Int) : Nat := (l.filter fun p => p.2.isAt i).length
/-- in how many numbers -/
def cntS (sets : List (List (Option Nat))) (k : Nat) : Nat := (sets.map fun l => l.count (some k)).sum
theorem count_set {l : List (Option Nat)} {n : Nat} {o : Option Nat} (h : l[n]? = some o) (o' a : Option Nat) : (l.set n o').count a + (if o = a then 1 else 0) = l.count a + (if o' = a then 1 else 0) := by
  induction l generalizing n with
  | nil => simp at h
  | cons b l ih =>
    cases n with
    | zero =>
      simp at h
      subst h
      rw [List.set_cons_zero, List.count_cons, List.count_cons]
      simp only [beq_iff_eq]
      omega
    | succ n =>
      have := ih (n := n) (by simpa using h)
      rw [List.set_cons_succ, List.count_cons, List.count_cons]
      omega
theorem cntS_set {sets : List (List (Option Nat))} {j : Nat} {l : List (Option Nat)} (h : sets[j]? = some l) (l' : List (Option Nat)) (k : Nat) : cntS (sets.set j l') k + l.count (some k) = cntS sets k + l'.count (some k) := by
  induction sets generalizing j with
  | nil => simp at h
  | cons b sets ih =>
    cases j with
    | zero =>
      simp at h
      subst h
      simp only [List.set_cons_zero, cntS, List.map_cons, List.sum_cons]
      omega
    | succ j =>
      have := ih (j := j) (by simpa using h)
      unfold cntS at this ⊢
      simp only [List.set_cons_succ, List.map_cons, List.sum_cons]
      omega
theorem cntS_slot {sets : List (List (Option Nat))} {j n : Nat} {l : List (Option Nat)} {o : Option Nat} (h : sets[j]? = some l) (hn : l[n]? = some o) (o' : Option Nat) (k : Nat) : cntS (sets.set j (l.set n o')) k + (if o = some k then 1 else 0) = cntS sets k + (if o' = some k then 1 else 0) := by
  have h1 := cntS_set h (l.set n o') k
  have h2 := count_set hn o' (some k)
  omega
theorem cntS_pos {sets : List (List (Option Nat))} {l : List (Option Nat)} {k : Nat} (hl : l ∈ sets) (hk : some k ∈ l) : 0 < cntS sets k := by
  induction sets with
  | nil => cases hl
  | cons b sets ih =>
    simp only [cntS, List.map_cons, List.sum_cons] at ih ⊢
    rcases List.mem_cons.1 hl with rfl | q
    · have := List.count_pos_iff.2 hk; omega
    · have := ih q; omega
theorem cntS_zero {sets : List (List (Option Nat))} {k : Nat} (h : ∀ l ∈ sets, some k ∉ l) : cntS sets k = 0 := by
  induction sets with
  | nil => rfl
  | cons b sets ih =>
    simp only [cntS, List.map_cons, List.sum_cons] at ih ⊢
    rw [ih (fun l hl => h l (by simp [hl])), List.count_eq_zero.2 (h b (by simp))]
theorem cntS_le {sets : List (List (Option Nat))} (h : ∀ l ∈ sets, l.length = 16) (k : Nat) : cntS sets k ≤ 16 * sets.length := by
  induction sets with
  | nil => exact Nat.le_refl _
  | cons b sets ih =>
    have h1 := ih (fun l hl => h l (by simp [hl]))
    have h2 : b.count (some k) ≤ b.length := List.count_le_length
    have h3 := h b (by simp)
    simp only [cntS, List.map_cons, List.sum_cons, List.length_cons] at h1 ⊢
    omega
theorem cntS_add (sets : List (List (Option Nat))) (l : List (Option Nat)) (k : Nat) : cntS (sets ++ [l]) k = cntS sets k + l.count (some k) := by
  simp [cntS]
structure Gh where
  live : List (Nat × Th)
  sets : List (List (Option Nat))
  nk : Nat
structure Lk (g : Gh) (s : Fs) (x : Fx) (pl : Nat → Option Po) : Prop where
  zs : ∀ j : Int, x.zs j = if 0 ≤ j then g.sets[j.toNat]? else none
  l16 : ∀ l ∈ g.sets, l.length = 16
  live : ∀ p ∈ g.live, x.op p.1 = some (p.2.val, (cntS g.sets p.1 : Int)) ∧ 0 < cntS g.sets p.1
  nope : ∀ k, g.nk ≤ k → x.op k = none
  used : ∀ l ∈ g.sets, ∀ k, some k ∈ l → ∃ t, (k, t) ∈ g.live
  keys : (g.live.map (·.1)).Nodup
  files : (g.live.filterMap fun p => p.2.blk).Nodup
  things : ∀ p ∈ g.live, ThOk pl p.2
  many : x.many = g.live.length
  tidy : Tidy s (users g.live)
  sets : g.sets.length ≤ 200
section
variable {g : Gh} {s s' : Fs} {x : Fx} {pl pl' : Nat → Option Po}
theorem Lk.z (h : Lk g s x pl) {j : Nat} {l : List (Option Nat)} (hj : g.sets[j]? = some l) : x.zs (j : Int) = some l := by
  rw [h.zs, if_pos (by omega), Int.toNat_natCast, hj]
theorem Lk.lt (h : Lk g s x pl) {p : Nat × Th} (hp : p ∈ g.live) : p.1 < g.nk := by
  rcases Nat.lt_or_ge p.1 g.nk with q | q
  · exact q
  · have := h.nope _ q
    rw [(h.live p hp).1] at this
    cases this
theorem Lk.cnt_le (h : Lk g s x pl) (k : Nat) : cntS g.sets k ≤ 3200 := by
  have := cntS_le h.l16 k
  have := h.sets
  omega
/-- no more things are open than there are numbers -/
theorem nodup_sub {l m : List Nat} (hl : l.Nodup) (hs : ∀ a ∈ l, a ∈ m) : l.length ≤ m.length := by
  induction l generalizing m with
  | nil => simp
  | cons a l ih =>
    rw [List.nodup_cons] at hl
    have ha := hs a (by simp)
    have := ih hl.2 (m := m.erase a) (fun b hb => (List.mem_erase_of_ne (by rintro rfl; exact hl.1 hb)).2 (hs b (by simp [hb])))
    rw [List.length_erase_of_mem ha] at this
    have := List.length_pos_of_mem ha
    simp
    omega
theorem flat_len16 : ∀ {sets : List (List (Option Nat))}, (∀ l ∈ sets, l.length = 16) → (sets.flatMap fun l => l.filterMap id).length ≤ 16 * sets.length
  | [], _ => by simp
  | l :: sets, h => by
    have h1 := flat_len16 (sets := sets) (fun l hl => h l (by simp [hl]))
    have h2 : (l.filterMap id).length ≤ l.length := List.length_filterMap_le _ _
    have h3 := h l (by simp)
    simp only [List.flatMap_cons, List.length_append, List.length_cons] at h1 ⊢
    omega
theorem Lk.many_le (h : Lk g s x pl) : g.live.length ≤ 16 * g.sets.length := by
  have := nodup_sub (l := g.live.map (·.1)) (m := g.sets.flatMap fun l => l.filterMap id) h.keys (fun k hk => by
    obtain ⟨p, hp, rfl⟩ := List.mem_map.1 hk
    have hpos := (h.live p hp).2
    by_cases q : ∃ l ∈ g.sets, some p.1 ∈ l
    · obtain ⟨l, hl, hm⟩ := q
      exact List.mem_flatMap.2 ⟨l, hl, List.mem_filterMap.2 ⟨some p.1, hm, rfl⟩⟩
    · rw [cntS_zero (fun l hl hm => q ⟨l, hl, hm⟩)] at hpos
      omega)
  rw [List.length_map] at this
  exact Nat.le_trans this (flat_len16 h.l16)
theorem users_le (l : List (Nat × Th)) (i : Int) : users l i ≤ l.length := List.length_filter_le _ _
theorem Lk.users_lt (h : Lk g s x pl) (i : Int) : users g.live i < 100000 := by
  have h1 := users_le g.live i
  have h2 := h.many_le
  have h3 := h.sets
  omega
theorem users_add (l : List (Nat × Th)) (k : Nat) (t : Th) (i : Int) : users (l ++ [(k, t)]) i = users l i + (if t.isAt i then 1 else 0) := by
  unfold users
  rw [List.filter_append, List.length_append]
  by_cases e : t.isAt i = true <;> simp [e]
theorem mem_key {l : List (Nat × Th)} (hn : (l.map (·.1)).Nodup) {k : Nat} {t t' : Th} (h : (k, t) ∈ l) (h' : (k, t') ∈ l) : t = t' := by
  have := nodup_f (f := fun p : Nat × Th => p.1) hn h h' rfl
  cases this; rfl
/-- other bytes, another tree -/
theorem Lk.turn (h : Lk g s x pl) (hp : ∀ p ∈ g.live, ThOk pl' p.2) (ht : Tidy s' (users g.live)) : Lk g s' x pl' :=
  ⟨h.zs, h.l16, h.live, h.nope, h.used, h.keys, h.files, hp, h.many, ht, h.sets⟩
theorem set_used {sets : List (List (Option Nat))} {j n : Nat} {l l' : List (Option Nat)} {o : Option Nat} {k : Nat} (h : l' ∈ sets.set j (l.set n o)) (hj : sets[j]? = some l) (hk : some k ∈ l') : (o = some k) ∨ ∃ l2 ∈ sets, some k ∈ l2 := by
  rcases List.mem_or_eq_of_mem_set h with q | q
  · exact .inr ⟨l', q, hk⟩
  · subst q
    rcases List.mem_or_eq_of_mem_set hk with z | z
    · exact .inr ⟨l, List.mem_of_getElem? hj, z⟩
    · exact .inl z.symm
theorem set_16 {sets : List (List (Option Nat))} {j n : Nat} {l : List (Option Nat)} {o : Option Nat} (h : ∀ l ∈ sets, l.length = 16) (hj : sets[j]? = some l) : ∀ l' ∈ sets.set j (l.set n o), l'.length = 16 := fun l' hl => by
  rcases List.mem_or_eq_of_mem_set hl with q | q
  · exact h l' q
  · rw [q, List.length_set]; exact h l (List.mem_of_getElem? hj)
theorem zs_set {sets : List (List (Option Nat))} {j : Nat} {l l' : List (Option Nat)} {zs : Int → Option (List (Option Nat))} (h : ∀ j : Int, zs j = if 0 ≤ j then sets[j.toNat]? else none) (hj : sets[j]? = some l) (i : Int) : (if i = (j : Int) then some l' else zs i) = if 0 ≤ i then (sets.set j l')[i.toNat]? else none := by
  have hlt := (List.getElem?_eq_some_iff.1 hj).1
  by_cases e : i = (j : Int)
  · subst e
    rw [if_pos rfl, if_pos (by omega), Int.toNat_natCast, List.getElem?_set, if_pos rfl, if_pos hlt]
  · rw [if_neg e, h]
    by_cases p : 0 ≤ i
    · rw [if_pos p, if_pos p, List.getElem?_set, if_neg (by omega)]
    · rw [if_neg p, if_neg p]
/-- a number is opened for a new thing -/
def Gh.put (g : Gh) (j : Nat) (l : List (Option Nat)) (n : Nat) (t : Th) : Gh := ⟨g.live ++ [(g.nk, t)], g.sets.set j (l.set n (some g.nk)), g.nk + 1⟩
theorem Lk.put (h : Lk g s x pl) {j n : Nat} {l : List (Option Nat)} (hj : g.sets[j]? = some l) (hn : l[n]? = some none) (t : Th) (hp : ∀ p ∈ g.live, ThOk pl' p.2) (ht : ThOk pl' t) (hb : ∀ b, t.blk = some b → ∀ p ∈ g.live, p.2.blk ≠ some b) (hs : Tidy s' (users (g.live ++ [(g.nk, t)]))) :
    Lk (g.put j l n t) s' (x.putS j l n g.nk t.val) pl' := by
  have hnew : ∀ l2 ∈ g.sets, some g.nk ∉ l2 := fun l2 hl2 hm => by
    obtain ⟨t', ht'⟩ := h.used l2 hl2 _ hm
    have := h.lt ht'
    dsimp only at this
    omega
  have hc : ∀ k, cntS (g.sets.set j (l.set n (some g.nk))) k = cntS g.sets k + (if g.nk = k then 1 else 0) := fun k => by
    have := cntS_slot hj hn (some g.nk) k
    simp only [reduceCtorEq, if_false, Option.some.injEq, Nat.add_zero] at this
    exact this
  refine ⟨fun i => ?_, set_16 h.l16 hj, fun p hp' => ?_, fun k hk => ?_, fun l' hl' k hk => ?_, ?_, ?_, fun p hp' => ?_, ?_, hs, by show (g.sets.set _ _).length ≤ 200; rw [List.length_set]; exact h.sets⟩
  · show (if i = (j : Int) then some (l.set n (some g.nk)) else x.zs i) = _
    exact zs_set h.zs hj i
  · show (if p.1 = g.nk then some (t.val, (1 : Int)) else if p.1 = g.nk then some (t.val, 0) else x.op p.1) = some (p.2.val, ((cntS (g.sets.set j (l.set n (some g.nk))) p.1 : Nat) : Int)) ∧ 0 < cntS (g.sets.set j (l.set n (some g.nk))) p.1
    rw [hc]
    have hp2 : p ∈ g.live ++ [(g.nk, t)] := hp'
    rcases List.mem_append.1 hp2 with q | q
    · have hne : p.1 ≠ g.nk := by have := h.lt q; omega
      rw [if_neg hne, if_neg hne, if_neg (Ne.symm hne), Nat.add_zero]
      exact h.live p q
    · simp only [List.mem_singleton] at q
      subst q
      rw [if_pos rfl, if_pos rfl, cntS_zero hnew]
      exact ⟨rfl, by omega⟩
  · show (if k = g.nk then some (t.val, (1 : Int)) else if k = g.nk then some (t.val, 0) else x.op k) = none
    have hk' : g.nk + 1 ≤ k := hk
    rw [if_neg (by omega), if_neg (by omega)]
    exact h.nope k (by omega)
  · show ∃ t', (k, t') ∈ g.live ++ [(g.nk, t)]
    rcases set_used hl' hj hk with q | ⟨l2, h2, h3⟩
    · cases q; exact ⟨t, by simp⟩
    · obtain ⟨t', ht'⟩ := h.used l2 h2 k h3
      exact ⟨t', by simp [ht']⟩
  · show ((g.live ++ [(g.nk, t)]).map (·.1)).Nodup
    rw [List.map_append, List.nodup_append]
    refine ⟨h.keys, by simp, fun a ha b hb' e => ?_⟩
    simp only [List.map_cons, List.map_nil, List.mem_singleton] at hb'
    obtain ⟨p, hp2, rfl⟩ := List.mem_map.1 ha
    have := h.lt hp2
    omega
  · show ((g.live ++ [(g.nk, t)]).filterMap fun p => p.2.blk).Nodup
    rw [List.filterMap_append, List.nodup_append]
    refine ⟨h.files, by cases hbk : t.blk <;> simp [hbk], fun a ha b hb' e => ?_⟩
    obtain ⟨p, hp2, he⟩ := List.mem_filterMap.1 ha
    have : t.blk = some b := by
      cases hbk : t.blk with
      | none => simp [hbk] at hb'
      | some c => simp [hbk] at hb'; rw [hb']
    exact hb b this p hp2 (by rw [he, e])
  · have hp2 : p ∈ g.live ++ [(g.nk, t)] := hp'
    rcases List.mem_append.1 hp2 with q | q
    · exact hp p q
    · simp only [List.mem_singleton] at q; subst q; exact ht
  · show x.many + 1 = ((g.live ++ [(g.nk, t)]).length : Int)
    rw [h.many, List.length_append]
    simp
/-- a number is what another one is -/
theorem Lk.share (h : Lk g s x pl) {j n k : Nat} {l : List (Option Nat)} {t : Th} (hj : g.sets[j]? = some l) (hn : l[n]? = some none) (hk : (k, t) ∈ g.live) :
    Lk ⟨g.live, g.sets.set j (l.set n (some k)), g.nk⟩ s ((x.setOp k t.val ((cntS g.sets k : Int) + 1)).setZ j (l.set n (some k))) pl := by
  have hc : ∀ i, cntS (g.sets.set j (l.set n (some k))) i = cntS g.sets i + (if k = i then 1 else 0) := fun i => by
    have := cntS_slot hj hn (some k) i
    simp only [reduceCtorEq, if_false, Option.some.injEq, Nat.add_zero] at this
    exact this
  refine ⟨fun i => zs_set h.zs hj i, set_16 h.l16 hj, fun p hp => ?_, fun i hi => ?_, fun l' hl' i hi => ?_, h.keys, h.files, h.things, h.many, h.tidy, by show (g.sets.set _ _).length ≤ 200; rw [List.length_set]; exact h.sets⟩
  · show (if p.1 = k then some (t.val, ((cntS g.sets k : Int) + 1)) else x.op p.1) = some (p.2.val, ((cntS (g.sets.set j (l.set n (some k))) p.1 : Nat) : Int)) ∧ 0 < cntS (g.sets.set j (l.set n (some k))) p.1
    rw [hc]
    obtain ⟨h1, h2⟩ := h.live p hp
    by_cases e : p.1 = k
    · have ht : p.2 = t := mem_key h.keys (k := k) (by rw [← e]; exact hp) hk
      rw [if_pos e, if_pos e.symm, ht, e]
      exact ⟨by simp, by omega⟩
    · rw [if_neg e, if_neg (Ne.symm e)]
      exact ⟨h1, by omega⟩
  · show (if i = k then some (t.val, ((cntS g.sets k : Int) + 1)) else x.op i) = none
    have := h.lt hk
    rw [if_neg (by have hi' : g.nk ≤ i := hi; dsimp only at this; omega)]
    exact h.nope i hi
  · rcases set_used hl' hj hi with q | ⟨l2, h2, h3⟩
    · cases q; exact ⟨t, hk⟩
    · exact h.used l2 h2 i h3
/-- a number is shut, others have what it had -/
theorem Lk.less (h : Lk g s x pl) {j n k : Nat} {l : List (Option Nat)} {t : Th} (hj : g.sets[j]? = some l) (hn : l[n]? = some (some k)) (hk : (k, t) ∈ g.live) (hc1 : 1 < cntS g.sets k) :
    Lk ⟨g.live, g.sets.set j (l.set n none), g.nk⟩ s ((x.setZ j (l.set n none)).setOp k t.val ((cntS g.sets k : Int) - 1)) pl := by
  have hc : ∀ i, cntS (g.sets.set j (l.set n none)) i + (if k = i then 1 else 0) = cntS g.sets i := fun i => by
    have := cntS_slot hj hn none i
    simp only [reduceCtorEq, if_false, Option.some.injEq, Nat.add_zero] at this
    exact this
  refine ⟨fun i => zs_set h.zs hj i, set_16 h.l16 hj, fun p hp => ?_, fun i hi => ?_, fun l' hl' i hi => ?_, h.keys, h.files, h.things, h.many, h.tidy, by show (g.sets.set _ _).length ≤ 200; rw [List.length_set]; exact h.sets⟩
  · show (if p.1 = k then some (t.val, ((cntS g.sets k : Int) - 1)) else x.op p.1) = some (p.2.val, ((cntS (g.sets.set j (l.set n none)) p.1 : Nat) : Int)) ∧ 0 < cntS (g.sets.set j (l.set n none)) p.1
    have hcp := hc p.1
    obtain ⟨h1, h2⟩ := h.live p hp
    by_cases e : p.1 = k
    · have ht : p.2 = t := mem_key h.keys (k := k) (by rw [← e]; exact hp) hk
      rw [if_pos e, ht, ← e]
      rw [if_pos e.symm] at hcp
      rw [← e] at hc1
      refine ⟨?_, by omega⟩
      congr 2
      omega
    · rw [if_neg e]
      rw [if_neg (Ne.symm e), Nat.add_zero] at hcp
      rw [hcp]
      exact ⟨h1, h2⟩
  · show (if i = k then some (t.val, ((cntS g.sets k : Int) - 1)) else x.op i) = none
    have := h.lt hk
    rw [if_neg (by have hi' : g.nk ≤ i := hi; dsimp only at this; omega)]
    exact h.nope i hi
  · rcases set_used hl' hj hi with q | ⟨l2, h2, h3⟩
    · cases q
    · exact h.used l2 h2 i h3
theorem users_drop {l : List (Nat × Th)} {k : Nat} {t : Th} (hn : (l.map (·.1)).Nodup) (hk : (k, t) ∈ l) (i : Int) : users (l.filter fun p => decide (p.1 ≠ k)) i + (if t.isAt i then 1 else 0) = users l i := by
  induction l with
  | nil => cases hk
  | cons a l ih =>
    rw [List.map_cons, List.nodup_cons] at hn
    unfold users at ih ⊢
    rcases List.mem_cons.1 hk with q | q
    · subst q
      have hself : l.filter (fun p => decide (p.1 ≠ k)) = l := List.filter_eq_self.2 fun p hp => by
        simp only [decide_eq_true_eq]
        intro e
        exact hn.1 (by show k ∈ _; rw [← e]; exact List.mem_map_of_mem (f := (·.1)) hp)
      rw [List.filter_cons_of_neg (by simp), hself, List.filter_cons]
      cases t.isAt i <;> simp
    · have hne : a.1 ≠ k := fun e => hn.1 (by rw [e]; exact List.mem_map_of_mem (f := (·.1)) q)
      rw [List.filter_cons_of_pos (by simpa using hne)]
      have := ih hn.2 q
      by_cases hA : a.2.isAt i = true
      · rw [List.filter_cons_of_pos (by exact hA), List.filter_cons_of_pos (by exact hA), List.length_cons, List.length_cons]; omega
      · rw [List.filter_cons_of_neg (by exact hA), List.filter_cons_of_neg (by exact hA)]; exact this
theorem length_drop1 {l : List (Nat × Th)} {k : Nat} {t : Th} (hn : (l.map (·.1)).Nodup) (hk : (k, t) ∈ l) : (l.filter fun p => decide (p.1 ≠ k)).length + 1 = l.length := by
  induction l with
  | nil => cases hk
  | cons a l ih =>
    rw [List.map_cons, List.nodup_cons] at hn
    rcases List.mem_cons.1 hk with q | q
    · subst q
      have hself : l.filter (fun p => decide (p.1 ≠ k)) = l := List.filter_eq_self.2 fun p hp => by
        simp only [decide_eq_true_eq]
        intro e
        exact hn.1 (by show k ∈ _; rw [← e]; exact List.mem_map_of_mem (f := (·.1)) hp)
      rw [List.filter_cons_of_neg (by simp), hself, List.length_cons]
    · have hne : a.1 ≠ k := fun e => hn.1 (by rw [e]; exact List.mem_map_of_mem (f := (·.1)) q)
      rw [List.filter_cons_of_pos (by simpa using hne), List.length_cons, List.length_cons, ih hn.2 q]
/-- the last number of a thing is shut -/
def Gh.last (g : Gh) (j : Nat) (l : List (Option Nat)) (n k : Nat) : Gh := ⟨g.live.filter fun p => decide (p.1 ≠ k), g.sets.set j (l.set n none), g.nk⟩
theorem Lk.last (h : Lk g s x pl) {j n k : Nat} {l : List (Option Nat)} {t : Th} (hj : g.sets[j]? = some l) (hn : l[n]? = some (some k)) (hk : (k, t) ∈ g.live) (hc1 : cntS g.sets k = 1) (hp : ∀ p ∈ g.live, p.1 ≠ k → ThOk pl' p.2) (hs : Tidy s' (users (g.live.filter fun p => decide (p.1 ≠ k)))) :
    Lk (g.last j l n k) s' (((x.setZ j (l.set n none)).setOp k t.val 0).setMany (x.many - 1)) pl' := by
  have hc : ∀ i, cntS (g.sets.set j (l.set n none)) i + (if k = i then 1 else 0) = cntS g.sets i := fun i => by
    have := cntS_slot hj hn none i
    simp only [reduceCtorEq, if_false, Option.some.injEq, Nat.add_zero] at this
    exact this
  have hmem : ∀ p, p ∈ (g.last j l n k).live → p ∈ g.live ∧ p.1 ≠ k := fun p hp => by
    obtain ⟨a, b⟩ := List.mem_filter.1 hp
    exact ⟨a, by simpa using b⟩
  refine ⟨fun i => zs_set h.zs hj i, set_16 h.l16 hj, fun p hp => ?_, fun i hi => ?_, fun l' hl' i hi => ?_, h.keys.sublist (List.filter_sublist.map _), h.files.sublist (List.filter_sublist.filterMap _), fun p hp' => hp p (hmem p hp').1 (hmem p hp').2, ?_, hs, by show (g.sets.set _ _).length ≤ 200; rw [List.length_set]; exact h.sets⟩
  · show (if p.1 = k then some (t.val, (0 : Int)) else x.op p.1) = some (p.2.val, ((cntS (g.sets.set j (l.set n none)) p.1 : Nat) : Int)) ∧ 0 < cntS (g.sets.set j (l.set n none)) p.1
    obtain ⟨h0, e⟩ := hmem p hp
    have hcp := hc p.1
    rw [if_neg e]
    rw [if_neg (Ne.symm e), Nat.add_zero] at hcp
    rw [hcp]
    exact h.live p h0
  · show (if i = k then some (t.val, (0 : Int)) else x.op i) = none
    have := h.lt hk
    rw [if_neg (by have hi' : g.nk ≤ i := hi; dsimp only at this; omega)]
    exact h.nope i hi
  · have hpos := cntS_pos hl' hi
    have hcp := hc i
    rcases set_used hl' hj hi with q | ⟨l2, h2, h3⟩
    · cases q
    · obtain ⟨t', ht'⟩ := h.used l2 h2 i h3
      refine ⟨t', List.mem_filter.2 ⟨ht', ?_⟩⟩
      simp only [decide_eq_true_eq]
      intro e
      have hcp' : cntS (g.sets.set j (l.set n Option.none)) i + (if k = i then 1 else 0) = cntS g.sets i := hcp
      rw [if_pos e.symm, e, hc1] at hcp'
      have hpos' : 0 < cntS (g.sets.set j (l.set n Option.none)) i := hpos
      rw [e] at hpos'
      omega
  · show x.many - 1 = ((g.live.filter fun p => decide (p.1 ≠ k)).length : Int)
    have := length_drop1 h.keys hk
    rw [h.many]
    omega
/-- a set more, with the same numbers -/
theorem Lk.fork (h : Lk g s x pl) {j : Nat} {l : List (Option Nat)} (hj : g.sets[j]? = some l) (hlen : g.sets.length < 200) : Lk ⟨g.live, g.sets ++ [l], g.nk⟩ s (x.forkS (g.sets.length : Int) l 16) pl := by
  have h16 := h.l16 l (List.mem_of_getElem? hj)
  have htk : l.take 16 = l := List.take_of_length_le (by omega)
  refine ⟨fun i => ?_, fun l' hl' => ?_, fun p hp => ?_, fun i hi => ?_, fun l' hl' i hi => ?_, h.keys, h.files, h.things, h.many, h.tidy, by simp; omega⟩
  · show (if i = (g.sets.length : Int) then some (l.take 16 ++ List.replicate (16 - 16) none) else x.zs i) = if 0 ≤ i then (g.sets ++ [l])[i.toNat]? else none
    by_cases e : i = (g.sets.length : Int)
    · subst e
      rw [if_pos rfl, if_pos (by omega), Int.toNat_natCast, htk]
      simp
    · rw [if_neg e, h.zs]
      by_cases p : 0 ≤ i
      · rw [if_pos p, if_pos p]
        rcases Nat.lt_or_ge i.toNat g.sets.length with q | q
        · rw [List.getElem?_append_left q]
        · rw [List.getElem?_eq_none q, List.getElem?_eq_none (by simp; omega)]
      · rw [if_neg p, if_neg p]
  · rcases List.mem_append.1 hl' with q | q
    · exact h.l16 l' q
    · simp only [List.mem_singleton] at q; rw [q]; exact h16
  · show ((x.op p.1).map fun q => (q.1, q.2 + (((l.take 16).count (some p.1) : Nat) : Int))) = some (p.2.val, ((cntS (g.sets ++ [l]) p.1 : Nat) : Int)) ∧ 0 < cntS (g.sets ++ [l]) p.1
    obtain ⟨h1, h2⟩ := h.live p hp
    rw [h1, htk, cntS_add]
    exact ⟨by simp, by omega⟩
  · show ((x.op i).map fun q => (q.1, q.2 + (((l.take 16).count (some i) : Nat) : Int))) = none
    rw [h.nope i hi]; rfl
  · rcases List.mem_append.1 hl' with q | q
    · exact h.used l' q i hi
    · simp only [List.mem_singleton] at q; subst q; exact h.used l' (List.mem_of_getElem? hj) i hi
end
end Go.Proofs.YtomjjedgmnkciaaGreatDoor
/- fds: the whole of it from call to call; a tape. -/
namespace Go.Proofs.YtomjjedgmnkciaaGreatDoor
open Go.RowKit IntWalk
set_option linter.unusedVariables false
set_option linter.unusedSimpArgs false

/-- sinks' bytes within bounds; blocks that are held as they are -/
def SoOk (N : Nat) (H : List (Nat × Obj)) (pl : Nat → Option Po) : Prop := (∀ b y r, pl b = some (.sink y r) → y.out.length ≤ 500 * N) ∧ ∀ p ∈ H, pl p.1 = some (.held p.2)
theorem SoOk.mono {N N' : Nat} {H : List (Nat × Obj)} {pl : Nat → Option Po} (h : SoOk N H pl) (hN : N ≤ N') : SoOk N' H pl := ⟨fun b y r hb => Nat.le_trans (h.1 b y r hb) (Nat.mul_le_mul_left _ hN), h.2⟩
/-- one thing is new, or another -/
theorem SoOk.upd {N : Nat} {H : List (Nat × Obj)} {pl : Nat → Option Po} (h : SoOk N H pl) {b : Nat} {o : Po} (ho : ∀ y r, o = .sink y r → y.out.length ≤ 500 * N) (hb : ∀ o', pl b ≠ some (.held o')) : SoOk N H (updP pl b o) := by
  refine ⟨fun c y r hc => ?_, fun p hp => ?_⟩
  · unfold updP at hc
    by_cases e : c = b
    · rw [if_pos e] at hc; cases hc; exact ho y r rfl
    · rw [if_neg e] at hc; exact h.1 c y r hc
  · have := h.2 p hp
    unfold updP
    rw [if_neg (by rintro rfl; exact hb _ this)]
    exact this
/-- all that is open, behind N calls: sets at the blocks zp -/
structure St0 (W0 : World) (zp : List Nat) (xp fp N : Nat) (H : List (Nat × Obj)) (g : Gh) (s : Fs) (fl : FId → Nat) (x : Fx) (xl : XId → Nat) (pl : Nat → Option Po) (ns : Nat) (w : World) : Prop where
  al : Al W0 s fl x xl pl ns w
  lk : Lk g s x pl
  fF : fl .F = fp
  xX : xl .X = xp
  zn : zp.length = g.sets.length
  zl : ∀ (j b : Nat), zp[j]? = some b → xl (.Z (j : Int)) = b
  so : SoOk N H pl
  ns : ns ≤ N
def St (W0 : World) (zp : List Nat) (xp fp N : Nat) (H : List (Nat × Obj)) (w : World) : Prop := ∃ g s fl x xl pl ns, St0 W0 zp xp fp N H g s fl x xl pl ns w
section
variable {W0 : World} {zp : List Nat} {xp fp N : Nat} {H : List (Nat × Obj)} {g : Gh} {s s' s0 : Fs} {fl fl' : FId → Nat} {x x' : Fx} {xl xl' : XId → Nat} {pl pl' pl0 : Nat → Option Po} {ns : Nat} {w w' : World}
theorem St.mono {N' : Nat} (h : St W0 zp xp fp N H w) (hN : N ≤ N') : St W0 zp xp fp N' H w := by
  obtain ⟨g, s, fl, x, xl, pl, ns, h⟩ := h
  exact ⟨g, s, fl, x, xl, pl, ns, h.al, h.lk, h.fF, h.xX, h.zn, h.zl, h.so.mono hN, Nat.le_trans h.ns hN⟩
theorem St.below (h : St W0 zp xp fp N H w) (hb : Below w.heap.size w w') : St W0 zp xp fp N H w' := by
  obtain ⟨g, s, fl, x, xl, pl, ns, h⟩ := h
  exact ⟨g, s, fl, x, xl, pl, ns, h.al.below hb, h.lk, h.fF, h.xX, h.zn, h.zl, h.so, h.ns⟩
theorem St.drewN (h : St W0 zp xp fp N H w) (n : Nat) : St W0 zp xp fp N H (w.drewN n) := by
  obtain ⟨g, s, fl, x, xl, pl, ns, h⟩ := h
  exact ⟨g, s, fl, x, xl, pl, ns, h.al.drewN n, h.lk, h.fF, h.xX, h.zn, h.zl, h.so, h.ns⟩
/-- a set, its slots -/
theorem St0.set (h : St0 W0 zp xp fp N H g s fl x xl pl ns w) {j b : Nat} (hj : zp[j]? = some b) : ∃ l, g.sets[j]? = some l ∧ l.length = 16 ∧ x.zs (j : Int) = some l ∧ xl (.Z (j : Int)) = b := by
  have hlt := (List.getElem?_eq_some_iff.1 hj).1
  rw [h.zn] at hlt
  have hl : g.sets[j]? = some g.sets[j] := List.getElem?_eq_getElem hlt
  exact ⟨_, hl, h.lk.l16 _ (List.getElem_mem hlt), h.lk.z hl, h.zl j b hj⟩
theorem updP_same (pl : Nat → Option Po) (b : Nat) (o : Po) : updP pl b o b = some o := by simp [updP]
theorem updP_other {pl : Nat → Option Po} {b c : Nat} {o : Po} (h : c ≠ b) : updP pl b o c = pl c := by simp [updP, h]
/-- a thing that is new -/
theorem Al.newP (h : Al W0 s fl x xl pl ns w) (hb : Below w.heap.size w w') (b : Nat) (hbs : w.heap.size ≤ b) (o : Po) (ho : PoIs (fl .F) (updP pl b o) w' b o) : Al W0 s fl x xl (updP pl b o) ns w' := by
  have hn : pl b = none := by
    cases q : pl b with
    | none => rfl
    | some p => have := h.po.lt (b := b) (by rw [q]; simp); omega
  have ht : Turned (fun _ => False) w w' := Turned.of_below hb
  refine h.stepP (ht.mono fun _ q _ => q.elim) (h.po.turn hb.size b o (fun c hc _ _ => hb.block c (h.po.lt hc)) (fun c => by rw [hn]; simp) (fun c hc => .inl (updP_other hc)) (updP_same _ _ _) ho) (fun k hk => ?_) (h.sv.keep ht h.po (fun _ _ q => q) (fun c hc => ?_))
  · by_cases e : k = b
    · right; rw [e]; exact hbs
    · rw [updP_other e] at hk; exact .inl hk
  · rw [updP_other (by rintro rfl; rw [hn] at hc; cases hc)]; exact hc
theorem Al.fresh (h : Al W0 s fl x xl pl ns w) {b : Nat} (hb : w.heap.size ≤ b) : pl b = none := by
  cases q : pl b with
  | none => rfl
  | some p => have := h.po.lt (b := b) (by rw [q]; simp); omega
theorem ThOk.upd {t : Th} (h : ThOk pl t) {b : Nat} {o : Po} (hn : pl b = none) : ThOk (updP pl b o) t := by
  have hne : ∀ c p, pl c = some p → updP pl b o c = some p := fun c p hc => by rw [updP_other (by rintro rfl; rw [hn] at hc; cases hc)]; exact hc
  cases t with
  | tape c => obtain ⟨s, hs⟩ := h; exact ⟨s, hne _ _ hs⟩
  | sink c => obtain ⟨y, r, hs⟩ := h; exact ⟨y, r, hne _ _ hs⟩
  | file c n => obtain ⟨a, f, h1, h2, h3, h4⟩ := h; exact ⟨a, f, h1, h2, hne _ _ h3, h4⟩
  | pend c wr => obtain ⟨l, r, q, hs⟩ := h; exact ⟨l, r, q, hne _ _ hs⟩
theorem users_same {l : List (Nat × Th)} {k : Nat} {t : Th} (ht : ∀ i, t.isAt i = false) : users (l ++ [(k, t)]) = users l := funext fun i => by rw [users_add, ht i]; rfl
/-- a number is opened for a thing that lies ready -/
theorem put_st (hA : Al W0 s fl x xl pl ns w) (hL : Lk g s0 x pl0) (hfF : fl .F = fp) (hxX : xl .X = xp) (hzn : zp.length = g.sets.length) (hzl : ∀ (j b : Nat), zp[j]? = some b → xl (.Z (j : Int)) = b) (hso : SoOk N H pl) (hns : ns ≤ N)
    (t : Th) (vt : TypeId) (vu : Value) (hv : t.val = .iface vt vu) (hth : ∀ p ∈ g.live, ThOk pl p.2) (ht : ThOk pl t) (hfb : ∀ b, t.blk = some b → ∀ p ∈ g.live, p.2.blk ≠ some b) (hs : Tidy s (users (g.live ++ [(g.nk, t)])))
    {j n zb : Nat} {l : List (Option Nat)} (hz : zp[j]? = some zb) (hj : g.sets[j]? = some l) (hn : l[n]? = some none) :
    Calls Tryz.prog 39 #[ptrOf zb, .int .i64 n, .iface vt vu] w fun e w' => e = .returned (.tuple #[]) ∧ (∀ k, k < w.heap.size → ¬ Owns (x.obj xl) xl k → w'.heap[k]? = w.heap[k]?) ∧ ∃ xl', (∀ k, Owns ((x.putS j l n g.nk t.val).obj xl') xl' k → Owns (x.obj xl) xl k ∨ w.heap.size ≤ k) ∧ St0 W0 zp xp fp N H (g.put j l n t) s fl (x.putS j l n g.nk t.val) xl' pl ns w' := by
  have hzz := hL.z hj
  have hlt := (List.getElem?_eq_some_iff.1 hn).1
  have h16 := hL.l16 l (List.mem_of_getElem? hj)
  have hm := hL.many
  have hml := hL.many_le
  have hsl := hL.sets
  have hput := put_new (j : Int) l n g.nk vt vu (fun i => if i = .O g.nk then w.heap.size else xl i) w hA.fx hzz (by omega) (hL.nope g.nk (Nat.le_refl _)) (fun i => rfl) (by omega) (by omega)
  rw [hzl j zb hz] at hput
  refine hput.mono ?_
  rintro e w' ⟨rfl, hst⟩
  rw [← hv] at hst
  refine ⟨rfl, hst.g.turned.block, _, hst.g.own, ⟨hA.stepX hst rfl rfl, hL.put hj hn t hth ht hfb hs, hfF, by simpa using hxX, by show zp.length = (g.sets.set _ _).length; rw [List.length_set]; exact hzn, fun i b hi => by simpa using hzl i b hi, hso, hns⟩⟩
end
/-! ### a tape -/
section
variable {W0 : World} {zp : List Nat} {xp fp N : Nat} {H : List (Nat × Obj)} {w : World}
theorem far_or (fd : Int) : (fd < 0 ∨ 16 ≤ fd) ∨ ∃ n : Nat, fd = (n : Int) ∧ n < 16 := by
  by_cases h : fd < 0 ∨ 16 ≤ fd
  · exact .inl h
  · exact .inr ⟨fd.toNat, by omega, by omega⟩
theorem tape_st (j zb : Nat) (hz : zp[j]? = some zb) (fd : Int) (t : List UInt8) (ht : t.length ≤ 1000000) (h : St W0 zp xp fp N H w) :
    Calls Tryz.prog 22 #[ptrOf zb, .int .i64 fd, .string ⟨t.toArray⟩] w fun e w' => (∃ c, e = .returned (.int .i64 c)) ∧ St W0 zp xp fp N H w' := by
  rcases far_or fd with hf | ⟨n, rfl, hn⟩
  · have HM := Lib.hid (may_far zb fd w hf)
    have HS := Lib.hid h
    clear h hf
    unfold ptrOf at *
    go_enter Tryz.func22, Tryz.ntmps22
    go_wp2_with (go_at_call 41; refine HM.out.mono ?_; rintro e w' ⟨rfl, rfl⟩)
    go_ret
    exact ⟨⟨_, rfl⟩, HS.out⟩
  · obtain ⟨g, s, fl, x, xl, pl, ns, h⟩ := h
    obtain ⟨l, hl1, hl2, hl3, hl4⟩ := h.set hz
    obtain ⟨o, ho⟩ : ∃ o, l[n]? = some o := ⟨_, List.getElem?_eq_getElem (by omega)⟩
    cases o with
    | some k =>
      have HM := Lib.hid (may_taken (j : Int) l n k w h.al.fx hl3 ho)
      rw [hl4] at HM
      have HS := Lib.hid (⟨g, s, fl, x, xl, pl, ns, h⟩ : St W0 zp xp fp N H w)
      clear h ho hl1 hl2 hl3 hl4
      unfold ptrOf at *
      go_enter Tryz.func22, Tryz.ntmps22
      go_wp2_with (go_at_call 41; refine HM.out.mono ?_; rintro e w' ⟨rfl, rfl⟩)
      go_ret
      exact ⟨⟨_, rfl⟩, HS.out⟩
    | none =>
      have HM := Lib.hid (may_open (j : Int) l n w h.al.fx hl3 ho)
      rw [hl4] at HM
      have hA := h.al.newP ((Below.refl w.heap.size w).alloc (Nat.le_refl _) (.cells #[.string ⟨t.toArray⟩] 110)) w.heap.size (Nat.le_refl _) (.tape t) ⟨alloc_at w _, ht⟩
      have hfr := h.al.fresh (Nat.le_refl w.heap.size)
      have HP := Lib.hid (put_st (N := N) hA h.lk h.fF h.xX h.zn h.zl (h.so.upd (fun y r q => by cases q) (by rw [hfr]; simp)) h.ns (.tape w.heap.size) _ _ rfl (fun p hp => (h.lk.things p hp).upd hfr) ⟨t, updP_same _ _ _⟩ (fun b hb => by cases hb) (by rw [users_same (fun _ => rfl)]; exact h.lk.tidy) hz hl1 ho)
      clear h hA hfr ho hl1 hl2 hl3 hl4
      unfold ptrOf at *
      go_enter Tryz.func22, Tryz.ntmps22
      go_wp2_with first
        | (go_at_call 41; refine HM.out.mono ?_; rintro e w' ⟨rfl, rfl⟩)
        | (go_at_call 39; refine HP.out.mono ?_; rintro e w' ⟨rfl, _, xl', _, h2⟩)
      go_ret
      exact ⟨⟨_, rfl⟩, ⟨_, _, _, _, _, _, _, h2⟩⟩
end
end Go.Proofs.YtomjjedgmnkciaaGreatDoor
/- fds: the least numbers that are free. -/
namespace Go.Proofs.YtomjjedgmnkciaaGreatDoor
open Go.RowKit IntWalk
set_option linter.unusedVariables false
set_option linter.unusedSimpArgs false

/-- v is a slice of the numbers L, in a block of the call's own (from base on) -/
def OwnI (w : World) (base : Nat) (v : Value) (L : List Int) : Prop := w.ownsRow base 3 1 v L.length (L.map (Value.int .i64))
theorem info_i64 : (Tryz.prog.info? 3).map (fun i => (i.zero, i.size, i.bytes)) = some (some (.int .i64 0), 1, 8) := by kernel_rfl
theorem OwnI.nil (w : World) (base : Nat) : OwnI w base (.slice none 0 0) [] := World.ownsRow_nil w base _ _
theorem OwnI.keepT {w w' : World} {base v L} {S : Nat → Prop} (h : OwnI w base v L) (ht : Turned S w w') (hS : ∀ k, base ≤ k → k < w.heap.size → ¬ S k) : OwnI w' base v L := by
  obtain ⟨hxs, hr⟩ := h
  refine ⟨hxs, ?_⟩
  rcases hr with ⟨rfl, hn⟩ | ⟨g, cap, cur, rfl, hbg, hg, hr⟩
  · exact .inl ⟨rfl, hn⟩
  · have hlt := (Array.getElem?_eq_some_iff.1 hg).1
    exact .inr ⟨g, cap, cur, rfl, hbg, (ht.block g hlt (hS g hbg hlt)).trans hg, hr⟩
/-- 'append(l, n)': one number, that the statement has just laid in a new block -/
theorem append_i {ops : Array Oper} {rest : List Oper} {o : Oper} {a : Act} {Q : Exit → Act → World → Prop} {w : World} (hgd : o.guard = none) (s x : Operand)
    (ho : o.op = .call { callee := .builtin .append, args := #[s, x], argTypes := #[40, 40] }) (base : Nat) (v : Value) (L : List Int) (hs : a.eval s = v) (hown : OwnI w base v L)
    (b : Int) (hx : a.eval x = .slice (some ⟨w.heap.size, 0, none⟩) 1 1)
    (hlen : L.length + 1 ≤ 1000000000000) (hbase : base ≤ w.heap.size)
    (h : ∀ v' w', OwnI w' base v' (L ++ [b]) → w.grownBy w' v.ownBlock → wpList Tryz.prog ops Q rest (a.put o.dst v') w') :
    wpList Tryz.prog ops Q (o :: rest) a (w.alloc (.cells #[.int .i64 b] 3)) := by
  obtain ⟨i0, hi, hz0, hz1, hz2⟩ := info_parts info_i64
  refine wpList_append_own _ hgd s x 40 ho base 3 i0 (.int .i64 0) 1 8 (by kernel_rfl) hi hz0 hz1 hz2 rfl (by omega) v L.length _ hs (World.ownsRow.alloc hown _) ⟨w.heap.size, 0, none⟩ 1 1 [.int .i64 b] hx rfl ?_ ?_ (by simp only [maxLen]; omega) (by omega) (by simp; omega) ?_
  · intro j u hj
    match j, hj with
    | 0, hj => simp at hj; subst hj; simp [Addr.add]
  · intro u hu; simp at hu; subst hu; rfl
  · intro v' w' h1 h2 _
    refine h v' w' (by simpa [OwnI] using h1) ?_
    exact ⟨h2.os, h2.tape, h2.output, by have := h2.size; simp at this; omega, fun k hk hne => by
      rw [h2.block k (by simp; omega) hne, Below.heap_alloc _ _ _ hk]⟩
/-- the least free numbers below n, so many at most -/
def freeTo (l : List (Option Nat)) (m : Nat) : Nat → List Int
  | 0 => []
  | n + 1 => if l[n]? = some none ∧ (freeTo l m n).length < m then freeTo l m n ++ [(n : Int)] else freeTo l m n
theorem freeTo_mem {l : List (Option Nat)} {m : Nat} : ∀ {n : Nat} {i : Int}, i ∈ freeTo l m n → ∃ k : Nat, i = k ∧ k < n ∧ l[k]? = some none
  | 0, i, h => by cases h
  | n + 1, i, h => by
    unfold freeTo at h
    split at h
    · rename_i hc
      rcases List.mem_append.1 h with q | q
      · obtain ⟨k, h1, h2, h3⟩ := freeTo_mem q
        exact ⟨k, h1, by omega, h3⟩
      · simp only [List.mem_singleton] at q
        exact ⟨n, q, by omega, hc.1⟩
    · obtain ⟨k, h1, h2, h3⟩ := freeTo_mem h
      exact ⟨k, h1, by omega, h3⟩
theorem freeTo_nodup {l : List (Option Nat)} {m : Nat} : ∀ n : Nat, (freeTo l m n).Nodup
  | 0 => List.nodup_nil
  | n + 1 => by
    unfold freeTo
    split
    · rw [List.nodup_append]
      refine ⟨freeTo_nodup n, by simp, fun a ha b hb e => ?_⟩
      simp only [List.mem_singleton] at hb
      obtain ⟨k, h1, h2, _⟩ := freeTo_mem ha
      omega
    · exact freeTo_nodup n
theorem freeTo_len (l : List (Option Nat)) (m n : Nat) : (freeTo l m n).length ≤ n := by
  induction n with
  | zero => simp [freeTo]
  | succ n ih =>
    unfold freeTo
    split
    · rw [List.length_append]; simp; omega
    · omega
structure Frees (w : World) (l : List (Option Nat)) (m n : Nat) (v : Value) (W : World) : Prop where
  below : Below w.heap.size w W
  own : OwnI W w.heap.size v (freeTo l m n)
theorem OwnI.slice {w : World} {base v L} (h : OwnI w base v L) : ∃ p c, v = .slice p L.length c := by
  obtain ⟨hxs, hr⟩ := h
  rcases hr with ⟨rfl, hn⟩ | ⟨g, cap, cur, rfl, _⟩
  · exact ⟨none, 0, by rw [hn]⟩
  · exact ⟨_, cap, rfl⟩
theorem Frees.step {w W : World} {l m n v} (h : Frees w l m n v W) (hn : ¬ (l[n]? = some none ∧ (freeTo l m n).length < m)) : Frees w l m (n + 1) v W := ⟨h.below, by unfold freeTo; rw [if_neg hn]; exact h.own⟩
theorem Frees.more {w W W' : World} {l m n v v'} (h : Frees w l m n v W) (hn : l[n]? = some none ∧ (freeTo l m n).length < m) (ho : OwnI W' w.heap.size v' (freeTo l m n ++ [(n : Int)])) (hg : W.grownBy W' v.ownBlock) : Frees w l m (n + 1) v' W' := by
  refine ⟨?_, by unfold freeTo; rw [if_pos hn]; exact ho⟩
  have hlt := World.ownsRow.lt h.own
  exact ⟨hg.os.trans h.below.os, hg.tape.trans h.below.tape, hg.output.trans h.below.output, Nat.le_trans h.below.size hg.size, fun k hk => (hg.block k (Nat.lt_of_lt_of_le hk h.below.size) (fun q => by have := (hlt k q.symm).1; omega)).trans (h.below.block k hk)⟩
set_option maxRecDepth 100000 in
theorem setfree_any {s lay} (i : Int) (l : List (Option Nat)) (m : Nat) (hm : m ≤ 16) (w : World) (h : FxIs s lay w) (hi : s.zs i = some l) :
    Calls Tryz.prog 37 #[ptrOf (lay (.Z i)), .int .i64 m] w fun e w' => ∃ v, e = .returned v ∧ Frees w l m 16 v w' := by
  have hl := h.ok.len i l hi
  have HL := Lib.hid (load_slots i l w h hi)
  have hm1 : (m : Int) ≤ 16 := by omega
  have hF0 : Frees w l m 0 (.slice none 0 0) w := ⟨Below.refl _ _, OwnI.nil w _⟩
  unfold ptrOf at *
  clear h hi
  go_enter Tryz.func37, Tryz.ntmps37
  go_wp2_with (refine wpList_load_at rfl 62 _ rfl ⟨lay (.Z i), 1, none⟩ rfl _ HL.out ?_)
  go_loopw [12, 5] (fun i v W => ∃ n : Nat, i = .int .i64 n ∧ n ≤ 16 ∧ Frees w l m n v W) (fun i _ _ => 16 - (intOf i).toNat)
  case atStart => exact ⟨0, rfl, by omega, hF0⟩
  case round =>
    obtain ⟨n, rfl, hn, hR⟩ := hrel
    obtain ⟨p, c, hv⟩ := hR.own.slice
    have hlen := freeTo_len l m n
    have hRo := Lib.hid hR
    by_cases hlt : n < 16
    · obtain ⟨o, ho⟩ : ∃ o, l[n]? = some o := ⟨_, List.getElem?_eq_getElem (by omega)⟩
      have hlt1 : (n : Int) < 16 := by omega
      have hg1 : (l.map (slotV lay)).toArray[n]? = some (slotV lay o) := by rw [List.getElem?_toArray, List.getElem?_map, ho]; rfl
      have hix := run_index_arr (P := Tryz.prog) (w := wr) Tryz.underlying62 hlt (by kernel_rfl) (by kernel_rfl) hg1
      cases o with
      | some k =>
        simp only [slotV] at hix
        unfold ptrOf at hix
        have HN := Lib.hid (hR.step (fun q => by rw [ho] at q; cases q.1))
        clear ho hg1 hR
        rw [hv] at *
        clear hv
        go_wp2_with fail
        go_roundw
        case rel => exact ⟨n + 1, by go_num, hlt, HN.out⟩
        case measure => simp [intOf]; omega
      | none =>
        simp only [slotV] at hix
        by_cases hcm : (freeTo l m n).length < m
        · have hcm1 : ((freeTo l m n).length : Int) < (m : Int) := by omega
          have HC := Lib.hid (show l[n]? = some none ∧ (freeTo l m n).length < m from ⟨ho, hcm⟩)
          have hbase := hR.below.size
          clear ho hg1 hR
          have hown := hRo.out.own
          rw [hv] at *
          clear hv
          have HO := Lib.hid hown
          clear hown
          go_wp2_with (refine append_i rfl _ _ rfl w.heap.size _ _ rfl HO.out (n : Int) rfl (by omega) hbase ?_; intro v' w' h1 h2)
          go_roundw
          case rel => exact ⟨n + 1, by go_num, hlt, hRo.out.more HC.out h1 h2⟩
          case measure => simp [intOf]; omega
        · have hcm1 : ¬ ((freeTo l m n).length : Int) < (m : Int) := by omega
          have HN := Lib.hid (hR.step (fun q => hcm q.2))
          clear ho hg1 hR
          rw [hv] at *
          clear hv
          go_wp2_with fail
          go_roundw
          case rel => exact ⟨n + 1, by go_num, hlt, HN.out⟩
          case measure => simp [intOf]; omega
    · have hn16 : n = 16 := by omega
      subst hn16
      rw [hv] at *
      go_wp2_with fail
      go_ret
      exact ⟨_, rfl, hRo.out⟩
end Go.Proofs.YtomjjedgmnkciaaGreatDoor
