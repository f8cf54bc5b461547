/- Writing and reading a file by the tree: names.FS, files.File. -/
import Derived.Test.YtgooohccndjjdaaGreatDoorFsM
namespace Go.Proofs.YtgooohccndjjdaaGreatDoor
open Go.RowKit IntWalk
set_option linter.unusedVariables false
set_option linter.unusedSimpArgs false

theorem nkind_any {s lay} (i k : Int) (w : World) (h : FsIs s lay w) (hk : s.fld Nd.kind i = k) (h0 : k ≠ 0) : Calls Tryz.prog 39 #[ptrTo (lay .F), .int .i64 i] w fun e w' => e = .returned (.tuple #[.int .i64 k, .int .i64 0]) ∧ w = w' := by
  have c0 := h.f0
  have hb : (k == 0) = false := by simpa using h0
  go_enter Tryz.func39, Tryz.ntmps39
  unfold ptrTo at *
  go_wp2_with (go_at_call 50; refine (kind_any i w h).mono ?_; rintro e w' ⟨rfl, rfl⟩; rw [hk])
  go_ret2
  exact ⟨rfl, rfl⟩
theorem nfile_any {s lay} (i : Int) (w : World) (h : FsIs s lay w) (hk : s.fld Nd.kind i = 1) : Calls Tryz.prog 33 #[ptrTo (lay .F), .int .i64 i] w fun e w' => e = .returned (.int .i64 0) ∧ w = w' := by
  go_enter Tryz.func33, Tryz.ntmps33
  unfold ptrTo at *
  go_wp2_with (go_at_call 39; refine (nkind_any i 1 w h hk (by omega)).mono ?_; rintro e w' ⟨rfl, rfl⟩)
  go_ret
  exact ⟨rfl, rfl⟩
theorem nwrite_any {s lay} (i : Int) (x : Nd) (at_ : Nat) (d : List UInt8) (w : World) (h : FsIs s lay w) (hn : s.nd i = some x) (hk : x.kind = 1) (ht : x.taken s) (hs : 0 ≤ x.size ∧ x.size ≤ 4096) (hat : at_ < 4096) :
    Calls Tryz.prog 151 #[ptrTo (lay .F), .int .i64 i, .int .i64 at_, .string ⟨d.toArray⟩] w fun e w' => ∃ n s', (n, s') = s.writeS (slotOf i) x at_ (d.take (4096 - at_)) ∧
      e = .returned (.tuple #[.int .i64 n, .int .i64 (if n = 0 ∧ d ≠ [] then 20 else 0)]) ∧ Step s lay w s' lay w' := by
  have c0 := h.f0
  have hf : s.fld Nd.kind i = 1 := by unfold Fs.fld; rw [hn]; exact hk
  go_enter Tryz.func151, Tryz.ntmps151
  unfold ptrTo at *
  go_wp2_with first
    | (go_at_call 33; refine (nfile_any i w h hf).mono ?_; rintro e w' ⟨rfl, rfl⟩)
    | (go_at_call 103; refine (write_some i x at_ d w h hn ht hs hat).mono ?_; rintro e w' ⟨n, s', h1, rfl, hst⟩; generalize hz : (if n = 0 ∧ d ≠ [] then (20 : Int) else 0) = z)
  go_ret2
  exact ⟨n, s', h1, by subst hz; rfl, hst⟩
theorem nread_any {s lay} (i : Int) (x : Nd) (at_ n : Nat) (w : World) (h : FsIs s lay w) (hn : s.nd i = some x) (hk : x.kind = 1) (ht : x.taken s) (hs : 0 ≤ x.size ∧ x.size ≤ 4096) (hat : (at_ : Int) < x.size) (hn64 : (n : Int) ≤ 9223372036854775807) :
    Calls Tryz.prog 13 #[ptrTo (lay .F), .int .i64 i, .int .i64 at_, .int .i64 n] w fun e w' =>
      e = .returned (.tuple #[.string ⟨(s.bytes x at_ (min n (x.size.toNat - at_))).toArray⟩, .int .i64 0]) ∧ Step s lay w s lay w' := by
  have c0 := h.f0
  have hf : s.fld Nd.kind i = 1 := by unfold Fs.fld; rw [hn]; exact hk
  go_enter Tryz.func13, Tryz.ntmps13
  unfold ptrTo at *
  go_wp2_with first
    | (go_at_call 33; refine (nfile_any i w h hf).mono ?_; rintro e w' ⟨rfl, rfl⟩)
    | (go_at_call 34; refine (read_some i x at_ n w h hn ht hs hat hn64).mono ?_; rintro e w' ⟨rfl, hst⟩)
  go_ret2
  exact ⟨rfl, hst⟩
/-- reading behind the end -/
theorem read_end {s lay} (i : Int) (x : Nd) (at_ n : Nat) (w : World) (h : FsIs s lay w) (hn : s.nd i = some x) (hat : x.size ≤ (at_ : Int)) : Calls Tryz.prog 34 #[ptrTo (lay .T), .int .i64 i, .int .i64 at_, .int .i64 n] w fun e w' =>
      e = .returned (.tuple #[.string ByteArray.empty, .int .i64 0]) ∧ w = w' := by
  have c3 := h.n3 (Fs.nd_slot hn).2.2
  go_enter Tryz.func34, Tryz.ntmps34
  unfold ptrTo
  go_wp2_with (go_at_call 56; refine (find_some i x w h hn).mono ?_; rintro e w' ⟨rfl, rfl⟩; unfold ptrTo)
  go_ret2
  exact ⟨rfl, rfl⟩
theorem nread_end {s lay} (i : Int) (x : Nd) (at_ n : Nat) (w : World) (h : FsIs s lay w) (hn : s.nd i = some x) (hk : x.kind = 1) (hat : x.size ≤ (at_ : Int)) : Calls Tryz.prog 13 #[ptrTo (lay .F), .int .i64 i, .int .i64 at_, .int .i64 n] w fun e w' =>
      e = .returned (.tuple #[.string ByteArray.empty, .int .i64 0]) ∧ w = w' := by
  have c0 := h.f0
  have hf : s.fld Nd.kind i = 1 := by unfold Fs.fld; rw [hn]; exact hk
  go_enter Tryz.func13, Tryz.ntmps13
  unfold ptrTo at *
  go_wp2_with first
    | (go_at_call 33; refine (nfile_any i w h hf).mono ?_; rintro e w' ⟨rfl, rfl⟩)
    | (go_at_call 34; refine (read_end i x at_ n w h hn hat).mono ?_; rintro e w' ⟨rfl, rfl⟩)
  go_ret2
  exact ⟨rfl, rfl⟩
end Go.Proofs.YtgooohccndjjdaaGreatDoor
