/- What the library's package-level variables hold: as the row lists them. -/
import Derived.Test.YtmhgehnkhhlbkaaGreatDoorBase
import Derived.Test.YtmhgehnkhhlbkaaGreatDoorShelf
namespace Go.Proofs.YtmhgehnkhhlbkaaGreatDoor
open Go.RowKit

/-- the library's variables that are read -/
structure Env (w : World) : Prop where
  maxlen : ∃ m, w.cell? ⟨0, 0, none⟩ = some (.int .i64 m)
  pow10 : Lib.TabIs Tryz.prog w "internal/strconv.uint64pow10" .u64 Lib.pow10Tab
  syn : ∃ te pe, w.cell? ⟨6, 0, none⟩ = some (.iface te pe)
  rng : ∃ te pe, w.cell? ⟨7, 0, none⟩ = some (.iface te pe)
theorem gPow10 : Tryz.prog.globalNamed "internal/strconv.uint64pow10" = some 1 := by kernel_rfl
theorem tab_below {n : String} {g : Nat} {k : IntKind} {zs : List Int} {w w' : World} (hg : Tryz.prog.globalNamed n = some g) (h : Lib.TabIs Tryz.prog w n k zs) (hb : Below w.heap.size w w') : Lib.TabIs Tryz.prog w' n k zs := by
  unfold Lib.TabIs World.var? at h ⊢
  rw [hg] at h ⊢
  simp only [Option.bind_some] at h ⊢
  have hlt : g < w.heap.size := by
    rcases Nat.lt_or_ge g w.heap.size with h' | h'
    · exact h'
    · rw [Array.getElem?_eq_none h'] at h; simp at h
  rw [hb.block g hlt]; exact h
theorem Env.below {w w' : World} (h : Env w) (hb : Below w.heap.size w w') : Env w' :=
  ⟨let ⟨m, hm⟩ := h.maxlen; ⟨m, keep_cell hm hb⟩, tab_below gPow10 h.pow10 hb, let ⟨a, b, hm⟩ := h.syn; ⟨a, b, keep_cell hm hb⟩, let ⟨a, b, hm⟩ := h.rng; ⟨a, b, keep_cell hm hb⟩⟩
end Go.Proofs.YtmhgehnkhhlbkaaGreatDoor
