/- Texts of one proof, packed: WwH, WwI, WwJ, WwK -/
import Derived.Test.YtelohloaoocoaaaGreatDoorM04
set_option linter.unusedVariables false
set_option linter.unusedSimpArgs false
set_option linter.deprecated false
set_option linter.unnecessarySimpa false
/- world.after: what a call brings with it. -/
namespace Go.Proofs.YtelohloaoocoaaaGreatDoor
open Go.RowKit IntWalk
set_option linter.unusedVariables false
set_option linter.unusedSimpArgs false
set_option linter.unnecessarySimpa false

def dnV (pid k f : Int) (d : List UInt8) (e n m : Int) : Array Value := #[.int .i64 pid, .int .i64 k, .int .i64 f, .int .i64 0, .string ByteArray.empty, .string ⟨d.toArray⟩,
  .int .i64 e, .int .i64 n, .int .i64 m, .string ByteArray.empty, .slice none 0 0, .int .i64 0, .int .i64 0, .int .i64 0]
theorem cells14 {w : World} {b : Nat} {v0 v1 v2 v3 v4 v5 v6 v7 v8 v9 v10 v11 v12 v13 : Value} {ty : TypeId} (h : w.heap[b]? = some (.cells #[v0, v1, v2, v3, v4, v5, v6, v7, v8, v9, v10, v11, v12, v13] ty (0, 0))) :
    w.cell? ⟨b, 0, none⟩ = some v0 ∧ w.cell? ⟨b, 1, none⟩ = some v1 ∧ w.cell? ⟨b, 2, none⟩ = some v2 ∧ w.cell? ⟨b, 3, none⟩ = some v3 ∧ w.cell? ⟨b, 4, none⟩ = some v4 ∧ w.cell? ⟨b, 5, none⟩ = some v5 ∧ w.cell? ⟨b, 6, none⟩ = some v6 ∧ w.cell? ⟨b, 7, none⟩ = some v7 ∧
    w.cell? ⟨b, 8, none⟩ = some v8 ∧ w.cell? ⟨b, 9, none⟩ = some v9 ∧ w.cell? ⟨b, 10, none⟩ = some v10 ∧ w.cell? ⟨b, 11, none⟩ = some v11 ∧ w.cell? ⟨b, 12, none⟩ = some v12 ∧ w.cell? ⟨b, 13, none⟩ = some v13 ∧ (∀ k, w.frozen? ⟨b, k, none⟩ = false) := by
  simp [World.cell?, World.frozen?, h]
theorem one_newG (w : World) (o1 : Obj) : ∃ w1, w.alloc o1 = w1 ∧ Below w.heap.size w w1 ∧ w1.heap[w.heap.size]? = some o1 ∧ w1.heap.size = w.heap.size + 1 :=
  ⟨_, rfl, (Below.refl _ _).alloc (Nat.le_refl _) _, Array.getElem?_push_size, by simp⟩
set_option maxHeartbeats 1000000 in
set_option maxRecDepth 100000 in
theorem after_other {s l x lw} (pid k f : Int) (d : List UInt8) (e n m : Int) (w : World) (h : Al s l x lw w) (h7 : k ≠ 7) (h8 : k ≠ 8) : Calls Tryz.prog 26 #[ptrOf (lw .W), .agg (dnV pid k f d e n m)] w fun e' w' => e' = .returned (.tuple #[]) ∧ AStep s l x lw w s l x lw w' := by
  have b7 : (k == 7) = false := by simpa using h7
  have b8 : (k == 8) = false := by simpa using h8
  have H := Lib.hid h
  unfold ptrOf dnV at *
  clear h h7 h8
  go_enter Tryz.func26, Tryz.ntmps26
  go_wp2
  go_end0
  exact ⟨rfl, (AStep.refl H.out).below ((Below.refl _ _).alloc (Nat.le_refl _) _)⟩
set_option maxHeartbeats 1000000 in
set_option maxRecDepth 100000 in
theorem after_exit {s l x lw} (pid f : Int) (w : World) (h : Al s l x lw w) : Calls Tryz.prog 26 #[ptrOf (lw .W), .agg (dnV pid 8 f [] 0 0 0)] w fun e' w' => e' = .returned (.tuple #[]) ∧ AStep s l x lw w s l (x.delQ pid) lw w' := by
  have H := Lib.hid h
  unfold ptrOf dnV at *
  clear h
  go_enter Tryz.func26, Tryz.ntmps26
  go_upto_region 1 with fail
  obtain ⟨w1, hw1, hB, hb, hz⟩ := one_newG w (.cells #[.int .i64 pid, .int .i64 8, .int .i64 f, .int .i64 0, .string ByteArray.empty, .string ⟨#[]⟩, .int .i64 0, .int .i64 0, .int .i64 0, .string ByteArray.empty, .slice none 0 0, .int .i64 0, .int .i64 0, .int .i64 0] 39)
  rw [hw1]
  clear hw1
  obtain ⟨p0, p1, _⟩ := cells14 hb
  have H1 := H.out.below hB
  have c1 := wx_w1 H1.wx.lies
  have HB := Lib.hid hB
  have H1' := Lib.hid H1
  clear hB hb hz H1
  go_upto_region 5 with fail
  go_still_tail 6, (by kernel_rfl)
  have H2 := Lib.hid ((AStep.refl H.out).below HB.out).drew
  change wpList _ _ _ _ _ w1.drew
  generalize w1.drew = w2 at *
  have hdel := fun ty => GMap.drop (P := Tryz.prog) (w := w2) (ts := #[72, 3]) (ty := ty) (k := .int pid) rfl Tryz.underlying72 Tryz.underlying3 (PMap.of_gm x.m _) (wx_m H2.out.is.wx.lies)
  simp only [Key.val] at hdel
  have HF := Lib.hid (H2.out.trans (AStep.wo H2.out.is (wx_delQ H2.out.is.wx.lies H2.out.xok.m pid) (H2.out.xok.delQ pid) rfl rfl))
  clear c1 p0 p1
  go_wp2_with fail
  go_end0
  exact ⟨rfl, HF.out⟩
/-- the world a fork leaves: a copy, a process, the map that has it -/
theorem afork_prep {s l x lw} (i q : Int) (b : Nat) (w2 : World) (h : Al s l x lw w2) (hi : i ∈ x.m.keys) (hq : q ∉ x.m.keys) (ho : (x.qs i).fp.own = none) (gm : GMap) (hgm : gm = x.m.gm fun i => lw (.Q i))
    (hb : ¬ Owns (x.obj lw) lw b) (hbl : b < w2.heap.size) (p0 : w2.cell? ⟨b, 0, none⟩ = some (.int .i64 i)) (p7 : w2.cell? ⟨b, 7, none⟩ = some (.int .i64 q)) (n : Nat) (hn : w2.heap.size = n) (w4 : World) (hw4 : w2.alloc (.cells (fpV (x.tv lw i) (x.qs i).fp) 66 (0, 0)) = w4) :
    (Instr.mapUpdate 72 (.map (some (lw .M))) (.int .i64 q) (.pointer (some ⟨n + 1, 0, none⟩))).run Tryz.prog (w4.alloc (.cells #[.iface 64 (.pointer (some ⟨n, 0, none⟩)), .int .i64 0, .int .i64 0, .int .i64 0, .string ⟨#[]⟩, .slice none 0 0, .int .i64 0, .int .i64 0, .int .i64 0, .int .i64 0, .int .i64 0, .int .i64 0, .string ⟨#[]⟩, .string ⟨#[]⟩, .bool false] 82 (0, 0))) = .ok () { (w4.alloc (.cells #[.iface 64 (.pointer (some ⟨n, 0, none⟩)), .int .i64 0, .int .i64 0, .int .i64 0, .string ⟨#[]⟩, .slice none 0 0, .int .i64 0, .int .i64 0, .int .i64 0, .int .i64 0, .int .i64 0, .int .i64 0, .string ⟨#[]⟩, .string ⟨#[]⟩, .bool false] 82 (0, 0))) with heap := (w4.alloc (.cells #[.iface 64 (.pointer (some ⟨n, 0, none⟩)), .int .i64 0, .int .i64 0, .int .i64 0, .string ⟨#[]⟩, .slice none 0 0, .int .i64 0, .int .i64 0, .int .i64 0, .int .i64 0, .int .i64 0, .int .i64 0, .string ⟨#[]⟩, .string ⟨#[]⟩, .bool false] 82 (0, 0))).heap.setIfInBounds (lw .M) (gm.put (.int q) (.pointer (some ⟨n + 1, 0, none⟩))).obj } ∧
      w4.heap.size = n + 1 ∧ ((w4 : World).cell? ⟨lw .W, 1, none⟩ = some (.map (some (lw .M))) ∧ (w4 : World).cell? ⟨b, 0, none⟩ = some (.int .i64 i) ∧ (w4 : World).cell? ⟨b, 7, none⟩ = some (.int .i64 q) ∧ (w4 : World).cell? ⟨lw (.Q i), 0, none⟩ = some (.iface 64 (.pointer (some ⟨lw (.F i), 0, none⟩))) ∧ (Instr.lookup 72 (.map (some (lw .M))) (.int .i64 i) false).run Tryz.prog (w4 : World) = .ok (.pointer (some ⟨lw (.Q i), 0, none⟩)) (w4 : World)) ∧ ((w4.alloc (.cells #[.iface 64 (.pointer (some ⟨n, 0, none⟩)), .int .i64 0, .int .i64 0, .int .i64 0, .string ⟨#[]⟩, .slice none 0 0, .int .i64 0, .int .i64 0, .int .i64 0, .int .i64 0, .int .i64 0, .int .i64 0, .string ⟨#[]⟩, .string ⟨#[]⟩, .bool false] 82 (0, 0)) : World).cell? ⟨lw .W, 1, none⟩ = some (.map (some (lw .M))) ∧ (w4.alloc (.cells #[.iface 64 (.pointer (some ⟨n, 0, none⟩)), .int .i64 0, .int .i64 0, .int .i64 0, .string ⟨#[]⟩, .slice none 0 0, .int .i64 0, .int .i64 0, .int .i64 0, .int .i64 0, .int .i64 0, .int .i64 0, .string ⟨#[]⟩, .string ⟨#[]⟩, .bool false] 82 (0, 0)) : World).cell? ⟨b, 0, none⟩ = some (.int .i64 i) ∧ (w4.alloc (.cells #[.iface 64 (.pointer (some ⟨n, 0, none⟩)), .int .i64 0, .int .i64 0, .int .i64 0, .string ⟨#[]⟩, .slice none 0 0, .int .i64 0, .int .i64 0, .int .i64 0, .int .i64 0, .int .i64 0, .int .i64 0, .string ⟨#[]⟩, .string ⟨#[]⟩, .bool false] 82 (0, 0)) : World).cell? ⟨b, 7, none⟩ = some (.int .i64 q) ∧ (w4.alloc (.cells #[.iface 64 (.pointer (some ⟨n, 0, none⟩)), .int .i64 0, .int .i64 0, .int .i64 0, .string ⟨#[]⟩, .slice none 0 0, .int .i64 0, .int .i64 0, .int .i64 0, .int .i64 0, .int .i64 0, .int .i64 0, .string ⟨#[]⟩, .string ⟨#[]⟩, .bool false] 82 (0, 0)) : World).cell? ⟨lw (.Q i), 0, none⟩ = some (.iface 64 (.pointer (some ⟨lw (.F i), 0, none⟩))) ∧ (Instr.lookup 72 (.map (some (lw .M))) (.int .i64 i) false).run Tryz.prog (w4.alloc (.cells #[.iface 64 (.pointer (some ⟨n, 0, none⟩)), .int .i64 0, .int .i64 0, .int .i64 0, .string ⟨#[]⟩, .slice none 0 0, .int .i64 0, .int .i64 0, .int .i64 0, .int .i64 0, .int .i64 0, .int .i64 0, .string ⟨#[]⟩, .string ⟨#[]⟩, .bool false] 82 (0, 0)) : World) = .ok (.pointer (some ⟨lw (.Q i), 0, none⟩)) (w4.alloc (.cells #[.iface 64 (.pointer (some ⟨n, 0, none⟩)), .int .i64 0, .int .i64 0, .int .i64 0, .string ⟨#[]⟩, .slice none 0 0, .int .i64 0, .int .i64 0, .int .i64 0, .int .i64 0, .int .i64 0, .int .i64 0, .string ⟨#[]⟩, .string ⟨#[]⟩, .bool false] 82 (0, 0)) : World)) ∧ (({ (w4.alloc (.cells #[.iface 64 (.pointer (some ⟨n, 0, none⟩)), .int .i64 0, .int .i64 0, .int .i64 0, .string ⟨#[]⟩, .slice none 0 0, .int .i64 0, .int .i64 0, .int .i64 0, .int .i64 0, .int .i64 0, .int .i64 0, .string ⟨#[]⟩, .string ⟨#[]⟩, .bool false] 82 (0, 0))) with heap := (w4.alloc (.cells #[.iface 64 (.pointer (some ⟨n, 0, none⟩)), .int .i64 0, .int .i64 0, .int .i64 0, .string ⟨#[]⟩, .slice none 0 0, .int .i64 0, .int .i64 0, .int .i64 0, .int .i64 0, .int .i64 0, .int .i64 0, .string ⟨#[]⟩, .string ⟨#[]⟩, .bool false] 82 (0, 0))).heap.setIfInBounds (lw .M) (gm.put (.int q) (.pointer (some ⟨n + 1, 0, none⟩))).obj } : World).cell? ⟨lw .W, 1, none⟩ = some (.map (some (lw .M))) ∧ ({ (w4.alloc (.cells #[.iface 64 (.pointer (some ⟨n, 0, none⟩)), .int .i64 0, .int .i64 0, .int .i64 0, .string ⟨#[]⟩, .slice none 0 0, .int .i64 0, .int .i64 0, .int .i64 0, .int .i64 0, .int .i64 0, .int .i64 0, .string ⟨#[]⟩, .string ⟨#[]⟩, .bool false] 82 (0, 0))) with heap := (w4.alloc (.cells #[.iface 64 (.pointer (some ⟨n, 0, none⟩)), .int .i64 0, .int .i64 0, .int .i64 0, .string ⟨#[]⟩, .slice none 0 0, .int .i64 0, .int .i64 0, .int .i64 0, .int .i64 0, .int .i64 0, .int .i64 0, .string ⟨#[]⟩, .string ⟨#[]⟩, .bool false] 82 (0, 0))).heap.setIfInBounds (lw .M) (gm.put (.int q) (.pointer (some ⟨n + 1, 0, none⟩))).obj } : World).cell? ⟨b, 0, none⟩ = some (.int .i64 i) ∧ ({ (w4.alloc (.cells #[.iface 64 (.pointer (some ⟨n, 0, none⟩)), .int .i64 0, .int .i64 0, .int .i64 0, .string ⟨#[]⟩, .slice none 0 0, .int .i64 0, .int .i64 0, .int .i64 0, .int .i64 0, .int .i64 0, .int .i64 0, .string ⟨#[]⟩, .string ⟨#[]⟩, .bool false] 82 (0, 0))) with heap := (w4.alloc (.cells #[.iface 64 (.pointer (some ⟨n, 0, none⟩)), .int .i64 0, .int .i64 0, .int .i64 0, .string ⟨#[]⟩, .slice none 0 0, .int .i64 0, .int .i64 0, .int .i64 0, .int .i64 0, .int .i64 0, .int .i64 0, .string ⟨#[]⟩, .string ⟨#[]⟩, .bool false] 82 (0, 0))).heap.setIfInBounds (lw .M) (gm.put (.int q) (.pointer (some ⟨n + 1, 0, none⟩))).obj } : World).cell? ⟨b, 7, none⟩ = some (.int .i64 q) ∧ ({ (w4.alloc (.cells #[.iface 64 (.pointer (some ⟨n, 0, none⟩)), .int .i64 0, .int .i64 0, .int .i64 0, .string ⟨#[]⟩, .slice none 0 0, .int .i64 0, .int .i64 0, .int .i64 0, .int .i64 0, .int .i64 0, .int .i64 0, .string ⟨#[]⟩, .string ⟨#[]⟩, .bool false] 82 (0, 0))) with heap := (w4.alloc (.cells #[.iface 64 (.pointer (some ⟨n, 0, none⟩)), .int .i64 0, .int .i64 0, .int .i64 0, .string ⟨#[]⟩, .slice none 0 0, .int .i64 0, .int .i64 0, .int .i64 0, .int .i64 0, .int .i64 0, .int .i64 0, .string ⟨#[]⟩, .string ⟨#[]⟩, .bool false] 82 (0, 0))).heap.setIfInBounds (lw .M) (gm.put (.int q) (.pointer (some ⟨n + 1, 0, none⟩))).obj } : World).cell? ⟨lw (.Q i), 0, none⟩ = some (.iface 64 (.pointer (some ⟨lw (.F i), 0, none⟩))) ∧ (Instr.lookup 72 (.map (some (lw .M))) (.int .i64 i) false).run Tryz.prog ({ (w4.alloc (.cells #[.iface 64 (.pointer (some ⟨n, 0, none⟩)), .int .i64 0, .int .i64 0, .int .i64 0, .string ⟨#[]⟩, .slice none 0 0, .int .i64 0, .int .i64 0, .int .i64 0, .int .i64 0, .int .i64 0, .int .i64 0, .string ⟨#[]⟩, .string ⟨#[]⟩, .bool false] 82 (0, 0))) with heap := (w4.alloc (.cells #[.iface 64 (.pointer (some ⟨n, 0, none⟩)), .int .i64 0, .int .i64 0, .int .i64 0, .string ⟨#[]⟩, .slice none 0 0, .int .i64 0, .int .i64 0, .int .i64 0, .int .i64 0, .int .i64 0, .int .i64 0, .string ⟨#[]⟩, .string ⟨#[]⟩, .bool false] 82 (0, 0))).heap.setIfInBounds (lw .M) (gm.put (.int q) (.pointer (some ⟨n + 1, 0, none⟩))).obj } : World) = .ok (.pointer (some ⟨lw (.Q i), 0, none⟩)) ({ (w4.alloc (.cells #[.iface 64 (.pointer (some ⟨n, 0, none⟩)), .int .i64 0, .int .i64 0, .int .i64 0, .string ⟨#[]⟩, .slice none 0 0, .int .i64 0, .int .i64 0, .int .i64 0, .int .i64 0, .int .i64 0, .int .i64 0, .string ⟨#[]⟩, .string ⟨#[]⟩, .bool false] 82 (0, 0))) with heap := (w4.alloc (.cells #[.iface 64 (.pointer (some ⟨n, 0, none⟩)), .int .i64 0, .int .i64 0, .int .i64 0, .string ⟨#[]⟩, .slice none 0 0, .int .i64 0, .int .i64 0, .int .i64 0, .int .i64 0, .int .i64 0, .int .i64 0, .string ⟨#[]⟩, .string ⟨#[]⟩, .bool false] 82 (0, 0))).heap.setIfInBounds (lw .M) (gm.put (.int q) (.pointer (some ⟨n + 1, 0, none⟩))).obj } : World)) ∧
      ∃ lw', AStep s l x lw w2 s l (x.forkQ i q) lw' { (w4.alloc (.cells #[.iface 64 (.pointer (some ⟨n, 0, none⟩)), .int .i64 0, .int .i64 0, .int .i64 0, .string ⟨#[]⟩, .slice none 0 0, .int .i64 0, .int .i64 0, .int .i64 0, .int .i64 0, .int .i64 0, .int .i64 0, .string ⟨#[]⟩, .string ⟨#[]⟩, .bool false] 82 (0, 0))) with heap := (w4.alloc (.cells #[.iface 64 (.pointer (some ⟨n, 0, none⟩)), .int .i64 0, .int .i64 0, .int .i64 0, .string ⟨#[]⟩, .slice none 0 0, .int .i64 0, .int .i64 0, .int .i64 0, .int .i64 0, .int .i64 0, .int .i64 0, .string ⟨#[]⟩, .string ⟨#[]⟩, .bool false] 82 (0, 0))).heap.setIfInBounds (lw .M) (gm.put (.int q) (.pointer (some ⟨n + 1, 0, none⟩))).obj } := by
  subst hn
  have hqi : q ≠ i := by rintro rfl; exact hq hi
  have hMl : lw .M < w2.heap.size := h.wx.lies.owns_lt ⟨.M, by simp [Wx.obj], rfl⟩
  have hB4 : Below w2.heap.size w2 w4 := hw4 ▸ (Below.refl _ _).alloc (Nat.le_refl _) _
  have hB5 : Below w2.heap.size w2 (w4.alloc (.cells #[.iface 64 (.pointer (some ⟨w2.heap.size, 0, none⟩)), .int .i64 0, .int .i64 0, .int .i64 0, .string ⟨#[]⟩, .slice none 0 0, .int .i64 0, .int .i64 0, .int .i64 0, .int .i64 0, .int .i64 0, .int .i64 0, .string ⟨#[]⟩, .string ⟨#[]⟩, .bool false] 82 (0, 0))) := hB4.alloc hB4.size _
  have hz4 : w4.heap.size = w2.heap.size + 1 := by rw [← hw4]; simp
  have hM4 : w4.heap[lw .M]? = some gm.obj := by rw [hB4.block _ hMl, hgm]; exact wx_m h.wx.lies
  have H4 := h.wx.below hB4
  have H5 := h.wx.below hB5
  have G := wx_forkQ (lw' := fun j => if j = .Q q then w2.heap.size + 1 else if j = .F q then w2.heap.size else lw j) h.wx.lies hi hq hqi ho (fun j => rfl)
  rw [hw4] at G
  have G' : GStep (x.obj lw) lw w2 ((x.forkQ i q).obj (fun j => if j = .Q q then w2.heap.size + 1 else if j = .F q then w2.heap.size else lw j)) (fun j => if j = .Q q then w2.heap.size + 1 else if j = .F q then w2.heap.size else lw j) { (w4.alloc (.cells #[.iface 64 (.pointer (some ⟨w2.heap.size, 0, none⟩)), .int .i64 0, .int .i64 0, .int .i64 0, .string ⟨#[]⟩, .slice none 0 0, .int .i64 0, .int .i64 0, .int .i64 0, .int .i64 0, .int .i64 0, .int .i64 0, .string ⟨#[]⟩, .string ⟨#[]⟩, .bool false] 82 (0, 0))) with heap := (w4.alloc (.cells #[.iface 64 (.pointer (some ⟨w2.heap.size, 0, none⟩)), .int .i64 0, .int .i64 0, .int .i64 0, .string ⟨#[]⟩, .slice none 0 0, .int .i64 0, .int .i64 0, .int .i64 0, .int .i64 0, .int .i64 0, .int .i64 0, .string ⟨#[]⟩, .string ⟨#[]⟩, .bool false] 82 (0, 0))).heap.setIfInBounds (lw .M) (gm.put (.int q) (.pointer (some ⟨w2.heap.size + 1, 0, none⟩))).obj } := by
    rw [hgm]; exact G
  refine ⟨?_, hz4, ⟨wx_w1 H4.lies, ?_, ?_, wx_q H4.lies hi rfl, wx_look_in H4.lies hi⟩, ⟨wx_w1 H5.lies, ?_, ?_, wx_q H5.lies hi rfl, wx_look_in H5.lies hi⟩, ⟨?_, ?_, ?_, ?_, ?_⟩, ⟨_, AStep.wo h G' (h.xok.forkQ hi hq ho) rfl (by simp)⟩⟩
  · have := GMap.store (P := Tryz.prog) (w := w4.alloc (.cells #[.iface 64 (.pointer (some ⟨w2.heap.size, 0, none⟩)), .int .i64 0, .int .i64 0, .int .i64 0, .string ⟨#[]⟩, .slice none 0 0, .int .i64 0, .int .i64 0, .int .i64 0, .int .i64 0, .int .i64 0, .int .i64 0, .string ⟨#[]⟩, .string ⟨#[]⟩, .bool false] 82 (0, 0))) (k := .int q) (v := .pointer (some ⟨w2.heap.size + 1, 0, none⟩)) Tryz.underlying72 Tryz.underlying3 (m := gm) (by rw [hgm]; exact PMap.of_gm x.m _) ((Below.heap_alloc w4 _ _ (by omega)).trans hM4)
    simpa only [Key.val] using this
  · rw [World.cell?_of_block (w := w2) (hB4.block b hbl)]; exact p0
  · rw [World.cell?_of_block (w := w2) (hB4.block b hbl)]; exact p7
  · rw [World.cell?_of_block (w := w2) (hB5.block b hbl)]; exact p0
  · rw [World.cell?_of_block (w := w2) (hB5.block b hbl)]; exact p7
  · have := wx_w1 G'.lies
    simpa using this
  · rw [World.cell?_of_block (w := w2) (G'.turned.block b hbl hb)]; exact p0
  · rw [World.cell?_of_block (w := w2) (G'.turned.block b hbl hb)]; exact p7
  · have := wx_q G'.lies (i := i) (PMap.mem_add.2 (.inl hi)) (k := 0) (v := .iface 64 (ptrOf (lw (.F i)))) (by simp [qsV, Ne.symm hqi])
    simpa [Ne.symm hqi, ptrOf] using this
  · have := wx_look_in G'.lies (i := i) (PMap.mem_add.2 (.inl hi))
    simpa [Ne.symm hqi] using this
set_option maxHeartbeats 1000000 in
set_option maxRecDepth 100000 in
theorem after_fork {s l x lw} (i q : Int) (w : World) (h : Al s l x lw w) (hi : i ∈ x.m.keys) (hq : q ∉ x.m.keys) (ho : (x.qs i).fp.own = none) : Calls Tryz.prog 26 #[ptrOf (lw .W), .agg (dnV i 7 0 [] 0 q 0)] w fun e' w' => e' = .returned (.tuple #[]) ∧ ∃ lw', AStep s l x lw w s l (x.forkQ i q) lw' w' := by
  have H := Lib.hid h
  unfold ptrOf dnV at *
  clear h
  go_enter Tryz.func26, Tryz.ntmps26
  go_upto_region 1 with fail
  obtain ⟨w1, hw1, hB, hb, hz⟩ := one_newG w (.cells #[.int .i64 i, .int .i64 7, .int .i64 0, .int .i64 0, .string ByteArray.empty, .string ⟨#[]⟩, .int .i64 0, .int .i64 q, .int .i64 0, .string ByteArray.empty, .slice none 0 0, .int .i64 0, .int .i64 0, .int .i64 0] 39)
  rw [hw1]
  clear hw1
  obtain ⟨p0, p1, p2, p3, p4, p5, p6, p7, _⟩ := cells14 hb
  have H1 := H.out.below hB
  have c1 := wx_w1 H1.wx.lies
  have cq := wx_q H1.wx.lies hi (k := 0) (v := .iface 64 (ptrOf (lw (.F i)))) rfl
  have HB := Lib.hid ((AStep.refl H.out).below hB)
  obtain ⟨gm, hgm⟩ : ∃ gm, gm = x.m.gm fun i => lw (.Q i) := ⟨_, rfl⟩
  have cL := wx_look_in H1.wx.lies hi
  have hmt : ∀ W : World, (method 522 64 (.pointer (some ⟨lw (.F i), 0, none⟩)) "Copy").run Tryz.prog W = .ok (295, .pointer (some ⟨lw (.F i), 0, none⟩)) W := fun _ => by kernel_rfl
  have HD := Lib.hid HB.out.drew
  have cL' := wx_look_in HD.out.is.wx.lies hi
  have HCP := Lib.hid (copy_any i w1.drew HD.out.is.wx hi)
  have hnb : ¬ Owns (x.obj lw) lw w.heap.size := H.out.wx.lies.fresh (Nat.le_refl _)
  have HPR := Lib.hid (fun w4 hw4 => afork_prep i q w.heap.size w1.drew HD.out.is hi hq ho gm hgm hnb (by show w.heap.size < w1.heap.size; omega) p0 p7 w1.heap.size rfl w4 hw4)
  unfold ptrOf at *
  clear p2 p3 p4 p5 p6 hb hB hz H1 hgm hnb
  go_upto_region 3 with fail
  clear p1
  go_region_held3 (fun W => W.cell? ⟨lw .W, 1, none⟩ = some (.map (some (lw .M))) ∧ W.cell? ⟨w.heap.size, 0, none⟩ = some (.int .i64 i) ∧ W.cell? ⟨w.heap.size, 7, none⟩ = some (.int .i64 q) ∧ W.cell? ⟨lw (.Q i), 0, none⟩ = some (.iface 64 (.pointer (some ⟨lw (.F i), 0, none⟩))) ∧ (Instr.lookup 72 (.map (some (lw .M))) (.int .i64 i) false).run Tryz.prog W = .ok (.pointer (some ⟨lw (.Q i), 0, none⟩)) W) (first | exact ⟨c1, p0, p7, cq, cL'⟩ | exact ⟨g1, g0, g7, gq, gL⟩ | exact ⟨k1, k0, k7, kq, kL⟩ | exact ⟨e1, e0, e7, eq', eL⟩ | go_keep | ((try dsimp only); (repeat' apply And.intro) <;> first | go_keep | assumption)) (first | (go_at_call 295; refine HCP.out.mono ?_; rintro e w4 ⟨rfl, hw4⟩; obtain ⟨hmu, hz4, ⟨g1, g0, g7, gq, gL⟩, ⟨k1, k0, k7, kq, kL⟩, ⟨e1, e0, e7, eq', eL⟩, hst⟩ := HPR.out w4 hw4; have HST := Lib.hid hst; clear hst hw4))
  obtain ⟨lw', hst⟩ := HST.out
  have HF := Lib.hid (HD.out.trans hst)
  clear hst
  go_wp2_with fail
  go_end0
  exact ⟨rfl, lw', HF.out⟩
end Go.Proofs.YtelohloaoocoaaaGreatDoor
/- A process of the world: its call, its reply, whether it stands. -/
namespace Go.Proofs.YtelohloaoocoaaaGreatDoor
open Go.RowKit IntWalk
set_option linter.unusedVariables false
set_option linter.unusedSimpArgs false
set_option linter.unnecessarySimpa false

def Qs.asks (q : Qs) (k f : Int) (d : List UInt8) : Qs := { q with ck := k, cf := f, cd := d }
def Qs.told (q : Qs) (e n m : Int) : Qs := { q with re := e, rn := n, rm := m }
def Qs.stood (q : Qs) (b : Bool) : Qs := { q with st := b }
theorem wx_setCall {x : Wx} {lw : WId → Nat} {w : World} {I : Type} {c0 : I → Option Obj} {lay0 : I → Nat} {w0 : World} (G : GStep c0 lay0 w0 (x.obj lw) lw w) {i : Int} (hi : i ∈ x.m.keys) (k f : Int) (d : List UInt8) :
    GStep c0 lay0 w0 ((x.setQ i ((x.qs i).asks k f d)).obj lw) lw (((((w.setCell ⟨lw (.Q i), 9, none⟩ (.int .i64 k)).setCell ⟨lw (.Q i), 10, none⟩ (.int .i64 f)).setCell ⟨lw (.Q i), 11, none⟩ (.int .i64 0)).setCell ⟨lw (.Q i), 12, none⟩ (.string ByteArray.empty)).setCell ⟨lw (.Q i), 13, none⟩ (strV d)) := by
  have h1 := wx_setQ G hi 9 (.int .i64 k) { x.qs i with ck := k } rfl (by simp [qsV])
  have h2 := wx_setQ h1 (i := i) hi 10 (.int .i64 f) { x.qs i with ck := k, cf := f } (by rw [setQ_qs]) (by rw [setQ_qs]; simp [qsV])
  rw [setQ_setQ] at h2
  have h3 := wx_setQ h2 (i := i) hi 11 (.int .i64 0) { x.qs i with ck := k, cf := f } (by rw [setQ_qs]) (by rw [setQ_qs]; simp [qsV])
  rw [setQ_setQ] at h3
  have h4 := wx_setQ h3 (i := i) hi 12 (.string ByteArray.empty) { x.qs i with ck := k, cf := f } (by rw [setQ_qs]) (by rw [setQ_qs]; simp [qsV])
  rw [setQ_setQ] at h4
  have h5 := wx_setQ h4 (i := i) hi 13 (strV d) { x.qs i with ck := k, cf := f, cd := d } (by rw [setQ_qs]) (by rw [setQ_qs]; simp [qsV])
  rw [setQ_setQ] at h5
  exact h5
theorem wx_setReply {x : Wx} {lw : WId → Nat} {w : World} {I : Type} {c0 : I → Option Obj} {lay0 : I → Nat} {w0 : World} (G : GStep c0 lay0 w0 (x.obj lw) lw w) {i : Int} (hi : i ∈ x.m.keys) (e n m : Int) :
    GStep c0 lay0 w0 ((x.setQ i ((x.qs i).told e n m)).obj lw) lw ((((((((w.setCell ⟨lw (.Q i), 1, none⟩ (.int .i64 e)).setCell ⟨lw (.Q i), 2, none⟩ (.int .i64 n)).setCell ⟨lw (.Q i), 3, none⟩ (.int .i64 m)).setCell ⟨lw (.Q i), 4, none⟩ (.string ByteArray.empty)).setCell ⟨lw (.Q i), 5, none⟩ (.slice none 0 0)).setCell ⟨lw (.Q i), 6, none⟩ (.int .i64 0)).setCell ⟨lw (.Q i), 7, none⟩ (.int .i64 0)).setCell ⟨lw (.Q i), 8, none⟩ (.int .i64 0)) := by
  have h1 := wx_setQ G hi 1 (.int .i64 e) { x.qs i with re := e } rfl (by simp [qsV])
  have h2 := wx_setQ h1 (i := i) hi 2 (.int .i64 n) { x.qs i with re := e, rn := n } (by rw [setQ_qs]) (by rw [setQ_qs]; simp [qsV])
  rw [setQ_setQ] at h2
  have h3 := wx_setQ h2 (i := i) hi 3 (.int .i64 m) { x.qs i with re := e, rn := n, rm := m } (by rw [setQ_qs]) (by rw [setQ_qs]; simp [qsV])
  rw [setQ_setQ] at h3
  have h4 := wx_setQ h3 (i := i) hi 4 (.string ByteArray.empty) { x.qs i with re := e, rn := n, rm := m } (by rw [setQ_qs]) (by rw [setQ_qs]; simp [qsV])
  rw [setQ_setQ] at h4
  have h5 := wx_setQ h4 (i := i) hi 5 (.slice none 0 0) { x.qs i with re := e, rn := n, rm := m } (by rw [setQ_qs]) (by rw [setQ_qs]; simp [qsV])
  rw [setQ_setQ] at h5
  have h6 := wx_setQ h5 (i := i) hi 6 (.int .i64 0) { x.qs i with re := e, rn := n, rm := m } (by rw [setQ_qs]) (by rw [setQ_qs]; simp [qsV])
  rw [setQ_setQ] at h6
  have h7 := wx_setQ h6 (i := i) hi 7 (.int .i64 0) { x.qs i with re := e, rn := n, rm := m } (by rw [setQ_qs]) (by rw [setQ_qs]; simp [qsV])
  rw [setQ_setQ] at h7
  have h8 := wx_setQ h7 (i := i) hi 8 (.int .i64 0) { x.qs i with re := e, rn := n, rm := m } (by rw [setQ_qs]) (by rw [setQ_qs]; simp [qsV])
  rw [setQ_setQ] at h8
  exact h8
theorem wx_setSt {x : Wx} {lw : WId → Nat} {w : World} {I : Type} {c0 : I → Option Obj} {lay0 : I → Nat} {w0 : World} (G : GStep c0 lay0 w0 (x.obj lw) lw w) {i : Int} (hi : i ∈ x.m.keys) (b : Bool) :
    GStep c0 lay0 w0 ((x.setQ i ((x.qs i).stood b)).obj lw) lw (w.setCell ⟨lw (.Q i), 14, none⟩ (.bool b)) := wx_setQ G hi 14 (.bool b) ((x.qs i).stood b) rfl (by simp [qsV, Qs.stood])
/-- fourteen cells are stored -/
theorem fourteen_set {w : World} {b : Nat} {v0 v1 v2 v3 v4 v5 v6 v7 v8 v9 v10 v11 v12 v13 : Value} {ty : TypeId} (h : w.heap[b]? = some (.cells #[v0, v1, v2, v3, v4, v5, v6, v7, v8, v9, v10, v11, v12, v13] ty (0, 0))) (u0 u1 u2 u3 u4 u5 u6 u7 u8 u9 u10 u11 u12 u13 : Value) :
    ∃ w', (((((((((((((w.setCell ⟨b, 0, none⟩ u0).setCell ⟨b, 1, none⟩ u1).setCell ⟨b, 2, none⟩ u2).setCell ⟨b, 3, none⟩ u3).setCell ⟨b, 4, none⟩ u4).setCell ⟨b, 5, none⟩ u5).setCell ⟨b, 6, none⟩ u6).setCell ⟨b, 7, none⟩ u7).setCell ⟨b, 8, none⟩ u8).setCell ⟨b, 9, none⟩ u9).setCell ⟨b, 10, none⟩ u10).setCell ⟨b, 11, none⟩ u11).setCell ⟨b, 12, none⟩ u12).setCell ⟨b, 13, none⟩ u13 = w' ∧ Aside b w w' ∧ w'.heap[b]? = some (.cells #[u0, u1, u2, u3, u4, u5, u6, u7, u8, u9, u10, u11, u12, u13] ty (0, 0)) :=
  ⟨_, rfl, (((((((((((((( Aside.refl b w).set 0 _).set 1 _).set 2 _).set 3 _).set 4 _).set 5 _).set 6 _).set 7 _).set 8 _).set 9 _).set 10 _).set 11 _).set 12 _).set 13 _, by
    have h0 := set_row (k := 0) (v := u0) h
    simp only [List.setIfInBounds_toArray, List.set_cons_zero, List.set_cons_succ] at h0
    have h1 := set_row (k := 1) (v := u1) h0
    simp only [List.setIfInBounds_toArray, List.set_cons_zero, List.set_cons_succ] at h1
    have h2 := set_row (k := 2) (v := u2) h1
    simp only [List.setIfInBounds_toArray, List.set_cons_zero, List.set_cons_succ] at h2
    have h3 := set_row (k := 3) (v := u3) h2
    simp only [List.setIfInBounds_toArray, List.set_cons_zero, List.set_cons_succ] at h3
    have h4 := set_row (k := 4) (v := u4) h3
    simp only [List.setIfInBounds_toArray, List.set_cons_zero, List.set_cons_succ] at h4
    have h5 := set_row (k := 5) (v := u5) h4
    simp only [List.setIfInBounds_toArray, List.set_cons_zero, List.set_cons_succ] at h5
    have h6 := set_row (k := 6) (v := u6) h5
    simp only [List.setIfInBounds_toArray, List.set_cons_zero, List.set_cons_succ] at h6
    have h7 := set_row (k := 7) (v := u7) h6
    simp only [List.setIfInBounds_toArray, List.set_cons_zero, List.set_cons_succ] at h7
    have h8 := set_row (k := 8) (v := u8) h7
    simp only [List.setIfInBounds_toArray, List.set_cons_zero, List.set_cons_succ] at h8
    have h9 := set_row (k := 9) (v := u9) h8
    simp only [List.setIfInBounds_toArray, List.set_cons_zero, List.set_cons_succ] at h9
    have h10 := set_row (k := 10) (v := u10) h9
    simp only [List.setIfInBounds_toArray, List.set_cons_zero, List.set_cons_succ] at h10
    have h11 := set_row (k := 11) (v := u11) h10
    simp only [List.setIfInBounds_toArray, List.set_cons_zero, List.set_cons_succ] at h11
    have h12 := set_row (k := 12) (v := u12) h11
    simp only [List.setIfInBounds_toArray, List.set_cons_zero, List.set_cons_succ] at h12
    have h13 := set_row (k := 13) (v := u13) h12
    simp only [List.setIfInBounds_toArray, List.set_cons_zero, List.set_cons_succ] at h13
    exact h13⟩
theorem Wx.Ok.asks {x : Wx} (h : x.Ok) (i k f : Int) (d : List UInt8) : (x.setQ i ((x.qs i).asks k f d)).Ok := h.setQ _ rfl rfl
theorem Wx.Ok.told {x : Wx} (h : x.Ok) (i e n m : Int) : (x.setQ i ((x.qs i).told e n m)).Ok := h.setQ _ rfl rfl
theorem Wx.Ok.stood {x : Wx} (h : x.Ok) (i : Int) (b : Bool) : (x.setQ i ((x.qs i).stood b)).Ok := h.setQ _ rfl rfl
end Go.Proofs.YtelohloaoocoaaaGreatDoor
/- world.Step. -/
namespace Go.Proofs.YtelohloaoocoaaaGreatDoor
open Go.RowKit IntWalk
set_option linter.unusedVariables false
set_option linter.unusedSimpArgs false
set_option linter.unnecessarySimpa false

def Z14 : Array Value := #[.int .i64 0, .int .i64 0, .int .i64 0, .int .i64 0, .string ⟨#[]⟩, .string ⟨#[]⟩, .int .i64 0, .int .i64 0, .int .i64 0, .string ⟨#[]⟩, .slice none 0 0, .int .i64 0, .int .i64 0, .int .i64 0]
/-- the place that a pick says -/
structure PickAt (pick : Int) (n j : Nat) (r0 : Int) : Prop where
  r : pick.tmod n = r0
  lo : -(n : Int) < r0
  hi : r0 < n
  eq : (r0 + n).tmod n = j
  lt : j < n
set_option maxHeartbeats 4000000 in
set_option maxRecDepth 100000 in
theorem step_new {s l x lw} (pick : Int) (j : Nat) (r0 : Int) (i ck cf : Int) (cd : List UInt8) (n m : Int) (P1 : Fp → Prop) (P2 : Ks → Prop) (P3 : Wx → Wx → Prop) (w : World) (h : Al s l x lw w)
    (hlen : s.t.m.es.length ≤ 1000000) (hrl : s.t.ready.length ≤ 1000) (hin : ∀ a ∈ s.t.ready, a ∈ x.m.keys) (hp : PickAt pick s.t.ready.length j r0) (hj : s.t.ready[j]? = some i) (hst : (x.qs i).st = false)
    (hN : ∀ W, Al s l x lw W → Calls Tryz.prog 296 #[ptrOf (lw (.F i)), .agg (rpV (x.qs i).re (x.qs i).rn (x.qs i).rm)] W fun e w' => e = .returned (.agg (clV ck cf cd)) ∧ ∃ p1 lw1, P1 p1 ∧ WStep x lw W (x.setQ i ((x.qs i).withFp p1)) lw1 w' ∧ Keeps lw lw1)
    (hD : ∀ W, KsIs s l W → Calls Tryz.prog 25 #[ptrOf (l.k .K), .int .i64 i, .agg (clV ck cf cd)] W fun e w' => e = .returned (.agg (rpV 0 n m)) ∧ ∃ s' l', P2 s' ∧ KStep s l W s' l' w')
    (hA : ∀ s' l' p1 lw' W, P1 p1 → P2 s' → Al s' l' (x.setQ i (((((x.qs i).withFp p1).asks ck cf cd).stood false).told 0 n m)) lw' W → Calls Tryz.prog 26 #[ptrOf (lw' .W), .agg (dnV i ck cf cd 0 n m)] W fun e w' => e = .returned (.tuple #[]) ∧ ∃ x5 lw5, P3 (x.setQ i (((((x.qs i).withFp p1).asks ck cf cd).stood false).told 0 n m)) x5 ∧ AStep s' l' (x.setQ i (((((x.qs i).withFp p1).asks ck cf cd).stood false).told 0 n m)) lw' W s' l' x5 lw5 w') :
    Calls Tryz.prog 11 #[ptrOf (lw .W), .int .i64 pick] w fun e w' => e = .returned (.tuple #[.agg (dnV i ck cf cd 0 n m), .bool true]) ∧
      ∃ p1 s' l' x5 lw5, P1 p1 ∧ P2 s' ∧ P3 (x.setQ i (((((x.qs i).withFp p1).asks ck cf cd).stood false).told 0 n m)) x5 ∧ AStep s l x lw w s' l' x5 lw5 w' := by
  have hik : i ∈ x.m.keys := hin i (List.mem_of_getElem? hj)
  have H := Lib.hid h
  have HN := Lib.hid hN
  have HD := Lib.hid hD
  have HA := Lib.hid hA
  have HIN := Lib.hid hin
  have HJ := Lib.hid hj
  have HST := Lib.hid hst
  have HPK := Lib.hid hp
  have hWl : lw .W < w.heap.size := h.wx.lies.owns_lt ⟨.W, by simp [Wx.obj], rfl⟩
  clear h hN hD hA hin hj hst hp
  go_enter Tryz.func11, Tryz.ntmps11
  unfold ptrOf dnV
  go_upto_region 1 with fail
  obtain ⟨w1, hw1, hB, hb, hz⟩ := one_newG w (.cells Z14 39)
  unfold Z14 at hw1
  rw [hw1]
  clear hw1
  have HB := Lib.hid ((AStep.refl H.out).below hB)
  have HBK := Lib.hid hb
  have HRD := Lib.hid (wready_any (x := x) (lw := lw) w1 HB.out.is.ks HB.out.is.wx HB.out.is.kb hlen (by omega) HIN.out)
  have hz1 : w.heap.size < w1.heap.size := by omega
  unfold ptrOf at HRD
  clear hB hb hz
  generalize hL : s.t.ready = L at *
  go_upto_region 6 with (go_at_call 24; refine HRD.out.mono ?_; rintro e w2 ⟨v, rfl, hB2, hO⟩; obtain ⟨ad, cap, hv⟩ := hO.slice; have HO := Lib.hid hO; have HB2 := Lib.hid hB2; clear hO hB2; subst hv; have hLpos : 0 < L.length := Nat.lt_of_le_of_lt (Nat.zero_le _) HPK.out.lt)
  rcases HO.out.at with ⟨_, hn⟩ | ⟨g, cap', hv', hbg, hgl, hcap, hcells⟩
  · rw [hn] at hLpos; simp at hLpos
  cases hv'
  have hci := hcells j i HJ.out
  have hp1 := HPK.out.r
  have hp2 := HPK.out.eq
  have hp3 := HPK.out.lo
  have hp4 := HPK.out.hi
  have hp5 := HPK.out.lt
  have hp6 : (j : Int) < L.length := by omega
  have hL1 : (L.length : Int) ≤ 1000 := by omega
  have A2 := Lib.hid ((AStep.refl HB.out.is).below HB2.out)
  have c1 := wx_w1 A2.out.is.wx.lies
  have c14 := wx_q A2.out.is.wx.lies hik (k := 14) (v := .bool false) (by rw [← HST.out]; rfl)
  have hlook := wx_look_in A2.out.is.wx.lies hik
  have HBK2 := Lib.hid ((HB2.out.block _ hz1).trans HBK.out)
  have hz2 : w.heap.size < w2.heap.size := Nat.lt_of_lt_of_le hz1 HB2.out.size
  clear hcells hrl HO
  go_upto_region 9 with fail
  clear hp1 hp2 hp3 hp4 hp5 hp6 hci c1 c14 hlook
  have hnine : ∀ (y : Wx) (lwy : WId → Nat) (W : World), Lies (y.obj lwy) lwy W → i ∈ y.m.keys → Keeps lw lwy → (y.qs i).re = (x.qs i).re → (y.qs i).rn = (x.qs i).rn → (y.qs i).rm = (x.qs i).rm → ((W : World).cell? ⟨lw (.Q i), 0, none⟩ = some (.iface 64 (.pointer (some ⟨lw (.F i), 0, none⟩))) ∧ (W : World).cell? ⟨lw (.Q i), 1, none⟩ = some (.int .i64 (x.qs i).re) ∧ (W : World).cell? ⟨lw (.Q i), 2, none⟩ = some (.int .i64 (x.qs i).rn) ∧ (W : World).cell? ⟨lw (.Q i), 3, none⟩ = some (.int .i64 (x.qs i).rm) ∧ (W : World).cell? ⟨lw (.Q i), 4, none⟩ = some (.string ByteArray.empty) ∧ (W : World).cell? ⟨lw (.Q i), 5, none⟩ = some (.slice none 0 0) ∧ (W : World).cell? ⟨lw (.Q i), 6, none⟩ = some (.int .i64 0) ∧ (W : World).cell? ⟨lw (.Q i), 7, none⟩ = some (.int .i64 0) ∧ (W : World).cell? ⟨lw (.Q i), 8, none⟩ = some (.int .i64 0)) := fun y lwy W hy hi hk e1 e2 e3 => by
    have k1 := hk (.Q i) (by simp)
    have k2 := hk (.F i) (by simp)
    have g := fun k v hk => wx_q hy hi (k := k) (v := v) hk
    rw [k1, k2] at g
    exact ⟨g 0 _ rfl, g 1 _ (by rw [← e1]; rfl), g 2 _ (by rw [← e2]; rfl), g 3 _ (by rw [← e3]; rfl), g 4 _ rfl, g 5 _ rfl, g 6 _ rfl, g 7 _ rfl, g 8 _ rfl⟩
  have hnext : ∀ w3 p1 lw1, P1 p1 → WStep x lw w2.drew (x.setQ i ((x.qs i).withFp p1)) lw1 w3 → Keeps lw lw1 → ((w3 : World).cell? ⟨lw (.Q i), 0, none⟩ = some (.iface 64 (.pointer (some ⟨lw (.F i), 0, none⟩))) ∧ (w3 : World).cell? ⟨lw (.Q i), 1, none⟩ = some (.int .i64 (x.qs i).re) ∧ (w3 : World).cell? ⟨lw (.Q i), 2, none⟩ = some (.int .i64 (x.qs i).rn) ∧ (w3 : World).cell? ⟨lw (.Q i), 3, none⟩ = some (.int .i64 (x.qs i).rm) ∧ (w3 : World).cell? ⟨lw (.Q i), 4, none⟩ = some (.string ByteArray.empty) ∧ (w3 : World).cell? ⟨lw (.Q i), 5, none⟩ = some (.slice none 0 0) ∧ (w3 : World).cell? ⟨lw (.Q i), 6, none⟩ = some (.int .i64 0) ∧ (w3 : World).cell? ⟨lw (.Q i), 7, none⟩ = some (.int .i64 0) ∧ (w3 : World).cell? ⟨lw (.Q i), 8, none⟩ = some (.int .i64 0)) ∧ (∃ u9 u10 u11 u12 u13, w3.cell? ⟨lw (.Q i), 9, none⟩ = some u9 ∧ w3.cell? ⟨lw (.Q i), 10, none⟩ = some u10 ∧ w3.cell? ⟨lw (.Q i), 11, none⟩ = some u11 ∧ w3.cell? ⟨lw (.Q i), 12, none⟩ = some u12 ∧ w3.cell? ⟨lw (.Q i), 13, none⟩ = some u13) ∧ (∀ k, w3.frozen? ⟨lw (.Q i), k, none⟩ = false) ∧
      (((((((w3.setCell ⟨lw (.Q i), 9, none⟩ (.int .i64 ck)).setCell ⟨lw (.Q i), 10, none⟩ (.int .i64 cf)).setCell ⟨lw (.Q i), 11, none⟩ (.int .i64 0)).setCell ⟨lw (.Q i), 12, none⟩ (.string ByteArray.empty)).setCell ⟨lw (.Q i), 13, none⟩ (.string ⟨cd.toArray⟩)) : World).cell? ⟨lw (.Q i), 0, none⟩ = some (.iface 64 (.pointer (some ⟨lw (.F i), 0, none⟩))) ∧ ((((((w3.setCell ⟨lw (.Q i), 9, none⟩ (.int .i64 ck)).setCell ⟨lw (.Q i), 10, none⟩ (.int .i64 cf)).setCell ⟨lw (.Q i), 11, none⟩ (.int .i64 0)).setCell ⟨lw (.Q i), 12, none⟩ (.string ByteArray.empty)).setCell ⟨lw (.Q i), 13, none⟩ (.string ⟨cd.toArray⟩)) : World).cell? ⟨lw (.Q i), 1, none⟩ = some (.int .i64 (x.qs i).re) ∧ ((((((w3.setCell ⟨lw (.Q i), 9, none⟩ (.int .i64 ck)).setCell ⟨lw (.Q i), 10, none⟩ (.int .i64 cf)).setCell ⟨lw (.Q i), 11, none⟩ (.int .i64 0)).setCell ⟨lw (.Q i), 12, none⟩ (.string ByteArray.empty)).setCell ⟨lw (.Q i), 13, none⟩ (.string ⟨cd.toArray⟩)) : World).cell? ⟨lw (.Q i), 2, none⟩ = some (.int .i64 (x.qs i).rn) ∧ ((((((w3.setCell ⟨lw (.Q i), 9, none⟩ (.int .i64 ck)).setCell ⟨lw (.Q i), 10, none⟩ (.int .i64 cf)).setCell ⟨lw (.Q i), 11, none⟩ (.int .i64 0)).setCell ⟨lw (.Q i), 12, none⟩ (.string ByteArray.empty)).setCell ⟨lw (.Q i), 13, none⟩ (.string ⟨cd.toArray⟩)) : World).cell? ⟨lw (.Q i), 3, none⟩ = some (.int .i64 (x.qs i).rm) ∧ ((((((w3.setCell ⟨lw (.Q i), 9, none⟩ (.int .i64 ck)).setCell ⟨lw (.Q i), 10, none⟩ (.int .i64 cf)).setCell ⟨lw (.Q i), 11, none⟩ (.int .i64 0)).setCell ⟨lw (.Q i), 12, none⟩ (.string ByteArray.empty)).setCell ⟨lw (.Q i), 13, none⟩ (.string ⟨cd.toArray⟩)) : World).cell? ⟨lw (.Q i), 4, none⟩ = some (.string ByteArray.empty) ∧ ((((((w3.setCell ⟨lw (.Q i), 9, none⟩ (.int .i64 ck)).setCell ⟨lw (.Q i), 10, none⟩ (.int .i64 cf)).setCell ⟨lw (.Q i), 11, none⟩ (.int .i64 0)).setCell ⟨lw (.Q i), 12, none⟩ (.string ByteArray.empty)).setCell ⟨lw (.Q i), 13, none⟩ (.string ⟨cd.toArray⟩)) : World).cell? ⟨lw (.Q i), 5, none⟩ = some (.slice none 0 0) ∧ ((((((w3.setCell ⟨lw (.Q i), 9, none⟩ (.int .i64 ck)).setCell ⟨lw (.Q i), 10, none⟩ (.int .i64 cf)).setCell ⟨lw (.Q i), 11, none⟩ (.int .i64 0)).setCell ⟨lw (.Q i), 12, none⟩ (.string ByteArray.empty)).setCell ⟨lw (.Q i), 13, none⟩ (.string ⟨cd.toArray⟩)) : World).cell? ⟨lw (.Q i), 6, none⟩ = some (.int .i64 0) ∧ ((((((w3.setCell ⟨lw (.Q i), 9, none⟩ (.int .i64 ck)).setCell ⟨lw (.Q i), 10, none⟩ (.int .i64 cf)).setCell ⟨lw (.Q i), 11, none⟩ (.int .i64 0)).setCell ⟨lw (.Q i), 12, none⟩ (.string ByteArray.empty)).setCell ⟨lw (.Q i), 13, none⟩ (.string ⟨cd.toArray⟩)) : World).cell? ⟨lw (.Q i), 7, none⟩ = some (.int .i64 0) ∧ ((((((w3.setCell ⟨lw (.Q i), 9, none⟩ (.int .i64 ck)).setCell ⟨lw (.Q i), 10, none⟩ (.int .i64 cf)).setCell ⟨lw (.Q i), 11, none⟩ (.int .i64 0)).setCell ⟨lw (.Q i), 12, none⟩ (.string ByteArray.empty)).setCell ⟨lw (.Q i), 13, none⟩ (.string ⟨cd.toArray⟩)) : World).cell? ⟨lw (.Q i), 8, none⟩ = some (.int .i64 0)) ∧ AStep s l x lw w1 s l (x.setQ i (((x.qs i).withFp p1).asks ck cf cd)) lw1 (((((w3.setCell ⟨lw (.Q i), 9, none⟩ (.int .i64 ck)).setCell ⟨lw (.Q i), 10, none⟩ (.int .i64 cf)).setCell ⟨lw (.Q i), 11, none⟩ (.int .i64 0)).setCell ⟨lw (.Q i), 12, none⟩ (.string ByteArray.empty)).setCell ⟨lw (.Q i), 13, none⟩ (.string ⟨cd.toArray⟩)) := fun w3 p1 lw1 hP hW hK => by
    have A3 := A2.out.drew.trans (AStep.wo A2.out.drew.is hW.g hW.ok rfl hW.top)
    have k1 := hK (.Q i) (by simp)
    have G := wx_setCall (GStep.refl A3.is.wx.lies) (i := i) hik ck cf cd
    rw [setQ_setQ, setQ_qs, k1] at G
    have A4 := A3.trans (AStep.wo A3.is G (by have := A3.xok.asks i ck cf cd; rw [setQ_setQ, setQ_qs] at this; exact this) rfl rfl)
    refine ⟨hnine _ _ _ A3.is.wx.lies hik hK (by rw [setQ_qs]; rfl) (by rw [setQ_qs]; rfl) (by rw [setQ_qs]; rfl), ⟨_, _, _, _, _, k1 ▸ wx_q A3.is.wx.lies (i := i) hik (k := 9) rfl, k1 ▸ wx_q A3.is.wx.lies (i := i) hik (k := 10) rfl, k1 ▸ wx_q A3.is.wx.lies (i := i) hik (k := 11) rfl, k1 ▸ wx_q A3.is.wx.lies (i := i) hik (k := 12) rfl, k1 ▸ wx_q A3.is.wx.lies (i := i) hik (k := 13) rfl⟩, fun k => k1 ▸ wx_qf A3.is.wx.lies (i := i) hik k, hnine _ _ _ A4.is.wx.lies hik hK (by rw [setQ_qs]; rfl) (by rw [setQ_qs]; rfl) (by rw [setQ_qs]; rfl), A4⟩
  have h9a := hnine x lw w2 A2.out.is.wx.lies hik (fun j _ => rfl) rfl rfl rfl
  have HNX := Lib.hid hnext
  have HNN := Lib.hid (HN.out w2.drew A2.out.drew.is)
  unfold ptrOf rpV clV at HNN
  clear hnine hnext
  have h9d : (w2.drew : World).cell? ⟨lw (.Q i), 0, none⟩ = some (.iface 64 (.pointer (some ⟨lw (.F i), 0, none⟩))) ∧ (w2.drew : World).cell? ⟨lw (.Q i), 1, none⟩ = some (.int .i64 (x.qs i).re) ∧ (w2.drew : World).cell? ⟨lw (.Q i), 2, none⟩ = some (.int .i64 (x.qs i).rn) ∧ (w2.drew : World).cell? ⟨lw (.Q i), 3, none⟩ = some (.int .i64 (x.qs i).rm) ∧ (w2.drew : World).cell? ⟨lw (.Q i), 4, none⟩ = some (.string ByteArray.empty) ∧ (w2.drew : World).cell? ⟨lw (.Q i), 5, none⟩ = some (.slice none 0 0) ∧ (w2.drew : World).cell? ⟨lw (.Q i), 6, none⟩ = some (.int .i64 0) ∧ (w2.drew : World).cell? ⟨lw (.Q i), 7, none⟩ = some (.int .i64 0) ∧ (w2.drew : World).cell? ⟨lw (.Q i), 8, none⟩ = some (.int .i64 0) := h9a
  have hmt : ∀ W : World, (method 522 64 (.pointer (some ⟨lw (.F i), 0, none⟩)) "Next").run Tryz.prog W = .ok (296, .pointer (some ⟨lw (.F i), 0, none⟩)) W := fun _ => by kernel_rfl
  have hQl : lw (.Q i) < w.heap.size := wx_ql H.out.wx.lies hik
  go_region_held3 (fun W => W.cell? ⟨lw (.Q i), 0, none⟩ = some (.iface 64 (.pointer (some ⟨lw (.F i), 0, none⟩))) ∧ W.cell? ⟨lw (.Q i), 1, none⟩ = some (.int .i64 (x.qs i).re) ∧ W.cell? ⟨lw (.Q i), 2, none⟩ = some (.int .i64 (x.qs i).rn) ∧ W.cell? ⟨lw (.Q i), 3, none⟩ = some (.int .i64 (x.qs i).rm) ∧ W.cell? ⟨lw (.Q i), 4, none⟩ = some (.string ByteArray.empty) ∧ W.cell? ⟨lw (.Q i), 5, none⟩ = some (.slice none 0 0) ∧ W.cell? ⟨lw (.Q i), 6, none⟩ = some (.int .i64 0) ∧ W.cell? ⟨lw (.Q i), 7, none⟩ = some (.int .i64 0) ∧ W.cell? ⟨lw (.Q i), 8, none⟩ = some (.int .i64 0)) (first | with_reducible exact h9d | with_reducible exact g9 | with_reducible exact g10 | go_keep | ((try dsimp only); (repeat' apply And.intro) <;> first | go_keep | assumption)) (first | (go_at_call 296; refine HNN.out.mono ?_; rintro e w3 ⟨rfl, p1, lw1, hP1, hW, hK⟩; obtain ⟨g9, ⟨u9, u10, u11, u12, u13, q9, q10, q11, q12, q13⟩, qf, g10, hA4⟩ := HNX.out w3 p1 lw1 hP1 hW hK; have HA4 := Lib.hid hA4; have HPP := Lib.hid (And.intro hP1 hK); clear hP1 hW hK hA4))
  go_upto_region 10 with fail
  generalize (((((w3.setCell ⟨lw (.Q i), 9, none⟩ (.int .i64 ck)).setCell ⟨lw (.Q i), 10, none⟩ (.int .i64 cf)).setCell ⟨lw (.Q i), 11, none⟩ (.int .i64 0)).setCell ⟨lw (.Q i), 12, none⟩ (.string ByteArray.empty)).setCell ⟨lw (.Q i), 13, none⟩ (.string ⟨cd.toArray⟩)) = w4 at *
  obtain ⟨hP1, hK1⟩ := HPP.out
  have kQ := hK1 (.Q i) (by simp)
  have kW := hK1 .W (by simp)
  have hsix : ∀ (s1 : Ks) (l1 : Ly) (W : World), Al s1 l1 (x.setQ i (((x.qs i).withFp p1).asks ck cf cd)) lw1 W → l1.k .K = l.k .K → (W : World).cell? ⟨lw .W, 0, none⟩ = some (.pointer (some ⟨l.k .K, 0, none⟩)) ∧ (W : World).cell? ⟨lw (.Q i), 9, none⟩ = some (.int .i64 ck) ∧ (W : World).cell? ⟨lw (.Q i), 10, none⟩ = some (.int .i64 cf) ∧ (W : World).cell? ⟨lw (.Q i), 11, none⟩ = some (.int .i64 0) ∧ (W : World).cell? ⟨lw (.Q i), 12, none⟩ = some (.string ByteArray.empty) ∧ (W : World).cell? ⟨lw (.Q i), 13, none⟩ = some (.string ⟨cd.toArray⟩) := fun s1 l1 W hW hk => by
    have g0 := wx_w0 hW.wx.lies
    rw [hW.kb, hk, kW] at g0
    have g := fun k v hk => wx_q hW.wx.lies (i := i) hik (k := k) (v := v) hk
    rw [kQ, setQ_qs] at g
    exact ⟨g0, g 9 _ rfl, g 10 _ rfl, g 11 _ rfl, g 12 _ rfl, g 13 _ rfl⟩
  have h6 : (w4.drew : World).cell? ⟨lw .W, 0, none⟩ = some (.pointer (some ⟨l.k .K, 0, none⟩)) ∧ (w4.drew : World).cell? ⟨lw (.Q i), 9, none⟩ = some (.int .i64 ck) ∧ (w4.drew : World).cell? ⟨lw (.Q i), 10, none⟩ = some (.int .i64 cf) ∧ (w4.drew : World).cell? ⟨lw (.Q i), 11, none⟩ = some (.int .i64 0) ∧ (w4.drew : World).cell? ⟨lw (.Q i), 12, none⟩ = some (.string ByteArray.empty) ∧ (w4.drew : World).cell? ⟨lw (.Q i), 13, none⟩ = some (.string ⟨cd.toArray⟩) := hsix s l w4.drew HA4.out.drew.is rfl
  have HB4 := Lib.hid ((HA4.out.below ((Below.refl _ w4).alloc (Nat.le_refl _) (.cells #[.int .i64 0, .int .i64 0, .int .i64 0, .string ⟨#[]⟩, .slice none 0 0, .int .i64 0, .int .i64 0, .int .i64 0] 37))).drew)
  have h6b : ((w4.alloc (.cells #[.int .i64 0, .int .i64 0, .int .i64 0, .string ⟨#[]⟩, .slice none 0 0, .int .i64 0, .int .i64 0, .int .i64 0] 37)).drew : World).cell? ⟨lw .W, 0, none⟩ = some (.pointer (some ⟨l.k .K, 0, none⟩)) ∧ ((w4.alloc (.cells #[.int .i64 0, .int .i64 0, .int .i64 0, .string ⟨#[]⟩, .slice none 0 0, .int .i64 0, .int .i64 0, .int .i64 0] 37)).drew : World).cell? ⟨lw (.Q i), 9, none⟩ = some (.int .i64 ck) ∧ ((w4.alloc (.cells #[.int .i64 0, .int .i64 0, .int .i64 0, .string ⟨#[]⟩, .slice none 0 0, .int .i64 0, .int .i64 0, .int .i64 0] 37)).drew : World).cell? ⟨lw (.Q i), 10, none⟩ = some (.int .i64 cf) ∧ ((w4.alloc (.cells #[.int .i64 0, .int .i64 0, .int .i64 0, .string ⟨#[]⟩, .slice none 0 0, .int .i64 0, .int .i64 0, .int .i64 0] 37)).drew : World).cell? ⟨lw (.Q i), 11, none⟩ = some (.int .i64 0) ∧ ((w4.alloc (.cells #[.int .i64 0, .int .i64 0, .int .i64 0, .string ⟨#[]⟩, .slice none 0 0, .int .i64 0, .int .i64 0, .int .i64 0] 37)).drew : World).cell? ⟨lw (.Q i), 12, none⟩ = some (.string ByteArray.empty) ∧ ((w4.alloc (.cells #[.int .i64 0, .int .i64 0, .int .i64 0, .string ⟨#[]⟩, .slice none 0 0, .int .i64 0, .int .i64 0, .int .i64 0] 37)).drew : World).cell? ⟨lw (.Q i), 13, none⟩ = some (.string ⟨cd.toArray⟩) := hsix s l _ HB4.out.is rfl
  have hKl : l.k .K < w4.heap.size := HA4.out.is.ks.kl
  have hQl4 : lw (.Q i) < w4.heap.size := by rw [← kQ]; exact wx_ql HA4.out.is.wx.lies (i := i) hik
  have hWl4 : lw .W < w4.heap.size := by rw [← kW]; exact HA4.out.is.wx.lies.owns_lt ⟨.W, by simp [Wx.obj], rfl⟩
  have HDA := Lib.hid (HD.out w4.drew HA4.out.drew.is.ks)
  have HDB := Lib.hid (HD.out (w4.alloc (.cells #[.int .i64 0, .int .i64 0, .int .i64 0, .string ⟨#[]⟩, .slice none 0 0, .int .i64 0, .int .i64 0, .int .i64 0] 37)).drew HB4.out.is.ks)
  have hdo : ∀ w5 s' l', P2 s' → KStep s l w4.drew s' l' w5 → ((w5 : World).cell? ⟨lw .W, 0, none⟩ = some (.pointer (some ⟨l.k .K, 0, none⟩)) ∧ (w5 : World).cell? ⟨lw (.Q i), 9, none⟩ = some (.int .i64 ck) ∧ (w5 : World).cell? ⟨lw (.Q i), 10, none⟩ = some (.int .i64 cf) ∧ (w5 : World).cell? ⟨lw (.Q i), 11, none⟩ = some (.int .i64 0) ∧ (w5 : World).cell? ⟨lw (.Q i), 12, none⟩ = some (.string ByteArray.empty) ∧ (w5 : World).cell? ⟨lw (.Q i), 13, none⟩ = some (.string ⟨cd.toArray⟩)) ∧ AStep s l x lw w1 s' l' (x.setQ i (((x.qs i).withFp p1).asks ck cf cd)) lw1 w5 ∧ lw (.Q i) < w5.heap.size ∧ lw .W < w5.heap.size ∧ (∀ o : Obj, (w5.alloc o : World).cell? ⟨lw .W, 0, none⟩ = some (.pointer (some ⟨l.k .K, 0, none⟩)) ∧ (w5.alloc o : World).cell? ⟨lw (.Q i), 9, none⟩ = some (.int .i64 ck) ∧ (w5.alloc o : World).cell? ⟨lw (.Q i), 10, none⟩ = some (.int .i64 cf) ∧ (w5.alloc o : World).cell? ⟨lw (.Q i), 11, none⟩ = some (.int .i64 0) ∧ (w5.alloc o : World).cell? ⟨lw (.Q i), 12, none⟩ = some (.string ByteArray.empty) ∧ (w5.alloc o : World).cell? ⟨lw (.Q i), 13, none⟩ = some (.string ⟨cd.toArray⟩)) := fun w5 s' l' hP hK => by
    have A5 := HA4.out.drew.trans (AStep.ke HA4.out.drew.is hK)
    exact ⟨hsix s' l' w5 A5.is A5.topK, A5, by rw [← kQ]; exact wx_ql A5.is.wx.lies (i := i) hik, by rw [← kW]; exact A5.is.wx.lies.owns_lt ⟨.W, by simp [Wx.obj], rfl⟩, fun o => hsix s' l' _ (A5.below ((Below.refl _ w5).alloc (Nat.le_refl _) o)).is A5.topK⟩
  have hdob : ∀ w5 s' l', P2 s' → KStep s l (w4.alloc (.cells #[.int .i64 0, .int .i64 0, .int .i64 0, .string ⟨#[]⟩, .slice none 0 0, .int .i64 0, .int .i64 0, .int .i64 0] 37)).drew s' l' w5 → ((w5 : World).cell? ⟨lw .W, 0, none⟩ = some (.pointer (some ⟨l.k .K, 0, none⟩)) ∧ (w5 : World).cell? ⟨lw (.Q i), 9, none⟩ = some (.int .i64 ck) ∧ (w5 : World).cell? ⟨lw (.Q i), 10, none⟩ = some (.int .i64 cf) ∧ (w5 : World).cell? ⟨lw (.Q i), 11, none⟩ = some (.int .i64 0) ∧ (w5 : World).cell? ⟨lw (.Q i), 12, none⟩ = some (.string ByteArray.empty) ∧ (w5 : World).cell? ⟨lw (.Q i), 13, none⟩ = some (.string ⟨cd.toArray⟩)) ∧ AStep s l x lw w1 s' l' (x.setQ i (((x.qs i).withFp p1).asks ck cf cd)) lw1 w5 ∧ w5.heap[w4.heap.size]? = some (.cells #[.int .i64 0, .int .i64 0, .int .i64 0, .string ⟨#[]⟩, .slice none 0 0, .int .i64 0, .int .i64 0, .int .i64 0] 37 (0, 0)) ∧ ¬ Owns (Sum.elim (s'.obj l') ((x.setQ i (((x.qs i).withFp p1).asks ck cf cd)).obj lw1)) (Sum.elim l'.all lw1) w4.heap.size ∧ ((((((((((w5.setCell ⟨w4.heap.size, 0, none⟩ (.int .i64 0)).setCell ⟨w4.heap.size, 1, none⟩ (.int .i64 n)).setCell ⟨w4.heap.size, 2, none⟩ (.int .i64 m)).setCell ⟨w4.heap.size, 3, none⟩ (.string ByteArray.empty)).setCell ⟨w4.heap.size, 4, none⟩ (.slice none 0 0)).setCell ⟨w4.heap.size, 5, none⟩ (.int .i64 0)).setCell ⟨w4.heap.size, 6, none⟩ (.int .i64 0)).setCell ⟨w4.heap.size, 7, none⟩ (.int .i64 0)) : World).cell? ⟨lw .W, 0, none⟩ = some (.pointer (some ⟨l.k .K, 0, none⟩)) ∧ (((((((((w5.setCell ⟨w4.heap.size, 0, none⟩ (.int .i64 0)).setCell ⟨w4.heap.size, 1, none⟩ (.int .i64 n)).setCell ⟨w4.heap.size, 2, none⟩ (.int .i64 m)).setCell ⟨w4.heap.size, 3, none⟩ (.string ByteArray.empty)).setCell ⟨w4.heap.size, 4, none⟩ (.slice none 0 0)).setCell ⟨w4.heap.size, 5, none⟩ (.int .i64 0)).setCell ⟨w4.heap.size, 6, none⟩ (.int .i64 0)).setCell ⟨w4.heap.size, 7, none⟩ (.int .i64 0)) : World).cell? ⟨lw (.Q i), 9, none⟩ = some (.int .i64 ck) ∧ (((((((((w5.setCell ⟨w4.heap.size, 0, none⟩ (.int .i64 0)).setCell ⟨w4.heap.size, 1, none⟩ (.int .i64 n)).setCell ⟨w4.heap.size, 2, none⟩ (.int .i64 m)).setCell ⟨w4.heap.size, 3, none⟩ (.string ByteArray.empty)).setCell ⟨w4.heap.size, 4, none⟩ (.slice none 0 0)).setCell ⟨w4.heap.size, 5, none⟩ (.int .i64 0)).setCell ⟨w4.heap.size, 6, none⟩ (.int .i64 0)).setCell ⟨w4.heap.size, 7, none⟩ (.int .i64 0)) : World).cell? ⟨lw (.Q i), 10, none⟩ = some (.int .i64 cf) ∧ (((((((((w5.setCell ⟨w4.heap.size, 0, none⟩ (.int .i64 0)).setCell ⟨w4.heap.size, 1, none⟩ (.int .i64 n)).setCell ⟨w4.heap.size, 2, none⟩ (.int .i64 m)).setCell ⟨w4.heap.size, 3, none⟩ (.string ByteArray.empty)).setCell ⟨w4.heap.size, 4, none⟩ (.slice none 0 0)).setCell ⟨w4.heap.size, 5, none⟩ (.int .i64 0)).setCell ⟨w4.heap.size, 6, none⟩ (.int .i64 0)).setCell ⟨w4.heap.size, 7, none⟩ (.int .i64 0)) : World).cell? ⟨lw (.Q i), 11, none⟩ = some (.int .i64 0) ∧ (((((((((w5.setCell ⟨w4.heap.size, 0, none⟩ (.int .i64 0)).setCell ⟨w4.heap.size, 1, none⟩ (.int .i64 n)).setCell ⟨w4.heap.size, 2, none⟩ (.int .i64 m)).setCell ⟨w4.heap.size, 3, none⟩ (.string ByteArray.empty)).setCell ⟨w4.heap.size, 4, none⟩ (.slice none 0 0)).setCell ⟨w4.heap.size, 5, none⟩ (.int .i64 0)).setCell ⟨w4.heap.size, 6, none⟩ (.int .i64 0)).setCell ⟨w4.heap.size, 7, none⟩ (.int .i64 0)) : World).cell? ⟨lw (.Q i), 12, none⟩ = some (.string ByteArray.empty) ∧ (((((((((w5.setCell ⟨w4.heap.size, 0, none⟩ (.int .i64 0)).setCell ⟨w4.heap.size, 1, none⟩ (.int .i64 n)).setCell ⟨w4.heap.size, 2, none⟩ (.int .i64 m)).setCell ⟨w4.heap.size, 3, none⟩ (.string ByteArray.empty)).setCell ⟨w4.heap.size, 4, none⟩ (.slice none 0 0)).setCell ⟨w4.heap.size, 5, none⟩ (.int .i64 0)).setCell ⟨w4.heap.size, 6, none⟩ (.int .i64 0)).setCell ⟨w4.heap.size, 7, none⟩ (.int .i64 0)) : World).cell? ⟨lw (.Q i), 13, none⟩ = some (.string ⟨cd.toArray⟩)) ∧ AStep s l x lw w1 s' l' (x.setQ i (((x.qs i).withFp p1).asks ck cf cd)) lw1 ((((((((w5.setCell ⟨w4.heap.size, 0, none⟩ (.int .i64 0)).setCell ⟨w4.heap.size, 1, none⟩ (.int .i64 n)).setCell ⟨w4.heap.size, 2, none⟩ (.int .i64 m)).setCell ⟨w4.heap.size, 3, none⟩ (.string ByteArray.empty)).setCell ⟨w4.heap.size, 4, none⟩ (.slice none 0 0)).setCell ⟨w4.heap.size, 5, none⟩ (.int .i64 0)).setCell ⟨w4.heap.size, 6, none⟩ (.int .i64 0)).setCell ⟨w4.heap.size, 7, none⟩ (.int .i64 0)) ∧ ((((((((w5.setCell ⟨w4.heap.size, 0, none⟩ (.int .i64 0)).setCell ⟨w4.heap.size, 1, none⟩ (.int .i64 n)).setCell ⟨w4.heap.size, 2, none⟩ (.int .i64 m)).setCell ⟨w4.heap.size, 3, none⟩ (.string ByteArray.empty)).setCell ⟨w4.heap.size, 4, none⟩ (.slice none 0 0)).setCell ⟨w4.heap.size, 5, none⟩ (.int .i64 0)).setCell ⟨w4.heap.size, 6, none⟩ (.int .i64 0)).setCell ⟨w4.heap.size, 7, none⟩ (.int .i64 0)).heap[w4.heap.size]? = some (.cells #[(.int .i64 0), (.int .i64 n), (.int .i64 m), (.string ByteArray.empty), (.slice none 0 0), (.int .i64 0), (.int .i64 0), (.int .i64 0)] 37 (0, 0)) := fun w5 s' l' hP hK => by
    have A5' := AStep.ke HB4.out.is hK
    have A5 := HB4.out.trans A5'
    have hf := HA4.out.is.fresh (Nat.le_refl w4.heap.size)
    have hb9 := A5'.g.heap (show ((w4.alloc (.cells #[.int .i64 0, .int .i64 0, .int .i64 0, .string ⟨#[]⟩, .slice none 0 0, .int .i64 0, .int .i64 0, .int .i64 0] 37)).drew).heap[w4.heap.size]? = _ from Array.getElem?_push_size) hf
    have hn9 := A5'.g.fresh hf (by simp)
    obtain ⟨w6, hw6, hA6, hc6⟩ := eight_set hb9 (.int .i64 0) (.int .i64 n) (.int .i64 m) (.string ByteArray.empty) (.slice none 0 0) (.int .i64 0) (.int .i64 0) (.int .i64 0)
    have h16 : w1.heap.size ≤ w4.heap.size := HA4.out.g.turned.size
    have A6 := A5.aside hA6 h16 hn9
    rw [hw6]
    exact ⟨hsix s' l' w5 A5.is A5.topK, A5, hb9, hn9, hsix s' l' w6 A6.is A6.topK, A6, hc6⟩
  have HDO := Lib.hid hdo
  have HDOB := Lib.hid hdob
  have HKQ := Lib.hid (And.intro hK1 (And.intro kQ kW))
  have HP1 := Lib.hid hP1
  unfold ptrOf rpV clV at HDA HDB
  clear hsix hdo hdob hK1 kQ kW hP1 h9a h9d g9 g10 q9 q10 q11 q12 q13 qf HNX HNN hmt HPP
  have H6 := Lib.hid h6
  have H6B := Lib.hid h6b
  clear h6 h6b hbg hgl hcap hL1 hLpos hL
  go_region_held3 (fun W => W.cell? ⟨lw .W, 0, none⟩ = some (.pointer (some ⟨l.k .K, 0, none⟩)) ∧ W.cell? ⟨lw (.Q i), 9, none⟩ = some (.int .i64 ck) ∧ W.cell? ⟨lw (.Q i), 10, none⟩ = some (.int .i64 cf) ∧ W.cell? ⟨lw (.Q i), 11, none⟩ = some (.int .i64 0) ∧ W.cell? ⟨lw (.Q i), 12, none⟩ = some (.string ByteArray.empty) ∧ W.cell? ⟨lw (.Q i), 13, none⟩ = some (.string ⟨cd.toArray⟩)) (first | with_reducible exact H6.out | with_reducible exact H6B.out | with_reducible exact HG6.out | with_reducible exact H6C.out _ | with_reducible exact H6D.out | go_keep | ((try dsimp only); (repeat' apply And.intro) <;> first | go_keep | assumption)) (first
    | (go_at_call 25; ((with_reducible refine HDA.out.mono ?_)); rintro e w5 ⟨rfl, s', l', hP2, hK⟩; obtain ⟨g6, hA5, hQl5, hWl5, g6c⟩ := HDO.out w5 s' l' hP2 hK; have HG6 := Lib.hid g6; clear g6; have HA5 := Lib.hid hA5; have HP2 := Lib.hid hP2; have H6C := Lib.hid g6c; clear hP2 hK hA5 g6c)
    | (go_at_call 25; ((with_reducible refine HDB.out.mono ?_)); rintro e w5 ⟨rfl, s', l', hP2, hK⟩; obtain ⟨g6, hA5, hb9, hn9, g6d, hA6, hc6⟩ := HDOB.out w5 s' l' hP2 hK; have HG6 := Lib.hid g6; clear g6; have HA5 := Lib.hid hA5; have HP2 := Lib.hid hP2; have HN9 := Lib.hid hn9; have HB9 := Lib.hid hb9; obtain ⟨t0, t1, t2, t3, t4, t5, t6, t7, tf⟩ := cells8 hb9; have H6D := Lib.hid g6d; have HA6 := Lib.hid hA6; have HC6 := Lib.hid hc6; clear hP2 hK hA5 hn9 hb9 g6d hA6 hc6))
  all_goals
    first
      | (have hA6 := HA5.out.below ((Below.refl _ w5).alloc (Nat.le_refl _) (.cells #[.int .i64 0, .int .i64 n, .int .i64 m, .string ByteArray.empty, .slice none 0 0, .int .i64 0, .int .i64 0, .int .i64 0] 37))
         have hC6 : (w5.alloc (.cells #[.int .i64 0, .int .i64 n, .int .i64 m, .string ByteArray.empty, .slice none 0 0, .int .i64 0, .int .i64 0, .int .i64 0] 37)).heap[w5.heap.size]? = some (.cells #[.int .i64 0, .int .i64 n, .int .i64 m, .string ByteArray.empty, .slice none 0 0, .int .i64 0, .int .i64 0, .int .i64 0] 37 (0, 0)) := Array.getElem?_push_size
         have hN6 := HA5.out.is.fresh (Nat.le_refl w5.heap.size)
         have h16 : w1.heap.size ≤ w5.heap.size := HA5.out.g.turned.size
         clear H6C HG6 hQl5 hWl5
         generalize w5.alloc (.cells #[.int .i64 0, .int .i64 n, .int .i64 m, .string ByteArray.empty, .slice none 0 0, .int .i64 0, .int .i64 0, .int .i64 0] 37) = w6 at *
         generalize w5.heap.size = b9 at *)
      | (have hA6 := HA6.out
         have hC6 := HC6.out
         have hN6 := HN9.out
         have h16 : w1.heap.size ≤ w4.heap.size := HA4.out.g.turned.size
         clear H6D HG6 HA6 HC6 HN9 HB9 t0 t1 t2 t3 t4 t5 t6 t7 tf
         generalize ((((((((w5.setCell ⟨w4.heap.size, 0, none⟩ (.int .i64 0)).setCell ⟨w4.heap.size, 1, none⟩ (.int .i64 n)).setCell ⟨w4.heap.size, 2, none⟩ (.int .i64 m)).setCell ⟨w4.heap.size, 3, none⟩ (.string ByteArray.empty)).setCell ⟨w4.heap.size, 4, none⟩ (.slice none 0 0)).setCell ⟨w4.heap.size, 5, none⟩ (.int .i64 0)).setCell ⟨w4.heap.size, 6, none⟩ (.int .i64 0)).setCell ⟨w4.heap.size, 7, none⟩ (.int .i64 0)) = w6 at *
         generalize w4.heap.size = b9 at *)
    obtain ⟨hK1, kQ, kW⟩ := HKQ.out
    have q14 := wx_q hA6.is.wx.lies (i := i) hik (k := 14) (v := .bool false) (by rw [setQ_qs]; show some (Value.bool ((x.qs i).st)) = _; rw [HST.out])
    have qff := wx_qf hA6.is.wx.lies (i := i) hik
    have G7 := wx_setSt (GStep.refl hA6.is.wx.lies) (i := i) hik false
    rw [setQ_setQ, setQ_qs, kQ] at G7
    rw [kQ] at q14 qff
    have hne9 : b9 ≠ lw (.Q i) := fun e => hN6 (e ▸ (owns_sum.2 (.inr ⟨.Q i, by rw [Wx.obj_q (show i ∈ (x.setQ i (((x.qs i).withFp p1).asks ck cf cd)).m.keys from hik)]; simp, kQ⟩)))
    have hb9lt : b9 < w6.heap.size := by
      rcases Nat.lt_or_ge b9 w6.heap.size with h | h
      · exact h
      · rw [Array.getElem?_eq_none h] at hC6; cases hC6
    have A67 := AStep.wo hA6.is G7 (by have := hA6.xok.stood i false; rw [setQ_setQ, setQ_qs] at this; exact this) rfl rfl
    have hC7 := A67.g.heap hC6 hN6
    have hN7 := A67.g.fresh hN6 hb9lt
    have A7 := hA6.trans A67
    obtain ⟨r0', r1', r2', r3', r4', r5', r6', r7', rf'⟩ := cells8 hC6
    have HN6 := Lib.hid hN6
    have HA7 := Lib.hid A7
    have HC7 := Lib.hid hC7
    have HN7 := Lib.hid hN7
    have h67 : (w6.setCell ⟨lw (.Q i), 14, none⟩ (.bool false)).heap.size = w6.heap.size := by simp
    clear hN6 hC6 hA6 G7 A67 hN7 A7
    go_upto_region 13 with fail
    clear r0' r1' r2' r3' r4' r5' r6' r7' rf'
    obtain ⟨r0', r1', r2', r3', r4', r5', r6', r7', rf'⟩ := cells8 hC7
    clear hC7 q14
    obtain ⟨u1, u2, u3, u4, u5, u6, u7, u8, e1, e2, e3, e4, e5, e6, e7, e8⟩ : ∃ u1 u2 u3 u4 u5 u6 u7 u8, (w6.setCell ⟨lw (.Q i), 14, none⟩ (.bool false) : World).cell? ⟨lw (.Q i), 1, none⟩ = some u1 ∧ (w6.setCell ⟨lw (.Q i), 14, none⟩ (.bool false) : World).cell? ⟨lw (.Q i), 2, none⟩ = some u2 ∧ (w6.setCell ⟨lw (.Q i), 14, none⟩ (.bool false) : World).cell? ⟨lw (.Q i), 3, none⟩ = some u3 ∧ (w6.setCell ⟨lw (.Q i), 14, none⟩ (.bool false) : World).cell? ⟨lw (.Q i), 4, none⟩ = some u4 ∧ (w6.setCell ⟨lw (.Q i), 14, none⟩ (.bool false) : World).cell? ⟨lw (.Q i), 5, none⟩ = some u5 ∧ (w6.setCell ⟨lw (.Q i), 14, none⟩ (.bool false) : World).cell? ⟨lw (.Q i), 6, none⟩ = some u6 ∧ (w6.setCell ⟨lw (.Q i), 14, none⟩ (.bool false) : World).cell? ⟨lw (.Q i), 7, none⟩ = some u7 ∧ (w6.setCell ⟨lw (.Q i), 14, none⟩ (.bool false) : World).cell? ⟨lw (.Q i), 8, none⟩ = some u8 := ⟨_, _, _, _, _, _, _, _, kQ ▸ wx_q HA7.out.is.wx.lies (i := i) hik (k := 1) rfl, kQ ▸ wx_q HA7.out.is.wx.lies (i := i) hik (k := 2) rfl, kQ ▸ wx_q HA7.out.is.wx.lies (i := i) hik (k := 3) rfl, kQ ▸ wx_q HA7.out.is.wx.lies (i := i) hik (k := 4) rfl, kQ ▸ wx_q HA7.out.is.wx.lies (i := i) hik (k := 5) rfl, kQ ▸ wx_q HA7.out.is.wx.lies (i := i) hik (k := 6) rfl, kQ ▸ wx_q HA7.out.is.wx.lies (i := i) hik (k := 7) rfl, kQ ▸ wx_q HA7.out.is.wx.lies (i := i) hik (k := 8) rfl⟩
    have qf7 := wx_qf HA7.out.is.wx.lies (i := i) hik
    rw [kQ] at qf7
    generalize w6.setCell ⟨lw (.Q i), 14, none⟩ (.bool false) = w7 at *
    clear qff
    try clear HN6
    try clear HC6
    try clear h67
    go_upto_region 14 with fail
    clear r0' r1' r2' r3' r4' r5' r6' r7' rf' e1 e2 e3 e4 e5 e6 e7 e8
    have G8 := wx_setReply (GStep.refl HA7.out.is.wx.lies) (i := i) hik 0 n m
    rw [setQ_setQ, setQ_qs, kQ] at G8
    have A78 := AStep.wo HA7.out.is G8 (by have := HA7.out.xok.told i 0 n m; rw [setQ_setQ, setQ_qs] at this; exact this) rfl rfl
    have hb97 : b9 < w7.heap.size := by
      have hC7 := HC7.out
      rcases Nat.lt_or_ge b9 w7.heap.size with h | h
      · exact h
      · rw [Array.getElem?_eq_none h] at hC7; cases hC7
    have HA8 := Lib.hid (HA7.out.trans A78)
    have HC8 := Lib.hid (A78.g.heap HC7.out HN7.out)
    have HN8 := Lib.hid (A78.g.fresh HN7.out hb97)
    clear A78 G8 qf7
    generalize ((((((((w7.setCell ⟨lw (.Q i), 1, none⟩ (.int .i64 0)).setCell ⟨lw (.Q i), 2, none⟩ (.int .i64 n)).setCell ⟨lw (.Q i), 3, none⟩ (.int .i64 m)).setCell ⟨lw (.Q i), 4, none⟩ (.string ByteArray.empty)).setCell ⟨lw (.Q i), 5, none⟩ (.slice none 0 0)).setCell ⟨lw (.Q i), 6, none⟩ (.int .i64 0)).setCell ⟨lw (.Q i), 7, none⟩ (.int .i64 0)).setCell ⟨lw (.Q i), 8, none⟩ (.int .i64 0)) = w8 at *
    have hb98 : b9 < w8.heap.size := by
      have hC8 := HC8.out
      rcases Nat.lt_or_ge b9 w8.heap.size with h | h
      · exact h
      · rw [Array.getElem?_eq_none h] at hC8; cases hC8
    have hQ8 : lw (.Q i) < w8.heap.size := by rw [← kQ]; exact wx_ql HA8.out.is.wx.lies (i := i) hik
    have h18 : w1.heap.size ≤ w8.heap.size := HA8.out.g.turned.size
    have h13 : ∀ (W : World), Al s' l' (x.setQ i (((((x.qs i).withFp p1).asks ck cf cd).stood false).told 0 n m)) lw1 W → W.heap[b9]? = some (.cells #[.int .i64 0, .int .i64 n, .int .i64 m, .string ByteArray.empty, .slice none 0 0, .int .i64 0, .int .i64 0, .int .i64 0] 37 (0, 0)) → (W : World).cell? ⟨lw (.Q i), 9, none⟩ = some (.int .i64 ck) ∧ (W : World).cell? ⟨lw (.Q i), 10, none⟩ = some (.int .i64 cf) ∧ (W : World).cell? ⟨lw (.Q i), 11, none⟩ = some (.int .i64 0) ∧ (W : World).cell? ⟨lw (.Q i), 12, none⟩ = some (.string ByteArray.empty) ∧ (W : World).cell? ⟨lw (.Q i), 13, none⟩ = some (.string ⟨cd.toArray⟩) ∧ (W : World).cell? ⟨b9, 0, none⟩ = some (.int .i64 0) ∧ (W : World).cell? ⟨b9, 1, none⟩ = some (.int .i64 n) ∧ (W : World).cell? ⟨b9, 2, none⟩ = some (.int .i64 m) ∧ (W : World).cell? ⟨b9, 3, none⟩ = some (.string ByteArray.empty) ∧ (W : World).cell? ⟨b9, 4, none⟩ = some (.slice none 0 0) ∧ (W : World).cell? ⟨b9, 5, none⟩ = some (.int .i64 0) ∧ (W : World).cell? ⟨b9, 6, none⟩ = some (.int .i64 0) ∧ (W : World).cell? ⟨b9, 7, none⟩ = some (.int .i64 0) := fun W hW hb => by
      have g := fun k v hk => wx_q hW.wx.lies (i := i) hik (k := k) (v := v) hk
      rw [kQ, setQ_qs] at g
      obtain ⟨r0', r1', r2', r3', r4', r5', r6', r7', _⟩ := cells8 hb
      exact ⟨g 9 _ rfl, g 10 _ rfl, g 11 _ rfl, g 12 _ rfl, g 13 _ rfl, r0', r1', r2', r3', r4', r5', r6', r7'⟩
    have HG13 := Lib.hid (h13 w8.drew HA8.out.drew.is HC8.out)
    have HO13 := Lib.hid (fun o : Obj => h13 (w8.alloc o) (HA8.out.below ((Below.refl _ w8).alloc (Nat.le_refl _) o)).is ((Below.heap_alloc _ _ _ hb98).trans HC8.out))
    have HD13 := Lib.hid (fun o : Obj => h13 (w8.alloc o).drew (HA8.out.below ((Below.refl _ w8).alloc (Nat.le_refl _) o)).drew.is ((Below.heap_alloc _ _ _ hb98).trans HC8.out))
    have HZ := Lib.hid ((HA8.out.below ((Below.refl _ w8).alloc (Nat.le_refl _) (.cells #[.int .i64 0, .int .i64 0, .int .i64 0, .int .i64 0, .string ⟨#[]⟩, .string ⟨#[]⟩, .int .i64 0, .int .i64 0, .int .i64 0, .string ⟨#[]⟩, .slice none 0 0, .int .i64 0, .int .i64 0, .int .i64 0] 39))).drew)
    have hn10 := HA8.out.is.fresh (Nat.le_refl w8.heap.size)
    obtain ⟨w9, hw9, hA9, hc9⟩ := fourteen_set (show ((w8.alloc (.cells #[.int .i64 0, .int .i64 0, .int .i64 0, .int .i64 0, .string ⟨#[]⟩, .string ⟨#[]⟩, .int .i64 0, .int .i64 0, .int .i64 0, .string ⟨#[]⟩, .slice none 0 0, .int .i64 0, .int .i64 0, .int .i64 0] 39)).drew).heap[w8.heap.size]? = _ from Array.getElem?_push_size) (.int .i64 i) (.int .i64 ck) (.int .i64 cf) (.int .i64 0) (.string ByteArray.empty) (.string ⟨cd.toArray⟩) (.int .i64 0) (.int .i64 n) (.int .i64 m) (.string ByteArray.empty) (.slice none 0 0) (.int .i64 0) (.int .i64 0) (.int .i64 0)
    have A9 := HZ.out.aside hA9 h18 hn10
    have HS13 := Lib.hid (h13 w9 A9.is ((hA9.block _ (by omega)).trans ((Below.heap_alloc _ _ _ hb98).trans HC8.out)))
    rw [← hw9] at HS13
    have HW9 := Lib.hid hw9
    have HA9 := Lib.hid A9
    have HC9 := Lib.hid hc9
    have HN10 := Lib.hid hn10
    clear h13 HA7 HC7 HN7 hb97 hw9 hA9 A9 hc9 hn10
    go_region_held3 (fun W => W.cell? ⟨lw (.Q i), 9, none⟩ = some (.int .i64 ck) ∧ W.cell? ⟨lw (.Q i), 10, none⟩ = some (.int .i64 cf) ∧ W.cell? ⟨lw (.Q i), 11, none⟩ = some (.int .i64 0) ∧ W.cell? ⟨lw (.Q i), 12, none⟩ = some (.string ByteArray.empty) ∧ W.cell? ⟨lw (.Q i), 13, none⟩ = some (.string ⟨cd.toArray⟩) ∧ W.cell? ⟨b9, 0, none⟩ = some (.int .i64 0) ∧ W.cell? ⟨b9, 1, none⟩ = some (.int .i64 n) ∧ W.cell? ⟨b9, 2, none⟩ = some (.int .i64 m) ∧ W.cell? ⟨b9, 3, none⟩ = some (.string ByteArray.empty) ∧ W.cell? ⟨b9, 4, none⟩ = some (.slice none 0 0) ∧ W.cell? ⟨b9, 5, none⟩ = some (.int .i64 0) ∧ W.cell? ⟨b9, 6, none⟩ = some (.int .i64 0) ∧ W.cell? ⟨b9, 7, none⟩ = some (.int .i64 0)) (first | with_reducible exact HG13.out | with_reducible exact HO13.out _ | with_reducible exact HD13.out _ | with_reducible exact HS13.out | go_keep | ((try dsimp only); (repeat' apply And.intro) <;> first | go_keep | assumption | exact (cs_block (by dsimp only; omega)).trans (by assumption))) (fail)
    clear HS13 HW9 HA9 HC9 HD13 HZ HG13
    have hA9 := HA8.out.below ((Below.refl _ w8).alloc (Nat.le_refl _) (.cells #[.int .i64 i, .int .i64 ck, .int .i64 cf, .int .i64 0, .string ByteArray.empty, .string ⟨cd.toArray⟩, .int .i64 0, .int .i64 n, .int .i64 m, .string ByteArray.empty, .slice none 0 0, .int .i64 0, .int .i64 0, .int .i64 0] 39))
    have hC9 : (w8.alloc (.cells #[.int .i64 i, .int .i64 ck, .int .i64 cf, .int .i64 0, .string ByteArray.empty, .string ⟨cd.toArray⟩, .int .i64 0, .int .i64 n, .int .i64 m, .string ByteArray.empty, .slice none 0 0, .int .i64 0, .int .i64 0, .int .i64 0] 39)).heap[w8.heap.size]? = some (.cells #[.int .i64 i, .int .i64 ck, .int .i64 cf, .int .i64 0, .string ByteArray.empty, .string ⟨cd.toArray⟩, .int .i64 0, .int .i64 n, .int .i64 m, .string ByteArray.empty, .slice none 0 0, .int .i64 0, .int .i64 0, .int .i64 0] 39 (0, 0)) := Array.getElem?_push_size
    have hb0 := (HO13.out (.cells #[.int .i64 i, .int .i64 ck, .int .i64 cf, .int .i64 0, .string ByteArray.empty, .string ⟨cd.toArray⟩, .int .i64 0, .int .i64 n, .int .i64 m, .string ByteArray.empty, .slice none 0 0, .int .i64 0, .int .i64 0, .int .i64 0] 39)).2.2.2.2.2.1
    have hW8 : w8.heap.size < (w8.alloc (.cells #[.int .i64 i, .int .i64 ck, .int .i64 cf, .int .i64 0, .string ByteArray.empty, .string ⟨cd.toArray⟩, .int .i64 0, .int .i64 n, .int .i64 m, .string ByteArray.empty, .slice none 0 0, .int .i64 0, .int .i64 0, .int .i64 0] 39)).heap.size := by simp
    clear HO13
    generalize w8.alloc (.cells #[.int .i64 i, .int .i64 ck, .int .i64 cf, .int .i64 0, .string ByteArray.empty, .string ⟨cd.toArray⟩, .int .i64 0, .int .i64 n, .int .i64 m, .string ByteArray.empty, .slice none 0 0, .int .i64 0, .int .i64 0, .int .i64 0] 39) = w9 at *
    obtain ⟨r0', r1', r2', r3', r4', r5', r6', r7', r8', r9', r10', r11', r12', r13', rf'⟩ := cells14 hC9
    have HA9 := Lib.hid hA9
    have HC9 := Lib.hid hC9
    have HAF := Lib.hid (fun W hW => (show _ from kW ▸ HA.out s' l' p1 lw1 W HP1.out HP2.out hW))
    unfold ptrOf dnV at HAF
    clear hA9 hC9
    go_upto_region 17 with (go_at_call 26; ((with_reducible refine (HAF.out _ HA9.out.drew.is).mono ?_)); rintro e w10 ⟨rfl, x5, lw5, hP3, hA10⟩; have HA10 := Lib.hid hA10; have HP3 := Lib.hid hP3; clear hP3 hA10)
    have hC10 := HA10.out.g.heap HC9.out HN10.out
    have AT := HA9.out.drew.trans HA10.out
    have hnz := H.out.fresh (Nat.le_refl w.heap.size)
    have hZ10 := AT.g.heap HBK.out hnz
    have hnz5 := AT.g.fresh hnz hz1
    unfold Z14 at hZ10
    clear r0' r1' r2' r3' r4' r5' r6' r7' r8' r9' r10' r11' r12' r13' rf' hb0
    obtain ⟨s0', s1', s2', s3', s4', s5', s6', s7', s8', s9', s10', s11', s12', s13', sf'⟩ := cells14 hC10
    obtain ⟨z0', z1', z2', z3', z4', z5', z6', z7', z8', z9', z10', z11', z12', z13', zf'⟩ := cells14 hZ10
    have HAT := Lib.hid (HB.out.trans AT)
    have hge : w.heap.size ≤ w.heap.size := Nat.le_refl _
    obtain ⟨w11, hw11, hA11, hc11⟩ := fourteen_set hZ10 (.int .i64 i) (.int .i64 ck) (.int .i64 cf) (.int .i64 0) (.string ByteArray.empty) (.string ⟨cd.toArray⟩) (.int .i64 0) (.int .i64 n) (.int .i64 m) (.string ByteArray.empty) (.slice none 0 0) (.int .i64 0) (.int .i64 0) (.int .i64 0)
    have A11 := Lib.hid (HAT.out.aside hA11 hge hnz5)
    have HC11 := Lib.hid hc11
    have HW11 := Lib.hid hw11
    clear hC10 AT hnz hZ10 hnz5 hw11 hA11 hc11
    go_upto_region 18 with fail
    rw [HW11.out]
    obtain ⟨v0', v1', v2', v3', v4', v5', v6', v7', v8', v9', v10', v11', v12', v13', vf'⟩ := cells14 HC11.out
    refine bodyPost_ret (v := .tuple #[.agg #[.int .i64 i, .int .i64 ck, .int .i64 cf, .int .i64 0, .string ByteArray.empty, .string ⟨cd.toArray⟩, .int .i64 0, .int .i64 n, .int .i64 m, .string ByteArray.empty, .slice none 0 0, .int .i64 0, .int .i64 0, .int .i64 0], .bool true]) ?_ rfl ⟨rfl, p1, s', l', x5, lw5, HP1.out, HP2.out, HP3.out, A11.out⟩
    simp [results, Tryz.results11, go_sem, v0', v1', v2', v3', v4', v5', v6', v7', v8', v9', v10', v11', v12', v13']
    try rfl
end Go.Proofs.YtelohloaoocoaaaGreatDoor
/- world.Step. -/
namespace Go.Proofs.YtelohloaoocoaaaGreatDoor
open Go.RowKit IntWalk
set_option linter.unusedVariables false
set_option linter.unusedSimpArgs false
set_option linter.unnecessarySimpa false

set_option maxHeartbeats 4000000 in
set_option maxRecDepth 100000 in
theorem step_wait {s l x lw} (pick : Int) (j : Nat) (r0 : Int) (i ck cf : Int) (cd : List UInt8) (n m : Int) (P1 : Fp → Prop) (P2 : Ks → Prop) (w : World) (h : Al s l x lw w)
    (hlen : s.t.m.es.length ≤ 1000000) (hrl : s.t.ready.length ≤ 1000) (hin : ∀ a ∈ s.t.ready, a ∈ x.m.keys) (hp : PickAt pick s.t.ready.length j r0) (hj : s.t.ready[j]? = some i) (hst : (x.qs i).st = false)
    (hN : ∀ W, Al s l x lw W → Calls Tryz.prog 296 #[ptrOf (lw (.F i)), .agg (rpV (x.qs i).re (x.qs i).rn (x.qs i).rm)] W fun e w' => e = .returned (.agg (clV ck cf cd)) ∧ ∃ p1 lw1, P1 p1 ∧ WStep x lw W (x.setQ i ((x.qs i).withFp p1)) lw1 w' ∧ Keeps lw lw1)
    (hD : ∀ W, KsIs s l W → Calls Tryz.prog 25 #[ptrOf (l.k .K), .int .i64 i, .agg (clV ck cf cd)] W fun e w' => e = .returned (.agg (rpV 30 n m)) ∧ ∃ s' l', P2 s' ∧ KStep s l W s' l' w')
    :
    Calls Tryz.prog 11 #[ptrOf (lw .W), .int .i64 pick] w fun e w' => e = .returned (.tuple #[.agg (dnV i ck cf cd 30 n m), .bool true]) ∧
      ∃ p1 s' l' lw1, P1 p1 ∧ P2 s' ∧ AStep s l x lw w s' l' (x.setQ i ((((x.qs i).withFp p1).asks ck cf cd).stood true)) lw1 w' := by
  have hik : i ∈ x.m.keys := hin i (List.mem_of_getElem? hj)
  have H := Lib.hid h
  have HN := Lib.hid hN
  have HD := Lib.hid hD
  have HIN := Lib.hid hin
  have HJ := Lib.hid hj
  have HST := Lib.hid hst
  have HPK := Lib.hid hp
  have hWl : lw .W < w.heap.size := h.wx.lies.owns_lt ⟨.W, by simp [Wx.obj], rfl⟩
  clear h hN hD hin hj hst hp
  go_enter Tryz.func11, Tryz.ntmps11
  unfold ptrOf dnV
  go_upto_region 1 with fail
  obtain ⟨w1, hw1, hB, hb, hz⟩ := one_newG w (.cells Z14 39)
  unfold Z14 at hw1
  rw [hw1]
  clear hw1
  have HB := Lib.hid ((AStep.refl H.out).below hB)
  have HBK := Lib.hid hb
  have HRD := Lib.hid (wready_any (x := x) (lw := lw) w1 HB.out.is.ks HB.out.is.wx HB.out.is.kb hlen (by omega) HIN.out)
  have hz1 : w.heap.size < w1.heap.size := by omega
  unfold ptrOf at HRD
  clear hB hb hz
  generalize hL : s.t.ready = L at *
  go_upto_region 6 with (go_at_call 24; refine HRD.out.mono ?_; rintro e w2 ⟨v, rfl, hB2, hO⟩; obtain ⟨ad, cap, hv⟩ := hO.slice; have HO := Lib.hid hO; have HB2 := Lib.hid hB2; clear hO hB2; subst hv; have hLpos : 0 < L.length := Nat.lt_of_le_of_lt (Nat.zero_le _) HPK.out.lt)
  rcases HO.out.at with ⟨_, hn⟩ | ⟨g, cap', hv', hbg, hgl, hcap, hcells⟩
  · rw [hn] at hLpos; simp at hLpos
  cases hv'
  have hci := hcells j i HJ.out
  have hp1 := HPK.out.r
  have hp2 := HPK.out.eq
  have hp3 := HPK.out.lo
  have hp4 := HPK.out.hi
  have hp5 := HPK.out.lt
  have hp6 : (j : Int) < L.length := by omega
  have hL1 : (L.length : Int) ≤ 1000 := by omega
  have A2 := Lib.hid ((AStep.refl HB.out.is).below HB2.out)
  have c1 := wx_w1 A2.out.is.wx.lies
  have c14 := wx_q A2.out.is.wx.lies hik (k := 14) (v := .bool false) (by rw [← HST.out]; rfl)
  have hlook := wx_look_in A2.out.is.wx.lies hik
  have HBK2 := Lib.hid ((HB2.out.block _ hz1).trans HBK.out)
  have hz2 : w.heap.size < w2.heap.size := Nat.lt_of_lt_of_le hz1 HB2.out.size
  clear hcells hrl HO
  go_upto_region 9 with fail
  clear hp1 hp2 hp3 hp4 hp5 hp6 hci c1 c14 hlook
  have hnine : ∀ (y : Wx) (lwy : WId → Nat) (W : World), Lies (y.obj lwy) lwy W → i ∈ y.m.keys → Keeps lw lwy → (y.qs i).re = (x.qs i).re → (y.qs i).rn = (x.qs i).rn → (y.qs i).rm = (x.qs i).rm → ((W : World).cell? ⟨lw (.Q i), 0, none⟩ = some (.iface 64 (.pointer (some ⟨lw (.F i), 0, none⟩))) ∧ (W : World).cell? ⟨lw (.Q i), 1, none⟩ = some (.int .i64 (x.qs i).re) ∧ (W : World).cell? ⟨lw (.Q i), 2, none⟩ = some (.int .i64 (x.qs i).rn) ∧ (W : World).cell? ⟨lw (.Q i), 3, none⟩ = some (.int .i64 (x.qs i).rm) ∧ (W : World).cell? ⟨lw (.Q i), 4, none⟩ = some (.string ByteArray.empty) ∧ (W : World).cell? ⟨lw (.Q i), 5, none⟩ = some (.slice none 0 0) ∧ (W : World).cell? ⟨lw (.Q i), 6, none⟩ = some (.int .i64 0) ∧ (W : World).cell? ⟨lw (.Q i), 7, none⟩ = some (.int .i64 0) ∧ (W : World).cell? ⟨lw (.Q i), 8, none⟩ = some (.int .i64 0)) := fun y lwy W hy hi hk e1 e2 e3 => by
    have k1 := hk (.Q i) (by simp)
    have k2 := hk (.F i) (by simp)
    have g := fun k v hk => wx_q hy hi (k := k) (v := v) hk
    rw [k1, k2] at g
    exact ⟨g 0 _ rfl, g 1 _ (by rw [← e1]; rfl), g 2 _ (by rw [← e2]; rfl), g 3 _ (by rw [← e3]; rfl), g 4 _ rfl, g 5 _ rfl, g 6 _ rfl, g 7 _ rfl, g 8 _ rfl⟩
  have hnext : ∀ w3 p1 lw1, P1 p1 → WStep x lw w2.drew (x.setQ i ((x.qs i).withFp p1)) lw1 w3 → Keeps lw lw1 → ((w3 : World).cell? ⟨lw (.Q i), 0, none⟩ = some (.iface 64 (.pointer (some ⟨lw (.F i), 0, none⟩))) ∧ (w3 : World).cell? ⟨lw (.Q i), 1, none⟩ = some (.int .i64 (x.qs i).re) ∧ (w3 : World).cell? ⟨lw (.Q i), 2, none⟩ = some (.int .i64 (x.qs i).rn) ∧ (w3 : World).cell? ⟨lw (.Q i), 3, none⟩ = some (.int .i64 (x.qs i).rm) ∧ (w3 : World).cell? ⟨lw (.Q i), 4, none⟩ = some (.string ByteArray.empty) ∧ (w3 : World).cell? ⟨lw (.Q i), 5, none⟩ = some (.slice none 0 0) ∧ (w3 : World).cell? ⟨lw (.Q i), 6, none⟩ = some (.int .i64 0) ∧ (w3 : World).cell? ⟨lw (.Q i), 7, none⟩ = some (.int .i64 0) ∧ (w3 : World).cell? ⟨lw (.Q i), 8, none⟩ = some (.int .i64 0)) ∧ (∃ u9 u10 u11 u12 u13, w3.cell? ⟨lw (.Q i), 9, none⟩ = some u9 ∧ w3.cell? ⟨lw (.Q i), 10, none⟩ = some u10 ∧ w3.cell? ⟨lw (.Q i), 11, none⟩ = some u11 ∧ w3.cell? ⟨lw (.Q i), 12, none⟩ = some u12 ∧ w3.cell? ⟨lw (.Q i), 13, none⟩ = some u13) ∧ (∀ k, w3.frozen? ⟨lw (.Q i), k, none⟩ = false) ∧
      (((((((w3.setCell ⟨lw (.Q i), 9, none⟩ (.int .i64 ck)).setCell ⟨lw (.Q i), 10, none⟩ (.int .i64 cf)).setCell ⟨lw (.Q i), 11, none⟩ (.int .i64 0)).setCell ⟨lw (.Q i), 12, none⟩ (.string ByteArray.empty)).setCell ⟨lw (.Q i), 13, none⟩ (.string ⟨cd.toArray⟩)) : World).cell? ⟨lw (.Q i), 0, none⟩ = some (.iface 64 (.pointer (some ⟨lw (.F i), 0, none⟩))) ∧ ((((((w3.setCell ⟨lw (.Q i), 9, none⟩ (.int .i64 ck)).setCell ⟨lw (.Q i), 10, none⟩ (.int .i64 cf)).setCell ⟨lw (.Q i), 11, none⟩ (.int .i64 0)).setCell ⟨lw (.Q i), 12, none⟩ (.string ByteArray.empty)).setCell ⟨lw (.Q i), 13, none⟩ (.string ⟨cd.toArray⟩)) : World).cell? ⟨lw (.Q i), 1, none⟩ = some (.int .i64 (x.qs i).re) ∧ ((((((w3.setCell ⟨lw (.Q i), 9, none⟩ (.int .i64 ck)).setCell ⟨lw (.Q i), 10, none⟩ (.int .i64 cf)).setCell ⟨lw (.Q i), 11, none⟩ (.int .i64 0)).setCell ⟨lw (.Q i), 12, none⟩ (.string ByteArray.empty)).setCell ⟨lw (.Q i), 13, none⟩ (.string ⟨cd.toArray⟩)) : World).cell? ⟨lw (.Q i), 2, none⟩ = some (.int .i64 (x.qs i).rn) ∧ ((((((w3.setCell ⟨lw (.Q i), 9, none⟩ (.int .i64 ck)).setCell ⟨lw (.Q i), 10, none⟩ (.int .i64 cf)).setCell ⟨lw (.Q i), 11, none⟩ (.int .i64 0)).setCell ⟨lw (.Q i), 12, none⟩ (.string ByteArray.empty)).setCell ⟨lw (.Q i), 13, none⟩ (.string ⟨cd.toArray⟩)) : World).cell? ⟨lw (.Q i), 3, none⟩ = some (.int .i64 (x.qs i).rm) ∧ ((((((w3.setCell ⟨lw (.Q i), 9, none⟩ (.int .i64 ck)).setCell ⟨lw (.Q i), 10, none⟩ (.int .i64 cf)).setCell ⟨lw (.Q i), 11, none⟩ (.int .i64 0)).setCell ⟨lw (.Q i), 12, none⟩ (.string ByteArray.empty)).setCell ⟨lw (.Q i), 13, none⟩ (.string ⟨cd.toArray⟩)) : World).cell? ⟨lw (.Q i), 4, none⟩ = some (.string ByteArray.empty) ∧ ((((((w3.setCell ⟨lw (.Q i), 9, none⟩ (.int .i64 ck)).setCell ⟨lw (.Q i), 10, none⟩ (.int .i64 cf)).setCell ⟨lw (.Q i), 11, none⟩ (.int .i64 0)).setCell ⟨lw (.Q i), 12, none⟩ (.string ByteArray.empty)).setCell ⟨lw (.Q i), 13, none⟩ (.string ⟨cd.toArray⟩)) : World).cell? ⟨lw (.Q i), 5, none⟩ = some (.slice none 0 0) ∧ ((((((w3.setCell ⟨lw (.Q i), 9, none⟩ (.int .i64 ck)).setCell ⟨lw (.Q i), 10, none⟩ (.int .i64 cf)).setCell ⟨lw (.Q i), 11, none⟩ (.int .i64 0)).setCell ⟨lw (.Q i), 12, none⟩ (.string ByteArray.empty)).setCell ⟨lw (.Q i), 13, none⟩ (.string ⟨cd.toArray⟩)) : World).cell? ⟨lw (.Q i), 6, none⟩ = some (.int .i64 0) ∧ ((((((w3.setCell ⟨lw (.Q i), 9, none⟩ (.int .i64 ck)).setCell ⟨lw (.Q i), 10, none⟩ (.int .i64 cf)).setCell ⟨lw (.Q i), 11, none⟩ (.int .i64 0)).setCell ⟨lw (.Q i), 12, none⟩ (.string ByteArray.empty)).setCell ⟨lw (.Q i), 13, none⟩ (.string ⟨cd.toArray⟩)) : World).cell? ⟨lw (.Q i), 7, none⟩ = some (.int .i64 0) ∧ ((((((w3.setCell ⟨lw (.Q i), 9, none⟩ (.int .i64 ck)).setCell ⟨lw (.Q i), 10, none⟩ (.int .i64 cf)).setCell ⟨lw (.Q i), 11, none⟩ (.int .i64 0)).setCell ⟨lw (.Q i), 12, none⟩ (.string ByteArray.empty)).setCell ⟨lw (.Q i), 13, none⟩ (.string ⟨cd.toArray⟩)) : World).cell? ⟨lw (.Q i), 8, none⟩ = some (.int .i64 0)) ∧ AStep s l x lw w1 s l (x.setQ i (((x.qs i).withFp p1).asks ck cf cd)) lw1 (((((w3.setCell ⟨lw (.Q i), 9, none⟩ (.int .i64 ck)).setCell ⟨lw (.Q i), 10, none⟩ (.int .i64 cf)).setCell ⟨lw (.Q i), 11, none⟩ (.int .i64 0)).setCell ⟨lw (.Q i), 12, none⟩ (.string ByteArray.empty)).setCell ⟨lw (.Q i), 13, none⟩ (.string ⟨cd.toArray⟩)) := fun w3 p1 lw1 hP hW hK => by
    have A3 := A2.out.drew.trans (AStep.wo A2.out.drew.is hW.g hW.ok rfl hW.top)
    have k1 := hK (.Q i) (by simp)
    have G := wx_setCall (GStep.refl A3.is.wx.lies) (i := i) hik ck cf cd
    rw [setQ_setQ, setQ_qs, k1] at G
    have A4 := A3.trans (AStep.wo A3.is G (by have := A3.xok.asks i ck cf cd; rw [setQ_setQ, setQ_qs] at this; exact this) rfl rfl)
    refine ⟨hnine _ _ _ A3.is.wx.lies hik hK (by rw [setQ_qs]; rfl) (by rw [setQ_qs]; rfl) (by rw [setQ_qs]; rfl), ⟨_, _, _, _, _, k1 ▸ wx_q A3.is.wx.lies (i := i) hik (k := 9) rfl, k1 ▸ wx_q A3.is.wx.lies (i := i) hik (k := 10) rfl, k1 ▸ wx_q A3.is.wx.lies (i := i) hik (k := 11) rfl, k1 ▸ wx_q A3.is.wx.lies (i := i) hik (k := 12) rfl, k1 ▸ wx_q A3.is.wx.lies (i := i) hik (k := 13) rfl⟩, fun k => k1 ▸ wx_qf A3.is.wx.lies (i := i) hik k, hnine _ _ _ A4.is.wx.lies hik hK (by rw [setQ_qs]; rfl) (by rw [setQ_qs]; rfl) (by rw [setQ_qs]; rfl), A4⟩
  have h9a := hnine x lw w2 A2.out.is.wx.lies hik (fun j _ => rfl) rfl rfl rfl
  have HNX := Lib.hid hnext
  have HNN := Lib.hid (HN.out w2.drew A2.out.drew.is)
  unfold ptrOf rpV clV at HNN
  clear hnine hnext
  have h9d : (w2.drew : World).cell? ⟨lw (.Q i), 0, none⟩ = some (.iface 64 (.pointer (some ⟨lw (.F i), 0, none⟩))) ∧ (w2.drew : World).cell? ⟨lw (.Q i), 1, none⟩ = some (.int .i64 (x.qs i).re) ∧ (w2.drew : World).cell? ⟨lw (.Q i), 2, none⟩ = some (.int .i64 (x.qs i).rn) ∧ (w2.drew : World).cell? ⟨lw (.Q i), 3, none⟩ = some (.int .i64 (x.qs i).rm) ∧ (w2.drew : World).cell? ⟨lw (.Q i), 4, none⟩ = some (.string ByteArray.empty) ∧ (w2.drew : World).cell? ⟨lw (.Q i), 5, none⟩ = some (.slice none 0 0) ∧ (w2.drew : World).cell? ⟨lw (.Q i), 6, none⟩ = some (.int .i64 0) ∧ (w2.drew : World).cell? ⟨lw (.Q i), 7, none⟩ = some (.int .i64 0) ∧ (w2.drew : World).cell? ⟨lw (.Q i), 8, none⟩ = some (.int .i64 0) := h9a
  have hmt : ∀ W : World, (method 522 64 (.pointer (some ⟨lw (.F i), 0, none⟩)) "Next").run Tryz.prog W = .ok (296, .pointer (some ⟨lw (.F i), 0, none⟩)) W := fun _ => by kernel_rfl
  have hQl : lw (.Q i) < w.heap.size := wx_ql H.out.wx.lies hik
  go_region_held3 (fun W => W.cell? ⟨lw (.Q i), 0, none⟩ = some (.iface 64 (.pointer (some ⟨lw (.F i), 0, none⟩))) ∧ W.cell? ⟨lw (.Q i), 1, none⟩ = some (.int .i64 (x.qs i).re) ∧ W.cell? ⟨lw (.Q i), 2, none⟩ = some (.int .i64 (x.qs i).rn) ∧ W.cell? ⟨lw (.Q i), 3, none⟩ = some (.int .i64 (x.qs i).rm) ∧ W.cell? ⟨lw (.Q i), 4, none⟩ = some (.string ByteArray.empty) ∧ W.cell? ⟨lw (.Q i), 5, none⟩ = some (.slice none 0 0) ∧ W.cell? ⟨lw (.Q i), 6, none⟩ = some (.int .i64 0) ∧ W.cell? ⟨lw (.Q i), 7, none⟩ = some (.int .i64 0) ∧ W.cell? ⟨lw (.Q i), 8, none⟩ = some (.int .i64 0)) (first | with_reducible exact h9d | with_reducible exact g9 | with_reducible exact g10 | go_keep | ((try dsimp only); (repeat' apply And.intro) <;> first | go_keep | assumption)) (first | (go_at_call 296; refine HNN.out.mono ?_; rintro e w3 ⟨rfl, p1, lw1, hP1, hW, hK⟩; obtain ⟨g9, ⟨u9, u10, u11, u12, u13, q9, q10, q11, q12, q13⟩, qf, g10, hA4⟩ := HNX.out w3 p1 lw1 hP1 hW hK; have HA4 := Lib.hid hA4; have HPP := Lib.hid (And.intro hP1 hK); clear hP1 hW hK hA4))
  go_upto_region 10 with fail
  generalize (((((w3.setCell ⟨lw (.Q i), 9, none⟩ (.int .i64 ck)).setCell ⟨lw (.Q i), 10, none⟩ (.int .i64 cf)).setCell ⟨lw (.Q i), 11, none⟩ (.int .i64 0)).setCell ⟨lw (.Q i), 12, none⟩ (.string ByteArray.empty)).setCell ⟨lw (.Q i), 13, none⟩ (.string ⟨cd.toArray⟩)) = w4 at *
  obtain ⟨hP1, hK1⟩ := HPP.out
  have kQ := hK1 (.Q i) (by simp)
  have kW := hK1 .W (by simp)
  have hsix : ∀ (s1 : Ks) (l1 : Ly) (W : World), Al s1 l1 (x.setQ i (((x.qs i).withFp p1).asks ck cf cd)) lw1 W → l1.k .K = l.k .K → (W : World).cell? ⟨lw .W, 0, none⟩ = some (.pointer (some ⟨l.k .K, 0, none⟩)) ∧ (W : World).cell? ⟨lw (.Q i), 9, none⟩ = some (.int .i64 ck) ∧ (W : World).cell? ⟨lw (.Q i), 10, none⟩ = some (.int .i64 cf) ∧ (W : World).cell? ⟨lw (.Q i), 11, none⟩ = some (.int .i64 0) ∧ (W : World).cell? ⟨lw (.Q i), 12, none⟩ = some (.string ByteArray.empty) ∧ (W : World).cell? ⟨lw (.Q i), 13, none⟩ = some (.string ⟨cd.toArray⟩) := fun s1 l1 W hW hk => by
    have g0 := wx_w0 hW.wx.lies
    rw [hW.kb, hk, kW] at g0
    have g := fun k v hk => wx_q hW.wx.lies (i := i) hik (k := k) (v := v) hk
    rw [kQ, setQ_qs] at g
    exact ⟨g0, g 9 _ rfl, g 10 _ rfl, g 11 _ rfl, g 12 _ rfl, g 13 _ rfl⟩
  have h6 : (w4.drew : World).cell? ⟨lw .W, 0, none⟩ = some (.pointer (some ⟨l.k .K, 0, none⟩)) ∧ (w4.drew : World).cell? ⟨lw (.Q i), 9, none⟩ = some (.int .i64 ck) ∧ (w4.drew : World).cell? ⟨lw (.Q i), 10, none⟩ = some (.int .i64 cf) ∧ (w4.drew : World).cell? ⟨lw (.Q i), 11, none⟩ = some (.int .i64 0) ∧ (w4.drew : World).cell? ⟨lw (.Q i), 12, none⟩ = some (.string ByteArray.empty) ∧ (w4.drew : World).cell? ⟨lw (.Q i), 13, none⟩ = some (.string ⟨cd.toArray⟩) := hsix s l w4.drew HA4.out.drew.is rfl
  have HB4 := Lib.hid ((HA4.out.below ((Below.refl _ w4).alloc (Nat.le_refl _) (.cells #[.int .i64 0, .int .i64 0, .int .i64 0, .string ⟨#[]⟩, .slice none 0 0, .int .i64 0, .int .i64 0, .int .i64 0] 37))).drew)
  have h6b : ((w4.alloc (.cells #[.int .i64 0, .int .i64 0, .int .i64 0, .string ⟨#[]⟩, .slice none 0 0, .int .i64 0, .int .i64 0, .int .i64 0] 37)).drew : World).cell? ⟨lw .W, 0, none⟩ = some (.pointer (some ⟨l.k .K, 0, none⟩)) ∧ ((w4.alloc (.cells #[.int .i64 0, .int .i64 0, .int .i64 0, .string ⟨#[]⟩, .slice none 0 0, .int .i64 0, .int .i64 0, .int .i64 0] 37)).drew : World).cell? ⟨lw (.Q i), 9, none⟩ = some (.int .i64 ck) ∧ ((w4.alloc (.cells #[.int .i64 0, .int .i64 0, .int .i64 0, .string ⟨#[]⟩, .slice none 0 0, .int .i64 0, .int .i64 0, .int .i64 0] 37)).drew : World).cell? ⟨lw (.Q i), 10, none⟩ = some (.int .i64 cf) ∧ ((w4.alloc (.cells #[.int .i64 0, .int .i64 0, .int .i64 0, .string ⟨#[]⟩, .slice none 0 0, .int .i64 0, .int .i64 0, .int .i64 0] 37)).drew : World).cell? ⟨lw (.Q i), 11, none⟩ = some (.int .i64 0) ∧ ((w4.alloc (.cells #[.int .i64 0, .int .i64 0, .int .i64 0, .string ⟨#[]⟩, .slice none 0 0, .int .i64 0, .int .i64 0, .int .i64 0] 37)).drew : World).cell? ⟨lw (.Q i), 12, none⟩ = some (.string ByteArray.empty) ∧ ((w4.alloc (.cells #[.int .i64 0, .int .i64 0, .int .i64 0, .string ⟨#[]⟩, .slice none 0 0, .int .i64 0, .int .i64 0, .int .i64 0] 37)).drew : World).cell? ⟨lw (.Q i), 13, none⟩ = some (.string ⟨cd.toArray⟩) := hsix s l _ HB4.out.is rfl
  have hKl : l.k .K < w4.heap.size := HA4.out.is.ks.kl
  have hQl4 : lw (.Q i) < w4.heap.size := by rw [← kQ]; exact wx_ql HA4.out.is.wx.lies (i := i) hik
  have hWl4 : lw .W < w4.heap.size := by rw [← kW]; exact HA4.out.is.wx.lies.owns_lt ⟨.W, by simp [Wx.obj], rfl⟩
  have HDA := Lib.hid (HD.out w4.drew HA4.out.drew.is.ks)
  have HDB := Lib.hid (HD.out (w4.alloc (.cells #[.int .i64 0, .int .i64 0, .int .i64 0, .string ⟨#[]⟩, .slice none 0 0, .int .i64 0, .int .i64 0, .int .i64 0] 37)).drew HB4.out.is.ks)
  have hdo : ∀ w5 s' l', P2 s' → KStep s l w4.drew s' l' w5 → ((w5 : World).cell? ⟨lw .W, 0, none⟩ = some (.pointer (some ⟨l.k .K, 0, none⟩)) ∧ (w5 : World).cell? ⟨lw (.Q i), 9, none⟩ = some (.int .i64 ck) ∧ (w5 : World).cell? ⟨lw (.Q i), 10, none⟩ = some (.int .i64 cf) ∧ (w5 : World).cell? ⟨lw (.Q i), 11, none⟩ = some (.int .i64 0) ∧ (w5 : World).cell? ⟨lw (.Q i), 12, none⟩ = some (.string ByteArray.empty) ∧ (w5 : World).cell? ⟨lw (.Q i), 13, none⟩ = some (.string ⟨cd.toArray⟩)) ∧ AStep s l x lw w1 s' l' (x.setQ i (((x.qs i).withFp p1).asks ck cf cd)) lw1 w5 ∧ lw (.Q i) < w5.heap.size ∧ lw .W < w5.heap.size ∧ (∀ o : Obj, (w5.alloc o : World).cell? ⟨lw .W, 0, none⟩ = some (.pointer (some ⟨l.k .K, 0, none⟩)) ∧ (w5.alloc o : World).cell? ⟨lw (.Q i), 9, none⟩ = some (.int .i64 ck) ∧ (w5.alloc o : World).cell? ⟨lw (.Q i), 10, none⟩ = some (.int .i64 cf) ∧ (w5.alloc o : World).cell? ⟨lw (.Q i), 11, none⟩ = some (.int .i64 0) ∧ (w5.alloc o : World).cell? ⟨lw (.Q i), 12, none⟩ = some (.string ByteArray.empty) ∧ (w5.alloc o : World).cell? ⟨lw (.Q i), 13, none⟩ = some (.string ⟨cd.toArray⟩)) := fun w5 s' l' hP hK => by
    have A5 := HA4.out.drew.trans (AStep.ke HA4.out.drew.is hK)
    exact ⟨hsix s' l' w5 A5.is A5.topK, A5, by rw [← kQ]; exact wx_ql A5.is.wx.lies (i := i) hik, by rw [← kW]; exact A5.is.wx.lies.owns_lt ⟨.W, by simp [Wx.obj], rfl⟩, fun o => hsix s' l' _ (A5.below ((Below.refl _ w5).alloc (Nat.le_refl _) o)).is A5.topK⟩
  have hdob : ∀ w5 s' l', P2 s' → KStep s l (w4.alloc (.cells #[.int .i64 0, .int .i64 0, .int .i64 0, .string ⟨#[]⟩, .slice none 0 0, .int .i64 0, .int .i64 0, .int .i64 0] 37)).drew s' l' w5 → ((w5 : World).cell? ⟨lw .W, 0, none⟩ = some (.pointer (some ⟨l.k .K, 0, none⟩)) ∧ (w5 : World).cell? ⟨lw (.Q i), 9, none⟩ = some (.int .i64 ck) ∧ (w5 : World).cell? ⟨lw (.Q i), 10, none⟩ = some (.int .i64 cf) ∧ (w5 : World).cell? ⟨lw (.Q i), 11, none⟩ = some (.int .i64 0) ∧ (w5 : World).cell? ⟨lw (.Q i), 12, none⟩ = some (.string ByteArray.empty) ∧ (w5 : World).cell? ⟨lw (.Q i), 13, none⟩ = some (.string ⟨cd.toArray⟩)) ∧ AStep s l x lw w1 s' l' (x.setQ i (((x.qs i).withFp p1).asks ck cf cd)) lw1 w5 ∧ w5.heap[w4.heap.size]? = some (.cells #[.int .i64 0, .int .i64 0, .int .i64 0, .string ⟨#[]⟩, .slice none 0 0, .int .i64 0, .int .i64 0, .int .i64 0] 37 (0, 0)) ∧ ¬ Owns (Sum.elim (s'.obj l') ((x.setQ i (((x.qs i).withFp p1).asks ck cf cd)).obj lw1)) (Sum.elim l'.all lw1) w4.heap.size ∧ ((((((((((w5.setCell ⟨w4.heap.size, 0, none⟩ (.int .i64 30)).setCell ⟨w4.heap.size, 1, none⟩ (.int .i64 n)).setCell ⟨w4.heap.size, 2, none⟩ (.int .i64 m)).setCell ⟨w4.heap.size, 3, none⟩ (.string ByteArray.empty)).setCell ⟨w4.heap.size, 4, none⟩ (.slice none 0 0)).setCell ⟨w4.heap.size, 5, none⟩ (.int .i64 0)).setCell ⟨w4.heap.size, 6, none⟩ (.int .i64 0)).setCell ⟨w4.heap.size, 7, none⟩ (.int .i64 0)) : World).cell? ⟨lw .W, 0, none⟩ = some (.pointer (some ⟨l.k .K, 0, none⟩)) ∧ (((((((((w5.setCell ⟨w4.heap.size, 0, none⟩ (.int .i64 30)).setCell ⟨w4.heap.size, 1, none⟩ (.int .i64 n)).setCell ⟨w4.heap.size, 2, none⟩ (.int .i64 m)).setCell ⟨w4.heap.size, 3, none⟩ (.string ByteArray.empty)).setCell ⟨w4.heap.size, 4, none⟩ (.slice none 0 0)).setCell ⟨w4.heap.size, 5, none⟩ (.int .i64 0)).setCell ⟨w4.heap.size, 6, none⟩ (.int .i64 0)).setCell ⟨w4.heap.size, 7, none⟩ (.int .i64 0)) : World).cell? ⟨lw (.Q i), 9, none⟩ = some (.int .i64 ck) ∧ (((((((((w5.setCell ⟨w4.heap.size, 0, none⟩ (.int .i64 30)).setCell ⟨w4.heap.size, 1, none⟩ (.int .i64 n)).setCell ⟨w4.heap.size, 2, none⟩ (.int .i64 m)).setCell ⟨w4.heap.size, 3, none⟩ (.string ByteArray.empty)).setCell ⟨w4.heap.size, 4, none⟩ (.slice none 0 0)).setCell ⟨w4.heap.size, 5, none⟩ (.int .i64 0)).setCell ⟨w4.heap.size, 6, none⟩ (.int .i64 0)).setCell ⟨w4.heap.size, 7, none⟩ (.int .i64 0)) : World).cell? ⟨lw (.Q i), 10, none⟩ = some (.int .i64 cf) ∧ (((((((((w5.setCell ⟨w4.heap.size, 0, none⟩ (.int .i64 30)).setCell ⟨w4.heap.size, 1, none⟩ (.int .i64 n)).setCell ⟨w4.heap.size, 2, none⟩ (.int .i64 m)).setCell ⟨w4.heap.size, 3, none⟩ (.string ByteArray.empty)).setCell ⟨w4.heap.size, 4, none⟩ (.slice none 0 0)).setCell ⟨w4.heap.size, 5, none⟩ (.int .i64 0)).setCell ⟨w4.heap.size, 6, none⟩ (.int .i64 0)).setCell ⟨w4.heap.size, 7, none⟩ (.int .i64 0)) : World).cell? ⟨lw (.Q i), 11, none⟩ = some (.int .i64 0) ∧ (((((((((w5.setCell ⟨w4.heap.size, 0, none⟩ (.int .i64 30)).setCell ⟨w4.heap.size, 1, none⟩ (.int .i64 n)).setCell ⟨w4.heap.size, 2, none⟩ (.int .i64 m)).setCell ⟨w4.heap.size, 3, none⟩ (.string ByteArray.empty)).setCell ⟨w4.heap.size, 4, none⟩ (.slice none 0 0)).setCell ⟨w4.heap.size, 5, none⟩ (.int .i64 0)).setCell ⟨w4.heap.size, 6, none⟩ (.int .i64 0)).setCell ⟨w4.heap.size, 7, none⟩ (.int .i64 0)) : World).cell? ⟨lw (.Q i), 12, none⟩ = some (.string ByteArray.empty) ∧ (((((((((w5.setCell ⟨w4.heap.size, 0, none⟩ (.int .i64 30)).setCell ⟨w4.heap.size, 1, none⟩ (.int .i64 n)).setCell ⟨w4.heap.size, 2, none⟩ (.int .i64 m)).setCell ⟨w4.heap.size, 3, none⟩ (.string ByteArray.empty)).setCell ⟨w4.heap.size, 4, none⟩ (.slice none 0 0)).setCell ⟨w4.heap.size, 5, none⟩ (.int .i64 0)).setCell ⟨w4.heap.size, 6, none⟩ (.int .i64 0)).setCell ⟨w4.heap.size, 7, none⟩ (.int .i64 0)) : World).cell? ⟨lw (.Q i), 13, none⟩ = some (.string ⟨cd.toArray⟩)) ∧ AStep s l x lw w1 s' l' (x.setQ i (((x.qs i).withFp p1).asks ck cf cd)) lw1 ((((((((w5.setCell ⟨w4.heap.size, 0, none⟩ (.int .i64 30)).setCell ⟨w4.heap.size, 1, none⟩ (.int .i64 n)).setCell ⟨w4.heap.size, 2, none⟩ (.int .i64 m)).setCell ⟨w4.heap.size, 3, none⟩ (.string ByteArray.empty)).setCell ⟨w4.heap.size, 4, none⟩ (.slice none 0 0)).setCell ⟨w4.heap.size, 5, none⟩ (.int .i64 0)).setCell ⟨w4.heap.size, 6, none⟩ (.int .i64 0)).setCell ⟨w4.heap.size, 7, none⟩ (.int .i64 0)) ∧ ((((((((w5.setCell ⟨w4.heap.size, 0, none⟩ (.int .i64 30)).setCell ⟨w4.heap.size, 1, none⟩ (.int .i64 n)).setCell ⟨w4.heap.size, 2, none⟩ (.int .i64 m)).setCell ⟨w4.heap.size, 3, none⟩ (.string ByteArray.empty)).setCell ⟨w4.heap.size, 4, none⟩ (.slice none 0 0)).setCell ⟨w4.heap.size, 5, none⟩ (.int .i64 0)).setCell ⟨w4.heap.size, 6, none⟩ (.int .i64 0)).setCell ⟨w4.heap.size, 7, none⟩ (.int .i64 0)).heap[w4.heap.size]? = some (.cells #[(.int .i64 30), (.int .i64 n), (.int .i64 m), (.string ByteArray.empty), (.slice none 0 0), (.int .i64 0), (.int .i64 0), (.int .i64 0)] 37 (0, 0)) := fun w5 s' l' hP hK => by
    have A5' := AStep.ke HB4.out.is hK
    have A5 := HB4.out.trans A5'
    have hf := HA4.out.is.fresh (Nat.le_refl w4.heap.size)
    have hb9 := A5'.g.heap (show ((w4.alloc (.cells #[.int .i64 0, .int .i64 0, .int .i64 0, .string ⟨#[]⟩, .slice none 0 0, .int .i64 0, .int .i64 0, .int .i64 0] 37)).drew).heap[w4.heap.size]? = _ from Array.getElem?_push_size) hf
    have hn9 := A5'.g.fresh hf (by simp)
    obtain ⟨w6, hw6, hA6, hc6⟩ := eight_set hb9 (.int .i64 30) (.int .i64 n) (.int .i64 m) (.string ByteArray.empty) (.slice none 0 0) (.int .i64 0) (.int .i64 0) (.int .i64 0)
    have h16 : w1.heap.size ≤ w4.heap.size := HA4.out.g.turned.size
    have A6 := A5.aside hA6 h16 hn9
    rw [hw6]
    exact ⟨hsix s' l' w5 A5.is A5.topK, A5, hb9, hn9, hsix s' l' w6 A6.is A6.topK, A6, hc6⟩
  have HDO := Lib.hid hdo
  have HDOB := Lib.hid hdob
  have HKQ := Lib.hid (And.intro hK1 (And.intro kQ kW))
  have HP1 := Lib.hid hP1
  unfold ptrOf rpV clV at HDA HDB
  clear hsix hdo hdob hK1 kQ kW hP1 h9a h9d g9 g10 q9 q10 q11 q12 q13 qf HNX HNN hmt HPP
  have H6 := Lib.hid h6
  have H6B := Lib.hid h6b
  clear h6 h6b hbg hgl hcap hL1 hLpos hL
  go_region_held3 (fun W => W.cell? ⟨lw .W, 0, none⟩ = some (.pointer (some ⟨l.k .K, 0, none⟩)) ∧ W.cell? ⟨lw (.Q i), 9, none⟩ = some (.int .i64 ck) ∧ W.cell? ⟨lw (.Q i), 10, none⟩ = some (.int .i64 cf) ∧ W.cell? ⟨lw (.Q i), 11, none⟩ = some (.int .i64 0) ∧ W.cell? ⟨lw (.Q i), 12, none⟩ = some (.string ByteArray.empty) ∧ W.cell? ⟨lw (.Q i), 13, none⟩ = some (.string ⟨cd.toArray⟩)) (first | with_reducible exact H6.out | with_reducible exact H6B.out | with_reducible exact HG6.out | with_reducible exact H6C.out _ | with_reducible exact H6D.out | go_keep | ((try dsimp only); (repeat' apply And.intro) <;> first | go_keep | assumption)) (first
    | (go_at_call 25; ((with_reducible refine HDA.out.mono ?_)); rintro e w5 ⟨rfl, s', l', hP2, hK⟩; obtain ⟨g6, hA5, hQl5, hWl5, g6c⟩ := HDO.out w5 s' l' hP2 hK; have HG6 := Lib.hid g6; clear g6; have HA5 := Lib.hid hA5; have HP2 := Lib.hid hP2; have H6C := Lib.hid g6c; clear hP2 hK hA5 g6c)
    | (go_at_call 25; ((with_reducible refine HDB.out.mono ?_)); rintro e w5 ⟨rfl, s', l', hP2, hK⟩; obtain ⟨g6, hA5, hb9, hn9, g6d, hA6, hc6⟩ := HDOB.out w5 s' l' hP2 hK; have HG6 := Lib.hid g6; clear g6; have HA5 := Lib.hid hA5; have HP2 := Lib.hid hP2; have HN9 := Lib.hid hn9; have HB9 := Lib.hid hb9; obtain ⟨t0, t1, t2, t3, t4, t5, t6, t7, tf⟩ := cells8 hb9; have H6D := Lib.hid g6d; have HA6 := Lib.hid hA6; have HC6 := Lib.hid hc6; clear hP2 hK hA5 hn9 hb9 g6d hA6 hc6))
  all_goals
    first
      | (have hA6 := HA5.out.below ((Below.refl _ w5).alloc (Nat.le_refl _) (.cells #[.int .i64 30, .int .i64 n, .int .i64 m, .string ByteArray.empty, .slice none 0 0, .int .i64 0, .int .i64 0, .int .i64 0] 37))
         have hC6 : (w5.alloc (.cells #[.int .i64 30, .int .i64 n, .int .i64 m, .string ByteArray.empty, .slice none 0 0, .int .i64 0, .int .i64 0, .int .i64 0] 37)).heap[w5.heap.size]? = some (.cells #[.int .i64 30, .int .i64 n, .int .i64 m, .string ByteArray.empty, .slice none 0 0, .int .i64 0, .int .i64 0, .int .i64 0] 37 (0, 0)) := Array.getElem?_push_size
         have hN6 := HA5.out.is.fresh (Nat.le_refl w5.heap.size)
         have h16 : w1.heap.size ≤ w5.heap.size := HA5.out.g.turned.size
         clear H6C HG6 hQl5 hWl5
         generalize w5.alloc (.cells #[.int .i64 30, .int .i64 n, .int .i64 m, .string ByteArray.empty, .slice none 0 0, .int .i64 0, .int .i64 0, .int .i64 0] 37) = w6 at *
         generalize w5.heap.size = b9 at *)
      | (have hA6 := HA6.out
         have hC6 := HC6.out
         have hN6 := HN9.out
         have h16 : w1.heap.size ≤ w4.heap.size := HA4.out.g.turned.size
         clear H6D HG6 HA6 HC6 HN9 HB9 t0 t1 t2 t3 t4 t5 t6 t7 tf
         generalize ((((((((w5.setCell ⟨w4.heap.size, 0, none⟩ (.int .i64 30)).setCell ⟨w4.heap.size, 1, none⟩ (.int .i64 n)).setCell ⟨w4.heap.size, 2, none⟩ (.int .i64 m)).setCell ⟨w4.heap.size, 3, none⟩ (.string ByteArray.empty)).setCell ⟨w4.heap.size, 4, none⟩ (.slice none 0 0)).setCell ⟨w4.heap.size, 5, none⟩ (.int .i64 0)).setCell ⟨w4.heap.size, 6, none⟩ (.int .i64 0)).setCell ⟨w4.heap.size, 7, none⟩ (.int .i64 0)) = w6 at *
         generalize w4.heap.size = b9 at *)
    obtain ⟨hK1, kQ, kW⟩ := HKQ.out
    have q14 := wx_q hA6.is.wx.lies (i := i) hik (k := 14) (v := .bool false) (by rw [setQ_qs]; show some (Value.bool ((x.qs i).st)) = _; rw [HST.out])
    have qff := wx_qf hA6.is.wx.lies (i := i) hik
    have G7 := wx_setSt (GStep.refl hA6.is.wx.lies) (i := i) hik true
    rw [setQ_setQ, setQ_qs, kQ] at G7
    rw [kQ] at q14 qff
    have hne9 : b9 ≠ lw (.Q i) := fun e => hN6 (e ▸ (owns_sum.2 (.inr ⟨.Q i, by rw [Wx.obj_q (show i ∈ (x.setQ i (((x.qs i).withFp p1).asks ck cf cd)).m.keys from hik)]; simp, kQ⟩)))
    have hb9lt : b9 < w6.heap.size := by
      rcases Nat.lt_or_ge b9 w6.heap.size with h | h
      · exact h
      · rw [Array.getElem?_eq_none h] at hC6; cases hC6
    have A67 := AStep.wo hA6.is G7 (by have := hA6.xok.stood i true; rw [setQ_setQ, setQ_qs] at this; exact this) rfl rfl
    have hC7 := A67.g.heap hC6 hN6
    have hN7 := A67.g.fresh hN6 hb9lt
    have A7 := hA6.trans A67
    obtain ⟨r0', r1', r2', r3', r4', r5', r6', r7', rf'⟩ := cells8 hC6
    have HN6 := Lib.hid hN6
    have HA7 := Lib.hid A7
    have HC7 := Lib.hid hC7
    have HN7 := Lib.hid hN7
    have h67 : (w6.setCell ⟨lw (.Q i), 14, none⟩ (.bool true)).heap.size = w6.heap.size := by simp
    clear hN6 hC6 hA6 G7 A67 hN7 A7
    go_upto_region 14 with fail
    clear r0' r1' r2' r3' r4' r5' r6' r7' rf'
    obtain ⟨r0', r1', r2', r3', r4', r5', r6', r7', rf'⟩ := cells8 hC7
    clear hC7 q14
    have qf7 := wx_qf HA7.out.is.wx.lies (i := i) hik
    rw [kQ] at qf7
    generalize w6.setCell ⟨lw (.Q i), 14, none⟩ (.bool true) = w7 at *
    clear qff
    try clear HN6
    try clear HC6
    try clear h67
    clear r0' r1' r2' r3' r4' r5' r6' r7' rf' qf7
    have HA8 := HA7
    have HC8 := HC7
    have HN8 := HN7
    clear HA7 HC7 HN7
    generalize w7 = w8 at *
    have hb98 : b9 < w8.heap.size := by
      have hC8 := HC8.out
      rcases Nat.lt_or_ge b9 w8.heap.size with h | h
      · exact h
      · rw [Array.getElem?_eq_none h] at hC8; cases hC8
    have hQ8 : lw (.Q i) < w8.heap.size := by rw [← kQ]; exact wx_ql HA8.out.is.wx.lies (i := i) hik
    have h18 : w1.heap.size ≤ w8.heap.size := HA8.out.g.turned.size
    have h13 : ∀ (W : World), Al s' l' (x.setQ i ((((x.qs i).withFp p1).asks ck cf cd).stood true)) lw1 W → W.heap[b9]? = some (.cells #[.int .i64 30, .int .i64 n, .int .i64 m, .string ByteArray.empty, .slice none 0 0, .int .i64 0, .int .i64 0, .int .i64 0] 37 (0, 0)) → (W : World).cell? ⟨lw (.Q i), 9, none⟩ = some (.int .i64 ck) ∧ (W : World).cell? ⟨lw (.Q i), 10, none⟩ = some (.int .i64 cf) ∧ (W : World).cell? ⟨lw (.Q i), 11, none⟩ = some (.int .i64 0) ∧ (W : World).cell? ⟨lw (.Q i), 12, none⟩ = some (.string ByteArray.empty) ∧ (W : World).cell? ⟨lw (.Q i), 13, none⟩ = some (.string ⟨cd.toArray⟩) ∧ (W : World).cell? ⟨b9, 0, none⟩ = some (.int .i64 30) ∧ (W : World).cell? ⟨b9, 1, none⟩ = some (.int .i64 n) ∧ (W : World).cell? ⟨b9, 2, none⟩ = some (.int .i64 m) ∧ (W : World).cell? ⟨b9, 3, none⟩ = some (.string ByteArray.empty) ∧ (W : World).cell? ⟨b9, 4, none⟩ = some (.slice none 0 0) ∧ (W : World).cell? ⟨b9, 5, none⟩ = some (.int .i64 0) ∧ (W : World).cell? ⟨b9, 6, none⟩ = some (.int .i64 0) ∧ (W : World).cell? ⟨b9, 7, none⟩ = some (.int .i64 0) := fun W hW hb => by
      have g := fun k v hk => wx_q hW.wx.lies (i := i) hik (k := k) (v := v) hk
      rw [kQ, setQ_qs] at g
      obtain ⟨r0', r1', r2', r3', r4', r5', r6', r7', _⟩ := cells8 hb
      exact ⟨g 9 _ rfl, g 10 _ rfl, g 11 _ rfl, g 12 _ rfl, g 13 _ rfl, r0', r1', r2', r3', r4', r5', r6', r7'⟩
    have HG13 := Lib.hid (h13 w8.drew HA8.out.drew.is HC8.out)
    have HO13 := Lib.hid (fun o : Obj => h13 (w8.alloc o) (HA8.out.below ((Below.refl _ w8).alloc (Nat.le_refl _) o)).is ((Below.heap_alloc _ _ _ hb98).trans HC8.out))
    have HD13 := Lib.hid (fun o : Obj => h13 (w8.alloc o).drew (HA8.out.below ((Below.refl _ w8).alloc (Nat.le_refl _) o)).drew.is ((Below.heap_alloc _ _ _ hb98).trans HC8.out))
    have HZ := Lib.hid ((HA8.out.below ((Below.refl _ w8).alloc (Nat.le_refl _) (.cells #[.int .i64 0, .int .i64 0, .int .i64 0, .int .i64 0, .string ⟨#[]⟩, .string ⟨#[]⟩, .int .i64 0, .int .i64 0, .int .i64 0, .string ⟨#[]⟩, .slice none 0 0, .int .i64 0, .int .i64 0, .int .i64 0] 39))).drew)
    have hn10 := HA8.out.is.fresh (Nat.le_refl w8.heap.size)
    obtain ⟨w9, hw9, hA9, hc9⟩ := fourteen_set (show ((w8.alloc (.cells #[.int .i64 0, .int .i64 0, .int .i64 0, .int .i64 0, .string ⟨#[]⟩, .string ⟨#[]⟩, .int .i64 0, .int .i64 0, .int .i64 0, .string ⟨#[]⟩, .slice none 0 0, .int .i64 0, .int .i64 0, .int .i64 0] 39)).drew).heap[w8.heap.size]? = _ from Array.getElem?_push_size) (.int .i64 i) (.int .i64 ck) (.int .i64 cf) (.int .i64 0) (.string ByteArray.empty) (.string ⟨cd.toArray⟩) (.int .i64 30) (.int .i64 n) (.int .i64 m) (.string ByteArray.empty) (.slice none 0 0) (.int .i64 0) (.int .i64 0) (.int .i64 0)
    have A9 := HZ.out.aside hA9 h18 hn10
    have HS13 := Lib.hid (h13 w9 A9.is ((hA9.block _ (by omega)).trans ((Below.heap_alloc _ _ _ hb98).trans HC8.out)))
    rw [← hw9] at HS13
    have HW9 := Lib.hid hw9
    have HA9 := Lib.hid A9
    have HC9 := Lib.hid hc9
    have HN10 := Lib.hid hn10
    clear h13 hw9 hA9 A9 hc9 hn10
    go_region_held3 (fun W => W.cell? ⟨lw (.Q i), 9, none⟩ = some (.int .i64 ck) ∧ W.cell? ⟨lw (.Q i), 10, none⟩ = some (.int .i64 cf) ∧ W.cell? ⟨lw (.Q i), 11, none⟩ = some (.int .i64 0) ∧ W.cell? ⟨lw (.Q i), 12, none⟩ = some (.string ByteArray.empty) ∧ W.cell? ⟨lw (.Q i), 13, none⟩ = some (.string ⟨cd.toArray⟩) ∧ W.cell? ⟨b9, 0, none⟩ = some (.int .i64 30) ∧ W.cell? ⟨b9, 1, none⟩ = some (.int .i64 n) ∧ W.cell? ⟨b9, 2, none⟩ = some (.int .i64 m) ∧ W.cell? ⟨b9, 3, none⟩ = some (.string ByteArray.empty) ∧ W.cell? ⟨b9, 4, none⟩ = some (.slice none 0 0) ∧ W.cell? ⟨b9, 5, none⟩ = some (.int .i64 0) ∧ W.cell? ⟨b9, 6, none⟩ = some (.int .i64 0) ∧ W.cell? ⟨b9, 7, none⟩ = some (.int .i64 0)) (first | with_reducible exact HG13.out | with_reducible exact HO13.out _ | with_reducible exact HD13.out _ | with_reducible exact HS13.out | go_keep | ((try dsimp only); (repeat' apply And.intro) <;> first | go_keep | assumption | exact (cs_block (by dsimp only; omega)).trans (by assumption))) (fail)
    clear HS13 HW9 HA9 HC9 HD13 HZ HG13
    have hA9 := HA8.out.below ((Below.refl _ w8).alloc (Nat.le_refl _) (.cells #[.int .i64 i, .int .i64 ck, .int .i64 cf, .int .i64 0, .string ByteArray.empty, .string ⟨cd.toArray⟩, .int .i64 30, .int .i64 n, .int .i64 m, .string ByteArray.empty, .slice none 0 0, .int .i64 0, .int .i64 0, .int .i64 0] 39))
    have hC9 : (w8.alloc (.cells #[.int .i64 i, .int .i64 ck, .int .i64 cf, .int .i64 0, .string ByteArray.empty, .string ⟨cd.toArray⟩, .int .i64 30, .int .i64 n, .int .i64 m, .string ByteArray.empty, .slice none 0 0, .int .i64 0, .int .i64 0, .int .i64 0] 39)).heap[w8.heap.size]? = some (.cells #[.int .i64 i, .int .i64 ck, .int .i64 cf, .int .i64 0, .string ByteArray.empty, .string ⟨cd.toArray⟩, .int .i64 30, .int .i64 n, .int .i64 m, .string ByteArray.empty, .slice none 0 0, .int .i64 0, .int .i64 0, .int .i64 0] 39 (0, 0)) := Array.getElem?_push_size
    have hb0 := (HO13.out (.cells #[.int .i64 i, .int .i64 ck, .int .i64 cf, .int .i64 0, .string ByteArray.empty, .string ⟨cd.toArray⟩, .int .i64 30, .int .i64 n, .int .i64 m, .string ByteArray.empty, .slice none 0 0, .int .i64 0, .int .i64 0, .int .i64 0] 39)).2.2.2.2.2.1
    have hW8 : w8.heap.size < (w8.alloc (.cells #[.int .i64 i, .int .i64 ck, .int .i64 cf, .int .i64 0, .string ByteArray.empty, .string ⟨cd.toArray⟩, .int .i64 30, .int .i64 n, .int .i64 m, .string ByteArray.empty, .slice none 0 0, .int .i64 0, .int .i64 0, .int .i64 0] 39)).heap.size := by simp
    clear HO13
    generalize w8.alloc (.cells #[.int .i64 i, .int .i64 ck, .int .i64 cf, .int .i64 0, .string ByteArray.empty, .string ⟨cd.toArray⟩, .int .i64 30, .int .i64 n, .int .i64 m, .string ByteArray.empty, .slice none 0 0, .int .i64 0, .int .i64 0, .int .i64 0] 39) = w9 at *
    obtain ⟨r0', r1', r2', r3', r4', r5', r6', r7', r8', r9', r10', r11', r12', r13', rf'⟩ := cells14 hC9
    have HA9 := Lib.hid hA9
    have HC9 := Lib.hid hC9
    clear hA9 hC9
    go_upto_region 17 with fail
    have AT := HA9.out.drew
    have hC10 : (w9.drew).heap[w8.heap.size]? = _ := HC9.out
    have hb0' : (w9.drew : World).cell? ⟨b9, 0, none⟩ = _ := hb0
    clear hb0
    have hb0 := hb0'
    clear hb0' HC9 HA9
    generalize w9.drew = w10 at *
    have hnz := H.out.fresh (Nat.le_refl w.heap.size)
    have hZ10 := AT.g.heap HBK.out hnz
    have hnz5 := AT.g.fresh hnz hz1
    unfold Z14 at hZ10
    clear r0' r1' r2' r3' r4' r5' r6' r7' r8' r9' r10' r11' r12' r13' rf' hb0
    obtain ⟨s0', s1', s2', s3', s4', s5', s6', s7', s8', s9', s10', s11', s12', s13', sf'⟩ := cells14 hC10
    obtain ⟨z0', z1', z2', z3', z4', z5', z6', z7', z8', z9', z10', z11', z12', z13', zf'⟩ := cells14 hZ10
    have HAT := Lib.hid (HB.out.trans AT)
    have hge : w.heap.size ≤ w.heap.size := Nat.le_refl _
    obtain ⟨w11, hw11, hA11, hc11⟩ := fourteen_set hZ10 (.int .i64 i) (.int .i64 ck) (.int .i64 cf) (.int .i64 0) (.string ByteArray.empty) (.string ⟨cd.toArray⟩) (.int .i64 30) (.int .i64 n) (.int .i64 m) (.string ByteArray.empty) (.slice none 0 0) (.int .i64 0) (.int .i64 0) (.int .i64 0)
    have A11 := Lib.hid (HAT.out.aside hA11 hge hnz5)
    have HC11 := Lib.hid hc11
    have HW11 := Lib.hid hw11
    clear AT hnz hZ10 hnz5 hw11 hA11 hc11
    go_upto_region 18 with fail
    rw [HW11.out]
    obtain ⟨v0', v1', v2', v3', v4', v5', v6', v7', v8', v9', v10', v11', v12', v13', vf'⟩ := cells14 HC11.out
    refine bodyPost_ret (v := .tuple #[.agg #[.int .i64 i, .int .i64 ck, .int .i64 cf, .int .i64 0, .string ByteArray.empty, .string ⟨cd.toArray⟩, .int .i64 30, .int .i64 n, .int .i64 m, .string ByteArray.empty, .slice none 0 0, .int .i64 0, .int .i64 0, .int .i64 0], .bool true]) ?_ rfl ⟨rfl, p1, s', l', lw1, HP1.out, HP2.out, A11.out⟩
    simp [results, Tryz.results11, go_sem, v0', v1', v2', v3', v4', v5', v6', v7', v8', v9', v10', v11', v12', v13']
    try rfl
end Go.Proofs.YtelohloaoocoaaaGreatDoor
