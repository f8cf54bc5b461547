/- FsI -/
import Derived.Test.YtbecmcjibpamoaaGreatDoorQ09
set_option linter.unusedVariables false
set_option linter.unusedSimpArgs false
set_option linter.deprecated false
set_option linter.unnecessarySimpa false
namespace Go.Proofs.YtbecmcjibpamoaaGreatDoor
open Go.RowKit
set_option maxRecDepth 100000 in
theorem less_names {s lay} (i : Int) (x : Nd) (w : World) (h : FsIs s lay w) (hn : s.nd i = some x) (hp : x.names ≠ 0) : Calls Tryz.prog 67 #[ptrTo (lay .T), .int .i64 i, ptrTo (lay (.N (slotOf i))), .pointer (some ⟨lay (.N (slotOf i)), 0, none⟩)] w fun e w' => e = .returned (.int .i64 0) ∧ Step s lay w (s.lessS i { x with names := decW x.names }) lay w' := by
  obtain ⟨hi1, hi2, hk⟩ := Fs.nd_slot hn
  have hlen := h.ok.nodes
  have c0 := h.n0 hk
  have c1 := h.n1 hk
  have f0 := h.nf hk 0
  have hst := (Step.refl h).setN (o := 0) (v := .int .i64 (decW x.names)) hk (x := { x with names := decW x.names }) rfl rfl
  have hk1 : (s.setNd (slotOf i) { x with names := decW x.names }).nodes[slotOf i]? = some (some { x with names := decW x.names }) := by rw [Fs.setNd_get, if_pos rfl, if_pos (List.getElem?_eq_some_iff.1 hk).1]
  have hidle : ∀ b, idle { x with names := decW x.names } = b → (decide (({ x with names := decW x.names } : Nd).names = 0) && decide (({ x with names := decW x.names } : Nd).users = 0)) = b := fun b hb => hb
  unfold Fs.lessS
  obtain ⟨k, rfl⟩ : ∃ k : Nat, i = k + 1 := ⟨(i - 1).toNat, by omega⟩
  have hk2 : k < s.nodes.length := by omega
  rw [slotOf_eq] at *
  clear h hn
  have hd : wrap64 (x.names - 1) = decW x.names := rfl
  cases hid : idle { x with names := decW x.names } with
  | false =>
    have hb := hidle _ hid
    simp only at hb
    rw [if_neg (by simp)]
    clear hid hidle
    go_enter Tryz.func67, Tryz.ntmps67
    unfold ptrTo
    go_wp2_with (go_at_call 109; rw [hd]; refine (idle_any _ _ _).mono ?_; rintro e w1 ⟨rfl, hB⟩; rw [hb])
    go_ret
    exact ⟨rfl, hst.trans ⟨hst.is.below hB, Turned.of_below hB, fun _ q => .inl q⟩⟩
  | true =>
    have hb := hidle _ hid
    simp only at hb
    rw [if_pos (by simp)]
    clear hid hidle
    go_enter Tryz.func67, Tryz.ntmps67
    unfold ptrTo
    go_wp2_with first
      | (go_at_call 109; rw [hd]; refine (idle_any _ _ _).mono ?_; rintro e w1 ⟨rfl, hB⟩; rw [hb]; have hst1 := hst.trans ⟨hst.is.below hB, Turned.of_below hB, fun _ q => .inl q⟩; clear c0 c1 f0)
      | (go_at_call 110; refine (drop_any k _ 0 _ hst1.is hk1).mono ?_; rintro e w2 ⟨rfl, hst2⟩; have t0 := hst2.is.t0; have f2 := hst2.is.lies.fz (i := .G) rfl k; have g2 : w2.cell? ⟨lay .G, k, none⟩ = some (ptrTo (lay (.N k))) := hst2.is.gN (dropped_node hk1); have hl2 : ((s.setNd k { x with names := decW x.names }).dropS k { x with names := decW x.names } 0).nodes.length = s.nodes.length := (by unfold Fs.dropS Fs.dropped Fs.setNd; simp only [List.length_set, (givesS_nodes _ _).1]); rw [hl2] at t0)
    go_ret
    exact ⟨rfl, (hst1.trans hst2).noNd k⟩
theorem less_names0 {s lay} (i : Int) (x : Nd) (w : World) (h : FsIs s lay w) (hn : s.nd i = some x) (hp : x.names = 0) : Calls Tryz.prog 67 #[ptrTo (lay .T), .int .i64 i, ptrTo (lay (.N (slotOf i))), .pointer (some ⟨lay (.N (slotOf i)), 0, none⟩)] w fun e w' => e = .returned (.int .i64 23) ∧ w = w' := by
  have c0 := h.n0 (Fs.nd_slot hn).2.2
  rw [hp] at c0
  go_enter Tryz.func67, Tryz.ntmps67
  unfold ptrTo
  go_wp2_with fail
  go_ret
  exact ⟨rfl, rfl⟩
set_option maxRecDepth 100000 in
theorem less_users {s lay} (i : Int) (x : Nd) (w : World) (h : FsIs s lay w) (hn : s.nd i = some x) (hp : x.users ≠ 0) : Calls Tryz.prog 67 #[ptrTo (lay .T), .int .i64 i, ptrTo (lay (.N (slotOf i))), .pointer (some ⟨lay (.N (slotOf i)), 1, none⟩)] w fun e w' => e = .returned (.int .i64 0) ∧ Step s lay w (s.lessS i { x with users := decW x.users }) lay w' := by
  obtain ⟨hi1, hi2, hk⟩ := Fs.nd_slot hn
  have hlen := h.ok.nodes
  have c0 := h.n0 hk
  have c1 := h.n1 hk
  have f0 := h.nf hk 1
  have hst := (Step.refl h).setN (o := 1) (v := .int .i64 (decW x.users)) hk (x := { x with users := decW x.users }) rfl rfl
  have hk1 : (s.setNd (slotOf i) { x with users := decW x.users }).nodes[slotOf i]? = some (some { x with users := decW x.users }) := by rw [Fs.setNd_get, if_pos rfl, if_pos (List.getElem?_eq_some_iff.1 hk).1]
  have hidle : ∀ b, idle { x with users := decW x.users } = b → (decide (({ x with users := decW x.users } : Nd).names = 0) && decide (({ x with users := decW x.users } : Nd).users = 0)) = b := fun b hb => hb
  unfold Fs.lessS
  obtain ⟨k, rfl⟩ : ∃ k : Nat, i = k + 1 := ⟨(i - 1).toNat, by omega⟩
  have hk2 : k < s.nodes.length := by omega
  rw [slotOf_eq] at *
  clear h hn
  have hd : wrap64 (x.users - 1) = decW x.users := rfl
  cases hid : idle { x with users := decW x.users } with
  | false =>
    have hb := hidle _ hid
    simp only at hb
    rw [if_neg (by simp)]
    clear hid hidle
    go_enter Tryz.func67, Tryz.ntmps67
    unfold ptrTo
    go_wp2_with (go_at_call 109; rw [hd]; refine (idle_any _ _ _).mono ?_; rintro e w1 ⟨rfl, hB⟩; rw [hb])
    go_ret
    exact ⟨rfl, hst.trans ⟨hst.is.below hB, Turned.of_below hB, fun _ q => .inl q⟩⟩
  | true =>
    have hb := hidle _ hid
    simp only at hb
    rw [if_pos (by simp)]
    clear hid hidle
    go_enter Tryz.func67, Tryz.ntmps67
    unfold ptrTo
    go_wp2_with first
      | (go_at_call 109; rw [hd]; refine (idle_any _ _ _).mono ?_; rintro e w1 ⟨rfl, hB⟩; rw [hb]; have hst1 := hst.trans ⟨hst.is.below hB, Turned.of_below hB, fun _ q => .inl q⟩; clear c0 c1 f0)
      | (go_at_call 110; refine (drop_any k _ 0 _ hst1.is hk1).mono ?_; rintro e w2 ⟨rfl, hst2⟩; have t0 := hst2.is.t0; have f2 := hst2.is.lies.fz (i := .G) rfl k; have g2 : w2.cell? ⟨lay .G, k, none⟩ = some (ptrTo (lay (.N k))) := hst2.is.gN (dropped_node hk1); have hl2 : ((s.setNd k { x with users := decW x.users }).dropS k { x with users := decW x.users } 0).nodes.length = s.nodes.length := (by unfold Fs.dropS Fs.dropped Fs.setNd; simp only [List.length_set, (givesS_nodes _ _).1]); rw [hl2] at t0)
    go_ret
    exact ⟨rfl, (hst1.trans hst2).noNd k⟩
theorem less_users0 {s lay} (i : Int) (x : Nd) (w : World) (h : FsIs s lay w) (hn : s.nd i = some x) (hp : x.users = 0) : Calls Tryz.prog 67 #[ptrTo (lay .T), .int .i64 i, ptrTo (lay (.N (slotOf i))), .pointer (some ⟨lay (.N (slotOf i)), 1, none⟩)] w fun e w' => e = .returned (.int .i64 23) ∧ w = w' := by
  have c0 := h.n1 (Fs.nd_slot hn).2.2
  rw [hp] at c0
  go_enter Tryz.func67, Tryz.ntmps67
  unfold ptrTo
  go_wp2_with fail
  go_ret
  exact ⟨rfl, rfl⟩
theorem untie_some {s lay} (i : Int) (x : Nd) (w : World) (h : FsIs s lay w) (hn : s.nd i = some x) (hp : x.names ≠ 0) : Calls Tryz.prog 35 #[ptrTo (lay .T), .int .i64 i] w fun e w' => e = .returned (.int .i64 0) ∧ Step s lay w (s.lessS i { x with names := decW x.names }) lay w' := by
  go_enter Tryz.func35, Tryz.ntmps35
  unfold ptrTo
  go_wp2_with first
    | (go_at_call 37; refine (find_some i x w h hn).mono ?_; rintro e w' ⟨rfl, rfl⟩; unfold ptrTo)
    | (go_at_call 67; refine (less_names i x w h hn hp).mono ?_; rintro e w' ⟨rfl, hst⟩)
  go_ret
  exact ⟨rfl, hst⟩
theorem untie_zero {s lay} (i : Int) (x : Nd) (w : World) (h : FsIs s lay w) (hn : s.nd i = some x) (hp : x.names = 0) : Calls Tryz.prog 35 #[ptrTo (lay .T), .int .i64 i] w fun e w' => e = .returned (.int .i64 23) ∧ w = w' := by
  go_enter Tryz.func35, Tryz.ntmps35
  unfold ptrTo
  go_wp2_with first
    | (go_at_call 37; refine (find_some i x w h hn).mono ?_; rintro e w' ⟨rfl, rfl⟩; unfold ptrTo)
    | (go_at_call 67; refine (less_names0 i x w h hn hp).mono ?_; rintro e w' ⟨rfl, rfl⟩)
  go_ret
  exact ⟨rfl, rfl⟩
theorem untie_none {s lay} (i : Int) (w : World) (h : FsIs s lay w) (hn : s.nd i = none) : Calls Tryz.prog 35 #[ptrTo (lay .T), .int .i64 i] w fun e w' => e = .returned (.int .i64 23) ∧ w = w' := by
  go_enter Tryz.func35, Tryz.ntmps35
  unfold ptrTo
  go_wp2_with (go_at_call 37; refine (find_none i w h hn).mono ?_; rintro e w' ⟨rfl, rfl⟩)
  go_ret
  exact ⟨rfl, rfl⟩
theorem loose_some {s lay} (i : Int) (x : Nd) (w : World) (h : FsIs s lay w) (hn : s.nd i = some x) (hp : x.users ≠ 0) : Calls Tryz.prog 170 #[ptrTo (lay .T), .int .i64 i] w fun e w' => e = .returned (.int .i64 0) ∧ Step s lay w (s.lessS i { x with users := decW x.users }) lay w' := by
  go_enter Tryz.func170, Tryz.ntmps170
  unfold ptrTo
  go_wp2_with first
    | (go_at_call 37; refine (find_some i x w h hn).mono ?_; rintro e w' ⟨rfl, rfl⟩; unfold ptrTo)
    | (go_at_call 67; refine (less_users i x w h hn hp).mono ?_; rintro e w' ⟨rfl, hst⟩)
  go_ret
  exact ⟨rfl, hst⟩
theorem loose_zero {s lay} (i : Int) (x : Nd) (w : World) (h : FsIs s lay w) (hn : s.nd i = some x) (hp : x.users = 0) : Calls Tryz.prog 170 #[ptrTo (lay .T), .int .i64 i] w fun e w' => e = .returned (.int .i64 23) ∧ w = w' := by
  go_enter Tryz.func170, Tryz.ntmps170
  unfold ptrTo
  go_wp2_with first
    | (go_at_call 37; refine (find_some i x w h hn).mono ?_; rintro e w' ⟨rfl, rfl⟩; unfold ptrTo)
    | (go_at_call 67; refine (less_users0 i x w h hn hp).mono ?_; rintro e w' ⟨rfl, rfl⟩)
  go_ret
  exact ⟨rfl, rfl⟩
theorem loose_none {s lay} (i : Int) (w : World) (h : FsIs s lay w) (hn : s.nd i = none) : Calls Tryz.prog 170 #[ptrTo (lay .T), .int .i64 i] w fun e w' => e = .returned (.int .i64 23) ∧ w = w' := by
  go_enter Tryz.func170, Tryz.ntmps170
  unfold ptrTo
  go_wp2_with (go_at_call 37; refine (find_none i w h hn).mono ?_; rintro e w' ⟨rfl, rfl⟩)
  go_ret
  exact ⟨rfl, rfl⟩
end Go.Proofs.YtbecmcjibpamoaaGreatDoor
