/- NmG -/
import Derived.Test.YtbecmcjibpamoaaGreatDoorQ21
set_option linter.unusedVariables false
set_option linter.unusedSimpArgs false
set_option linter.deprecated false
set_option linter.unnecessarySimpa false
namespace Go.Proofs.YtbecmcjibpamoaaGreatDoor
open Go.RowKit IntWalk
section
variable {W0 : World} {s : Fs} {lay : FId → Nat} {L : Nat}
def rooted : List UInt8 → Bool
  | 47 :: _ => true
  | _ => false
def unroot : List UInt8 → List UInt8
  | 47 :: r => r
  | p => p
theorem fromS_eq (at_ : Int) (path : List UInt8) : fromS at_ path = (if rooted path then 1 else at_, unroot path) := by
  unfold fromS rooted unroot
  split <;> simp_all
theorem cut_any (path : List UInt8) (w : World) : Calls Tryz.prog 54 #[.string ⟨path.toArray⟩, .string ⟨#[47]⟩] w fun e w' => e = .returned (.tuple #[.string ⟨(unroot path).toArray⟩, .bool (rooted path)]) ∧ w = w' := by
  refine (Tryz.strings_CutPrefix ⟨path.toArray⟩ ⟨#[47]⟩ w).mono ?_
  rintro e w' ⟨rfl, rfl⟩
  refine ⟨?_, rfl⟩
  have h1 : Lib.hasPrefix path [47] = rooted path := by
    cases path with
    | nil => rfl
    | cons c r =>
      unfold Lib.hasPrefix rooted
      by_cases hc : c = 47
      · subst hc; simp
      · have : ((47 : UInt8) == c) = false := by rw [beq_eq_false_iff_ne]; exact fun q => hc q.symm
        simp [List.isPrefixOf, this]
        split
        · rename_i q; cases q; exact absurd rfl hc
        · rfl
  have h2 : Lib.trimPrefix path [47] = unroot path := by
    unfold Lib.trimPrefix
    rw [h1]
    unfold rooted unroot
    split <;> simp
  show Ending.returned (.tuple #[.string ⟨(Lib.trimPrefix path [47]).toArray⟩, .bool (Lib.hasPrefix path [47])]) = _
  rw [h1, h2]
theorem WayIs.keep_below {links : Nat} {w w' : World} (h : WayIs W0 s lay L links w) (hB : Below w.heap.size w w') : WayIs W0 s lay L links w' :=
  ⟨⟨h.is.lies.kept fun i hi => hB.block _ (h.is.lies.owns_lt ⟨i, hi, rfl⟩), h.is.ok⟩, h.wk.keep (hB.block L h.wk.lt), h.below.trans (hB.mono h.below.size)⟩
theorem WayIs.wayT {links : Nat} {w : World} (h : WayIs W0 s lay L links w) {k : Nat} (hk : w.heap.size ≤ k) : ¬ WayT s lay L k := by
  rintro (rfl | q)
  · have := h.wk.lt; omega
  · have := h.is.lies.owns_lt q; omega
structure GoR (W0 : World) (s : Fs) (lay : FId → Nat) (L : Nat) (go : Int → List UInt8 → Nat → Int × Int × Nat) (fol : Bool) (ps : List (List UInt8)) (w : World) (res : Int × Int × Nat) (b : Nat) (a : Int) (k links : Nat) (W : World) : Prop where
  way : WayIs W0 s lay L links W
  turned : Turned (WayT s lay L) w W
  row : StrsAt W b ps
  rest : s.partsS go fol a (ps.drop k) links = res
  le : k ≤ ps.length
  new : ¬ WayT s lay L b
  lt : ps ≠ [] → b < W.heap.size
  l8 : links ≤ 8
set_option maxRecDepth 100000 in
set_option maxHeartbeats 1000000 in
theorem goes_long (hW : s.Whole) (hlow : ∀ k, WayT s lay L k → W0.heap.size ≤ k) (hE : EnvG W0) (f : Nat) (at_ : Int) (path : List UInt8) (fol : Bool) (links : Nat) (w : World) (hf : 9 ≤ links + (f + 1)) (hl8 : links ≤ 8) (hG : GoOk W0 s lay L f) (h : WayIs W0 s lay L links w) (h0 : path ≠ []) (h1 : path.length ≤ 256) :
    Calls Tryz.prog 27 #[ptrTo L, .int .i64 at_, .string ⟨path.toArray⟩, .bool fol] w fun e w' =>
      e = .returned (.tuple #[.int .i64 (s.goesS (f + 1) at_ path fol links).1, .int .i64 (s.goesS (f + 1) at_ path fol links).2.1]) ∧ WayIs W0 s lay L (s.goesS (f + 1) at_ path fol links).2.2 w' ∧ Turned (WayT s lay L) w w' := by
  have hg : s.goesS (f + 1) at_ path fol links = s.partsS (fun a p k => s.goesS f a p true k) fol (if rooted path then 1 else at_) (cutP (unroot path)) links := by
    rw [Fs.goesS, if_neg h0, if_neg (by omega), fromS_eq]
  rw [hg]
  have HP := Lib.hid (fun (a : Int) (q : List UInt8) (b : Bool) (k : Nat) (W : World) (hk : 9 ≤ k + 1 + f) (hk8 : k ≤ 8) (hWW : WayIs W0 s lay L k W) => part_any (links := k) hW hlow (fun _ => hG) hk8 a q b W hWW hk)
  have hps : (unroot path).length ≤ 256 := by unfold unroot; split <;> simp_all <;> omega
  have b0 : path.isEmpty = false := by cases path with | nil => exact absurd rfl h0 | cons _ _ => rfl
  have h1' : ¬ (256 : Int) < path.length := by omega
  have hC := Lib.hid (cut_any path)
  obtain ⟨m, hm⟩ := hE.at_ h.below
  have hS := Lib.hid (split_any (unroot path) (by omega) w m hm)
  have hlen : (cutP (unroot path)).length ≤ 1000 := by rw [cutP_len]; have := List.count_le_length (a := (47 : UInt8)) (l := unroot path); omega
  have hqq : rooted path = false → unroot path = path := by unfold rooted unroot; split <;> simp
  clear hg hps hm
  generalize rooted path = rt at *
  generalize unroot path = q at *
  generalize cutP q = ps at *
  generalize hgo : (fun a p k => s.goesS f a p true k) = go at *
  have hup : ∀ a p k, k ≤ 8 → UpTo k (go a p k) := by subst hgo; exact fun a p k hk => goesS_up f a p true k hk
  generalize hres : s.partsS go fol (if rt then 1 else at_) ps links = res
  have HU := Lib.hid hup
  clear hgo hup
  rcases rt with _ | _
  · obtain rfl := hqq rfl
    unfold ptrTo at *
    go_enter Tryz.func27, Tryz.ntmps27
    go_wp2_with first
      | (go_at_call 54; refine (hC.out _).mono ?_; rintro e w' ⟨rfl, rfl⟩)
      | (go_at_call 55; refine hS.out.mono ?_; rintro e w1 ⟨rfl, hrow, hB1⟩)
    have rowlt : ps ≠ [] → w.heap.size < w1.heap.size := fun q => by
      cases ps with
      | nil => exact absurd rfl q
      | cons x r => exact World.block_lt_of_cell? w1 ⟨w.heap.size, 0, none⟩ (hrow 0 x rfl)
    have  hw1 : GoR W0 s lay L go fol ps w res w.heap.size (if false then 1 else at_) 0 links w1 := ⟨h.keep_below hB1, (Turned.of_below hB1), hrow, by simpa using hres, by omega, h.wayT (Nat.le_refl _), rowlt, hl8⟩
    clear rowlt hS hC hres h hrow hB1
    go_loopw [1, 34] (fun av kv V => ∃ (a : Int) (k k' : Nat), av = .int .i64 a ∧ kv = .int .i64 k ∧ links ≤ k' ∧ GoR W0 s lay L go fol ps w res w.heap.size a k k' V) (fun _ kv _ => ps.length - (intOf kv).toNat)
    case atStart => exact ⟨_, 0, links, rfl, rfl, Nat.le_refl _, hw1⟩
    case round =>
      obtain ⟨a, k, k', rfl, rfl, hlk, hR⟩ := hrel
      have HR := Lib.hid hR
      clear hR hw1
      by_cases hk : k < ps.length
      · have hkI : (k : Int) < ps.length := by omega
        obtain ⟨p, hp⟩ : ∃ p, ps[k]? = some p := ⟨_, List.getElem?_eq_getElem hk⟩
        have hc := HR.out.row k p hp
        have hk0 : k ≤ 1000 := by omega
        have hne : ps ≠ [] := fun q => by rw [q] at hk; simp at hk
        have hlt := Lib.hid (HR.out.lt hne)
        obtain ⟨b, hb⟩ : ∃ b, b = (fol || !(ps.drop (k + 1)).isEmpty) := ⟨_, rfl⟩
        have HQ := Lib.hid (HP.out a p b k' wr (by omega) HR.out.l8 HR.out.way)
        have hup := partS_up (s := s) HU.out a p b k' HR.out.l8
        obtain ⟨n, e, k2, hr⟩ : ∃ n e k2, s.partS go a p b k' = (n, e, k2) := ⟨_, _, _, rfl⟩
        rw [hr] at HQ hup
        have hrest := HR.out.rest
        rw [List.drop_eq_getElem_cons hk, show ps[k] = p from by rw [List.getElem?_eq_getElem hk] at hp; exact Option.some.inj hp, Fs.partsS, ← hb, hr] at hrest
        have hnext : e = 0 → s.partsS go fol n (ps.drop (k + 1)) k2 = res := fun q => by subst q; exact hrest
        have hstop : e ≠ 0 → res = (0, e, k2) := fun q => by
          rw [← hrest]
          split
          · rename_i q2; cases q2; exact absurd rfl q
          · rename_i q2; cases q2; rfl
        have HNX := Lib.hid hnext
        have HST := Lib.hid hstop
        have hcases : (fol = true ∧ b = true) ∨ (fol = false ∧ (k : Int) < (ps.length : Int) - 1 ∧ b = true) ∨ (fol = false ∧ ¬ ((k : Int) < (ps.length : Int) - 1) ∧ b = false) := by
          cases fol with
          | true => exact .inl ⟨rfl, by rw [hb]; rfl⟩
          | false =>
            by_cases q : k + 1 < ps.length
            · refine .inr (.inl ⟨rfl, by omega, ?_⟩)
              rw [hb, List.drop_eq_getElem_cons q]; rfl
            · refine .inr (.inr ⟨rfl, by omega, ?_⟩)
              rw [hb, List.drop_eq_nil_of_le (by omega)]; rfl
        have HUP := Lib.hid hup
        clear hrest hnext hstop hr hb hup
        have HQ2 := HQ
        rcases hcases with ⟨rfl, rfl⟩ | ⟨rfl, hl, rfl⟩ | ⟨rfl, hl, rfl⟩ <;> by_cases he : e = 0
        all_goals
          go_wp2_with (go_at_call 56; refine HQ.out.mono ?_; rintro e1 w2 ⟨rfl, hway, htn⟩)
        all_goals first
          | (exact ⟨⟨n, k + 1, k2, rfl, by go_num, Nat.le_trans hlk HUP.out.1, ⟨hway, HR.out.turned.trans htn (fun b hb _ => hb), fun j x hj => by rw [World.cell?_of_block (htn.block _ hlt.out HR.out.new)]; exact HR.out.row j x hj, HNX.out he, by omega, HR.out.new, fun q => Nat.lt_of_lt_of_le (HR.out.lt q) htn.size, HUP.out.2⟩⟩, by simp [intOf]; omega⟩)
          | (go_ret2; rw [HST.out he]; exact ⟨rfl, hway, HR.out.turned.trans htn (fun b hb _ => hb)⟩)
      · have hrest := HR.out.rest
        rw [List.drop_eq_nil_of_le (by omega)] at hrest
        have hkI : (ps.length : Int) ≤ k := by omega
        rw [Fs.partsS] at hrest
        go_wp2_with fail
        go_ret2
        rw [← hrest]
        exact ⟨rfl, HR.out.way, HR.out.turned⟩
  · clear hqq
    unfold ptrTo at *
    go_enter Tryz.func27, Tryz.ntmps27
    go_wp2_with first
      | (go_at_call 54; refine (hC.out _).mono ?_; rintro e w' ⟨rfl, rfl⟩)
      | (go_at_call 55; refine hS.out.mono ?_; rintro e w1 ⟨rfl, hrow, hB1⟩)
    have rowlt : ps ≠ [] → w.heap.size < w1.heap.size := fun q => by
      cases ps with
      | nil => exact absurd rfl q
      | cons x r => exact World.block_lt_of_cell? w1 ⟨w.heap.size, 0, none⟩ (hrow 0 x rfl)
    have  hw1 : GoR W0 s lay L go fol ps w res w.heap.size (if true then 1 else at_) 0 links w1 := ⟨h.keep_below hB1, (Turned.of_below hB1), hrow, by simpa using hres, by omega, h.wayT (Nat.le_refl _), rowlt, hl8⟩
    clear rowlt hS hC hres h hrow hB1
    go_loopw [1, 34] (fun av kv V => ∃ (a : Int) (k k' : Nat), av = .int .i64 a ∧ kv = .int .i64 k ∧ links ≤ k' ∧ GoR W0 s lay L go fol ps w res w.heap.size a k k' V) (fun _ kv _ => ps.length - (intOf kv).toNat)
    case atStart => exact ⟨_, 0, links, rfl, rfl, Nat.le_refl _, hw1⟩
    case round =>
      obtain ⟨a, k, k', rfl, rfl, hlk, hR⟩ := hrel
      have HR := Lib.hid hR
      clear hR hw1
      by_cases hk : k < ps.length
      · have hkI : (k : Int) < ps.length := by omega
        obtain ⟨p, hp⟩ : ∃ p, ps[k]? = some p := ⟨_, List.getElem?_eq_getElem hk⟩
        have hc := HR.out.row k p hp
        have hk0 : k ≤ 1000 := by omega
        have hne : ps ≠ [] := fun q => by rw [q] at hk; simp at hk
        have hlt := Lib.hid (HR.out.lt hne)
        obtain ⟨b, hb⟩ : ∃ b, b = (fol || !(ps.drop (k + 1)).isEmpty) := ⟨_, rfl⟩
        have HQ := Lib.hid (HP.out a p b k' wr (by omega) HR.out.l8 HR.out.way)
        have hup := partS_up (s := s) HU.out a p b k' HR.out.l8
        obtain ⟨n, e, k2, hr⟩ : ∃ n e k2, s.partS go a p b k' = (n, e, k2) := ⟨_, _, _, rfl⟩
        rw [hr] at HQ hup
        have hrest := HR.out.rest
        rw [List.drop_eq_getElem_cons hk, show ps[k] = p from by rw [List.getElem?_eq_getElem hk] at hp; exact Option.some.inj hp, Fs.partsS, ← hb, hr] at hrest
        have hnext : e = 0 → s.partsS go fol n (ps.drop (k + 1)) k2 = res := fun q => by subst q; exact hrest
        have hstop : e ≠ 0 → res = (0, e, k2) := fun q => by
          rw [← hrest]
          split
          · rename_i q2; cases q2; exact absurd rfl q
          · rename_i q2; cases q2; rfl
        have HNX := Lib.hid hnext
        have HST := Lib.hid hstop
        have hcases : (fol = true ∧ b = true) ∨ (fol = false ∧ (k : Int) < (ps.length : Int) - 1 ∧ b = true) ∨ (fol = false ∧ ¬ ((k : Int) < (ps.length : Int) - 1) ∧ b = false) := by
          cases fol with
          | true => exact .inl ⟨rfl, by rw [hb]; rfl⟩
          | false =>
            by_cases q : k + 1 < ps.length
            · refine .inr (.inl ⟨rfl, by omega, ?_⟩)
              rw [hb, List.drop_eq_getElem_cons q]; rfl
            · refine .inr (.inr ⟨rfl, by omega, ?_⟩)
              rw [hb, List.drop_eq_nil_of_le (by omega)]; rfl
        have HUP := Lib.hid hup
        clear hrest hnext hstop hr hb hup
        have HQ2 := HQ
        rcases hcases with ⟨rfl, rfl⟩ | ⟨rfl, hl, rfl⟩ | ⟨rfl, hl, rfl⟩ <;> by_cases he : e = 0
        all_goals
          go_wp2_with (go_at_call 56; refine HQ.out.mono ?_; rintro e1 w2 ⟨rfl, hway, htn⟩)
        all_goals first
          | (exact ⟨⟨n, k + 1, k2, rfl, by go_num, Nat.le_trans hlk HUP.out.1, ⟨hway, HR.out.turned.trans htn (fun b hb _ => hb), fun j x hj => by rw [World.cell?_of_block (htn.block _ hlt.out HR.out.new)]; exact HR.out.row j x hj, HNX.out he, by omega, HR.out.new, fun q => Nat.lt_of_lt_of_le (HR.out.lt q) htn.size, HUP.out.2⟩⟩, by simp [intOf]; omega⟩)
          | (go_ret2; rw [HST.out he]; exact ⟨rfl, hway, HR.out.turned.trans htn (fun b hb _ => hb)⟩)
      · have hrest := HR.out.rest
        rw [List.drop_eq_nil_of_le (by omega)] at hrest
        have hkI : (ps.length : Int) ≤ k := by omega
        rw [Fs.partsS] at hrest
        go_wp2_with fail
        go_ret2
        rw [← hrest]
        exact ⟨rfl, HR.out.way, HR.out.turned⟩
theorem go_ok (hW : s.Whole) (hlow : ∀ k, WayT s lay L k → W0.heap.size ≤ k) (hE : EnvG W0) : ∀ f, GoOk W0 s lay L f
  | 0 => fun _ _ _ links _ h9 h8 _ => absurd h9 (by omega)
  | f + 1 => fun at_ path fol links w h9 h8 h => by
    by_cases h0 : path = []
    · exact goes_short f at_ path fol links w h (.inl h0)
    · by_cases h1 : path.length ≤ 256
      · exact goes_long hW hlow hE f at_ path fol links w h9 h8 (go_ok hW hlow hE f) h h0 h1
      · exact goes_short f at_ path fol links w h (.inr (by omega))
end
end Go.Proofs.YtbecmcjibpamoaaGreatDoor
