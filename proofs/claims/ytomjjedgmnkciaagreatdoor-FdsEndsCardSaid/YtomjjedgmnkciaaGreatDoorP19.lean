/- Texts of one proof, packed: FeZb, FeEv -/
import Derived.Test.YtomjjedgmnkciaaGreatDoorP18
import Derived.OpenShut
import Derived.ProofKit
set_option linter.unusedVariables false
set_option linter.unusedSimpArgs false
set_option linter.deprecated false
set_option linter.unnecessarySimpa false
/- FdsEnds: it returns true at every row of calls. -/
namespace Go.Proofs.YtomjjedgmnkciaaGreatDoor
open Go.RowKit Go.WideShapes IntWalk
set_option linter.unusedVariables false
set_option linter.unusedSimpArgs false

/-- from call to call -/
def L1 (W : World) (X F : Nat) (i : Nat) (v : Value) (w : World) : Prop := ∃ zp G cap cur, v = .slice (some ⟨G, 0, none⟩) zp.length cap ∧ RowZ zp cap cur ∧ 0 < zp.length ∧ zp.length ≤ i + 1 ∧ W.heap.size ≤ G ∧ St W zp X F i [(G, rowZ cur)] w
theorem St.low {W0 : World} {zp : List Nat} {xp fp N : Nat} {H : List (Nat × Obj)} {w : World} (h : St W0 zp xp fp N H w) : Below W0.heap.size W0 w := by
  obtain ⟨g, s, fl, x, xl, pl, ns, h⟩ := h
  exact h.al.fs.below
theorem begun_st (W : World) : Calls Tryz.prog 4 #[.int .i64 9, .int .i64 20] W fun e w' => ∃ F X Z, e = .returned (.tuple #[ptrTo F, ptrTo X, ptrTo Z]) ∧ St W [Z] X F 0 [] w' ∧
    Calls Tryz.prog 5 #[ptrTo F] w' fun e w2 => e = .returned (.tuple #[.int .i64 8, .int .i64 20]) ∧ w' = w2 := by
  refine (begun_c W).mono ?_
  rintro e w' ⟨m, rfl, hS⟩
  obtain ⟨h1, h2⟩ := fd_start hS
  exact ⟨_, _, _, rfl, h1, nfree_any w' h2⟩
theorem box_facts {w : World} {b : Nat} {st ask fd n : Int} {t : List UInt8} (h : w.heap[b]? = some (opO st ask fd n t)) : w.cell? ⟨b, 0, none⟩ = some (.int .i64 st) ∧ w.cell? ⟨b, 1, none⟩ = some (.int .i64 ask) ∧ w.cell? ⟨b, 2, none⟩ = some (.int .i64 fd) ∧ w.cell? ⟨b, 3, none⟩ = some (.int .i64 n) ∧ w.cell? ⟨b, 4, none⟩ = some (.string ⟨t.toArray⟩) := by
  unfold opO opA at h
  exact ⟨cell_of_row w _ 0 _ _ _ h, cell_of_row w _ 1 _ _ _ h, cell_of_row w _ 2 _ _ _ h, cell_of_row w _ 3 _ _ _ h, cell_of_row w _ 4 _ _ _ h⟩
theorem row_fact {w : World} {G k zb : Nat} {zp : List Nat} {cap : Nat} {cur : Array Value} (hR : RowZ zp cap cur) (hG : w.heap[G]? = some (rowZ cur)) (hk : zp[k]? = some zb) : w.cell? ⟨G, k, none⟩ = some (.pointer (some ⟨zb, 0, none⟩)) := by
  unfold rowZ at hG
  simp [World.cell?, hG, hR.at hk, ptrOf]
/-- what the loop's one call needs and gives: the row, the call's own box -/
structure BoxOk (G k zb B : Nat) (st ask fd n : Int) (t : List UInt8) (w : World) : Prop where
  row : w.cell? ⟨G, k, none⟩ = some (.pointer (some ⟨zb, 0, none⟩))
  c0 : w.cell? ⟨B, 0, none⟩ = some (.int .i64 st)
  c1 : w.cell? ⟨B, 1, none⟩ = some (.int .i64 ask)
  c2 : w.cell? ⟨B, 2, none⟩ = some (.int .i64 fd)
  c3 : w.cell? ⟨B, 3, none⟩ = some (.int .i64 n)
  c4 : w.cell? ⟨B, 4, none⟩ = some (.string ⟨t.toArray⟩)
theorem BoxOk.of {W : World} {zp : List Nat} {X F N G k zb B cap : Nat} {cur : Array Value} {st ask fd n : Int} {t : List UInt8} {w : World} (hR : RowZ zp cap cur) (hk : zp[k]? = some zb) (h : St W zp X F N [(B, opO st ask fd n t), (G, rowZ cur)] w) : BoxOk G k zb B st ask fd n t w := by
  obtain ⟨h0, h1, h2, h3, h4⟩ := box_facts (h.held (b := B) (o := opO st ask fd n t) (by simp))
  exact ⟨row_fact hR (h.held (by simp)) hk, h0, h1, h2, h3, h4⟩
theorem box_free {W : World} {zp : List Nat} {X F N G B : Nat} {o o' : Obj} {w : World} (h : St W zp X F N [(B, o), (G, o')] w) (hne : B ≠ G) : St W zp X F N [(G, o')] w :=
  h.free [(B, o)] (Turned.refl _ _) (fun p hp q hq => by simp at hp hq; subst hp; subst hq; exact hne)
theorem grow_z {W : World} {zp : List Nat} {X F N G cap b' : Nat} {cur : Array Value} {w2 w3 : World} {v3 : Value} (hS2 : St W (zp ++ [b']) X F N [(G, rowZ cur)] w2) (hown3 : w3.ownsRow W.heap.size 25 1 v3 (zp ++ [b']).length ((zp ++ [b']).map ptrOf))
    (hg3 : (w2.alloc (.cells #[ptrOf b'] 25)).grownBy w3 (Value.slice (some ⟨G, 0, none⟩) zp.length cap).ownBlock) (hat3 : v3.ownBlock = (Value.slice (some ⟨G, 0, none⟩) zp.length cap).ownBlock ∨ v3.ownBlock = some (w2.heap.size + 1)) :
    ∃ G' cap' cur', v3 = .slice (some ⟨G', 0, none⟩) (zp ++ [b']).length cap' ∧ RowZ (zp ++ [b']) cap' cur' ∧ W.heap.size ≤ G' ∧ St W (zp ++ [b']) X F N [(G', rowZ cur')] w3 := by
  obtain ⟨G', cap', cur', rfl, hG', hR'⟩ := RowZ.of hown3 (by simp)
  have hs : (w2.alloc (.cells #[ptrOf b'] 25)).heap.size = w2.heap.size + 1 := by simp
  refine ⟨G', cap', cur', rfl, hR', (World.ownsRow.lt hown3 G' rfl).1, St.regrow (hS2.below ((Below.refl w2.heap.size w2).alloc (Nat.le_refl _) (.cells #[ptrOf b'] 25))) hg3 ?_ hG'⟩
  rw [hs]
  rcases hat3 with q | q
  · left
    have h' : (some G' : Option Nat) = some G := q
    cases h'; rfl
  · right
    have h' : (some G' : Option Nat) = some (w2.heap.size + 1) := q
    cases h'; rfl
theorem all_shut {W : World} {zp : List Nat} {X F N : Nat} {H : List (Nat × Obj)} {sets : List (List (Option Nat))} {xl : XId → Nat} {V : World} (h : StX W zp X F N H sets xl V) (hd : ∀ p, p < zp.length → sets[p]? = some (List.replicate 16 none)) : ∀ l ∈ sets, ∀ k, some k ∉ l := by
  obtain ⟨g, s, fl, x, pl, ns, h, rfl⟩ := h
  intro l hl k hk
  obtain ⟨p, hp, rfl⟩ := List.getElem_of_mem hl
  have := hd p (by rw [h.zn]; exact hp)
  rw [List.getElem?_eq_getElem hp] at this
  rw [Option.some.inj this] at hk
  have := List.eq_of_mem_replicate hk
  cases this
/-- the sets below q have ended -/
def L2 (W : World) (zp : List Nat) (X F N G : Nat) (cur : Array Value) (q : Nat) (V : World) : Prop := ∃ sets xl, StX W zp X F N [(G, rowZ cur)] sets xl V ∧ ∀ p, p < q → sets[p]? = some (List.replicate 16 none)
theorem L2.cell {W : World} {zp : List Nat} {X F N G q k zb cap : Nat} {cur : Array Value} {V : World} (h : L2 W zp X F N G cur q V) (hR : RowZ zp cap cur) (hk : zp[k]? = some zb) : V.cell? ⟨G, k, none⟩ = some (.pointer (some ⟨zb, 0, none⟩)) := by
  obtain ⟨sets, xl, hX, _⟩ := h
  exact row_fact hR (hX.st.held (by simp)) hk
theorem L2.step {W : World} {zp : List Nat} {X F N G q zb : Nat} {cur : Array Value} {V : World} (h : L2 W zp X F N G cur q V) (hk : zp[q]? = some zb) :
    Calls Tryz.prog 10 #[ptrOf zb] V fun e w' => e = .returned (.tuple #[]) ∧ L2 W zp X F N G cur (q + 1) w' ∧ Calls Tryz.prog 11 #[ptrOf zb] w' fun e w2 => e = .returned (.slice none 0 0) ∧ w' = w2 := by
  obtain ⟨sets, xl, hX, hd⟩ := h
  obtain ⟨l, hl, _⟩ := hX.slots hk
  have hlt := (List.getElem?_eq_some_iff.1 hl).1
  have hq : (sets.set q (List.replicate 16 none))[q]? = some (List.replicate 16 none) := by rw [List.getElem?_set, if_pos rfl, if_pos hlt]
  refine (end_st q zb hk hX).mono ?_
  rintro e w' ⟨rfl, h2⟩
  refine ⟨rfl, ⟨_, xl, h2, fun p hp => ?_⟩, list_none q zb hk h2 hq⟩
  by_cases e : p = q
  · rw [e]; exact hq
  · rw [List.getElem?_set, if_neg (Ne.symm e)]
    exact hd p (by omega)
set_option maxHeartbeats 4000000 in
set_option maxRecDepth 100000 in
theorem ends_any (W : World) (v1 : Value) (L : List OpR5) (hL : Ops5 W v1 L) (hE : EnvG W) :
    Calls Tryz.prog 3 #[v1] W fun e w' => e = .returned (.bool true) ∧ Below W.heap.size W w' := by
  obtain ⟨hlen, ⟨pt, c, rfl, hshape⟩, hok⟩ := hL
  go_enter Tryz.func3, Tryz.ntmps3
  go_wp2_with first
    | (go_at_call 4; refine (begun_st W).mono ?_; rintro e w1 ⟨F, X, Z, rfl, hS1, hF1⟩; unfold ptrTo)
    | (go_at_call 5; refine hF1.mono ?_; rintro e w2 ⟨rfl, rfl⟩)
  have hL0 : L1 W X F 0 (.slice (some ⟨w1.heap.size, 0, none⟩) 1 1) (w1.alloc (.cells #[.pointer (some ⟨Z, 0, none⟩)] 25)) := ⟨[Z], w1.heap.size, 1, #[ptrOf Z], rfl, ⟨by simp, by decide, rfl, rfl⟩, by simp, by simp, hS1.low.size, hS1.hold _⟩
  clear hS1 hF1
  go_loopw [9, 8] (fun i v V => ∃ j : Nat, i = .int .i64 j ∧ j ≤ L.length ∧ j ≤ 100 ∧ L1 W X F j v V) (fun i _ _ => 100 - (intOf i).toNat)
  case atStart => exact ⟨0, rfl, Nat.zero_le _, by omega, hL0⟩
  case round =>
    obtain ⟨j, rfl, hj1, hj2, zp, G, cap, cur, rfl, hR, hz0, hzj, hGl, hI⟩ := hrel
    by_cases hgo : j < L.length ∧ j < 100
    · obtain ⟨hgo1, hgo2⟩ := hgo
      obtain ⟨b, off, rfl, hbl, hat⟩ := hshape (by omega)
      obtain ⟨o, ho⟩ : ∃ o, L[j]? = some o := ⟨_, List.getElem?_eq_getElem hgo1⟩
      have hok1 := hok j o ho
      obtain ⟨a0, a1, a2, a3, a4⟩ := hat j o ho
      have hbel := hI.low.block b hbl
      obtain ⟨st, ask, fd, n, data⟩ := o
      have r0 : wr.cell? ⟨b, off + j * 5, none⟩ = some (.int .i64 st) := by rw [World.cell?_of_block hbel]; exact a0
      have r1 : wr.cell? ⟨b, off + j * 5 + 1, none⟩ = some (.int .i64 ask) := by rw [World.cell?_of_block hbel]; exact a1
      have r2 : wr.cell? ⟨b, off + j * 5 + 2, none⟩ = some (.int .i64 fd) := by rw [World.cell?_of_block hbel]; exact a2
      have r3 : wr.cell? ⟨b, off + j * 5 + 3, none⟩ = some (.int .i64 n) := by rw [World.cell?_of_block hbel]; exact a3
      have r4 : wr.cell? ⟨b, off + j * 5 + 4, none⟩ = some (.string ⟨data.toArray⟩) := by rw [World.cell?_of_block hbel]; exact a4
      have hg1 : (j : Int) < L.length := by omega
      have hg2 : (j : Int) < 100 := by omega
      have hsz : (⟨data.toArray⟩ : ByteArray).size = data.length := rfl
      have hdl : data.length ≤ maxLen := hok1.data
      have hst1 : -9223372036854775808 ≤ st ∧ st ≤ 9223372036854775807 := hok1.set_
      have hn64 : n ≤ 9223372036854775807 := hok1.n
      clear a0 a1 a2 a3 a4 ho hok1 hat hL0
      by_cases hbig : 500 < data.length
      · have hbig' : (500 : Int) < data.length := by omega
        have HB := Lib.hid hI.low
        clear hI
        go_wp2_with (go_at_call 6; refine (awake_c _).mono ?_; rintro e w2 ⟨rfl, hB2⟩)
        go_ret
        exact ⟨rfl, (HB.out.alloc HB.out.size _).trans (hB2.mono (by have := HB.out.size; simp; omega))⟩
      · have hsm : data.length ≤ 500 := by omega
        have hsm' : ¬ (500 : Int) < data.length := by omega
        have hl0 : (0 : Int) < zp.length := by omega
        have hl1 : (zp.length : Int) ≤ 101 := by omega
        have t1 : -(zp.length : Int) < st.tmod zp.length := Int.lt_tmod_of_pos _ hl0
        have t2 : st.tmod zp.length < zp.length := Int.tmod_lt_of_pos _ hl0
        obtain ⟨k, hk, hkl⟩ : ∃ k : Nat, (st.tmod zp.length + zp.length).tmod zp.length = (k : Int) ∧ k < zp.length := by
          have u1 : 0 ≤ (st.tmod zp.length + zp.length).tmod (zp.length : Int) := Int.tmod_nonneg _ (by omega)
          have u2 : (st.tmod zp.length + zp.length).tmod (zp.length : Int) < zp.length := Int.tmod_lt_of_pos _ hl0
          exact ⟨((st.tmod zp.length + zp.length).tmod (zp.length : Int)).toNat, by omega, by omega⟩
        have hkl' : (k : Int) < zp.length := by omega
        obtain ⟨zb, hzk⟩ : ∃ zb, zp[k]? = some zb := ⟨_, List.getElem?_eq_getElem hkl⟩
        have hGc : wr.heap[G]? = some (rowZ cur) := hI.held (by simp)
        have cG : wr.cell? ⟨G, k, none⟩ = some (ptrOf zb) := by
          unfold rowZ at hGc
          simp [World.cell?, hGc, hR.at hzk]
        by_cases h8 : ask = 8
        · subst h8
          have hF := fork_st k zb hzk (by omega) (hI.below ((Below.refl wr.heap.size wr).alloc (Nat.le_refl _) (opO st 8 fd n data)))
          have HF := Lib.hid hF
          have cG2 := row_fact hR ((hI.below ((Below.refl wr.heap.size wr).alloc (Nat.le_refl _) (opO st 8 fd n data))).held (b := G) (o := rowZ cur) (by simp)) hzk
          have hGlt : G < wr.heap.size := hI.held_lt (G, rowZ cur) (by simp)
          have hGne : G ≠ wr.heap.size := by omega
          clear hF hI hshape hok
          unfold opO opA at HF cG2
          unfold ptrOf at cG HF
          go_wp2_with first
            | (go_at_call 7; (with_reducible refine HF.out.mono ?_); rintro e w2 ⟨b', rfl, hS2⟩; have hown := hR.own (hS2.held (b := G) (o := rowZ cur) (by simp)) hGl; have hlow := hS2.low.size; have HS2 := Lib.hid hS2; clear hS2)
            | (refine append_z rfl _ _ rfl W.heap.size _ zp rfl hown b' rfl (by omega) hlow ?_; intro v3 w3 hown3 hg3 hat3; have HG := Lib.hid (grow_z HS2.out hown3 hg3 hat3); clear hown3 hg3 hat3 hown)
          obtain ⟨G', cap', cur', rfl, hR', hGl', hS3⟩ := HG.out
          obtain ⟨m, hm, hM⟩ := many_st hS3
          have hzq : (zp ++ [b']).length = zp.length + 1 := by simp
          have HM := Lib.hid hM
          have HR' := Lib.hid hR'
          have HS3 := Lib.hid hS3
          clear hM hS3 hR' HG HF HS2
          generalize zp ++ [b'] = zq at *
          have hm' : (m : Int) ≤ 16 * zq.length := by omega
          have hzq2 : (zq.length : Int) ≤ 102 := by omega
          unfold ptrOf at HM
          go_wp2_with (go_at_call 9; (with_reducible refine HM.out.mono ?_); rintro e w4 ⟨rfl, rfl⟩)
          exact ⟨⟨j + 1, by rw [Int.natCast_add]; rfl, hgo1, hgo2, zq, G', cap', cur', by rw [hzq], HR'.out, by omega, by omega, hGl', HS3.out.mono (Nat.le_succ _)⟩, by simp [intOf]; omega⟩
        · have h8' : (ask == 8) = false := by simpa using h8
          have hN : j ≤ 1000 := by omega
          have hB : St W zp X F j [(wr.heap.size, opO st ask fd n data), (G, rowZ cur)] (wr.alloc (opO st ask fd n data)).drew := (hI.hold (opO st ask fd n data)).drewN 1
          have HK0 := Lib.hid (BoxOk.of hR hzk hB)
          have HD := Lib.hid ((do_st hE k zb hzk st ask fd n hn64 data hsm hN hB).mono (fun e w' hq => (⟨hq.1, BoxOk.of hR hzk hq.2, box_free hq.2 (by have := hI.held_lt (G, rowZ cur) (by simp); dsimp only at this; omega)⟩ : (∃ v, e = .returned v) ∧ BoxOk G k zb wr.heap.size st ask fd n data w' ∧ St W zp X F (j + 1) [(G, rowZ cur)] w')))
          clear hI hB hshape hok
          unfold opO opA at HD HK0
          unfold ptrOf at cG HD
          go_wp2_with fail
          go_region_held3 (fun V => V.cell? ⟨G, k, none⟩ = some (.pointer (some ⟨zb, 0, none⟩)) ∧ V.cell? ⟨wr.heap.size, 0, none⟩ = some (.int .i64 st) ∧ V.cell? ⟨wr.heap.size, 1, none⟩ = some (.int .i64 ask) ∧ V.cell? ⟨wr.heap.size, 2, none⟩ = some (.int .i64 fd) ∧ V.cell? ⟨wr.heap.size, 3, none⟩ = some (.int .i64 n) ∧ V.cell? ⟨wr.heap.size, 4, none⟩ = some (.string ⟨data.toArray⟩)) (first | exact ⟨HK0.out.row, HK0.out.c0, HK0.out.c1, HK0.out.c2, HK0.out.c3, HK0.out.c4⟩ | exact ⟨HK1.out.row, HK1.out.c0, HK1.out.c1, HK1.out.c2, HK1.out.c3, HK1.out.c4⟩ | go_keep) (first | (go_at_call 8; (with_reducible refine HD.out.mono ?_); rintro e w2 ⟨⟨v, rfl⟩, hbx, hS2⟩; have HK1 := Lib.hid hbx; have HS2 := Lib.hid hS2; clear hbx hS2))
          obtain ⟨m, hm, hM⟩ := many_st HS2.out
          have hm' : (m : Int) ≤ 16 * zp.length := by omega
          have HM := Lib.hid hM
          clear hM hm HD HK0 HK1
          unfold ptrOf at HM
          go_wp2_with (go_at_call 9; (with_reducible refine HM.out.mono ?_); rintro e w3 ⟨rfl, rfl⟩)
          exact ⟨⟨j + 1, by rw [Int.natCast_add]; rfl, hgo1, hgo2, zp, G, cap, cur, rfl, hR, hz0, by omega, hGl, HS2.out⟩, by simp [intOf]; omega⟩
    · have hl1 : (zp.length : Int) ≤ 101 := by omega
      obtain ⟨sets0, xl0, hX0⟩ := hI.x
      have HL2 := Lib.hid (⟨sets0, xl0, hX0, fun p hp => absurd hp (Nat.not_lt_zero _)⟩ : L2 W zp X F j G cur 0 wr)
      clear hI hX0 hL0
      rcases (show ¬ (j : Int) < L.length ∨ ((j : Int) < L.length ∧ ¬ (j : Int) < 100) by omega) with hx | ⟨hx, hx2⟩
      · go_wp2_with fail
        go_loopw [12] (fun i V => ∃ q : Nat, i = .int .i64 q ∧ q ≤ zp.length ∧ L2 W zp X F j G cur q V) (fun i _ => 200 - (intOf i).toNat)
        case atStart => exact ⟨0, rfl, Nat.zero_le _, HL2.out⟩
        case round =>
          obtain ⟨q, rfl, hq, hJ⟩ := hrel
          by_cases hlt : q < zp.length
          · have hlt1 : (q : Int) < zp.length := by omega
            obtain ⟨zb, hzk⟩ : ∃ zb, zp[q]? = some zb := ⟨_, List.getElem?_eq_getElem hlt⟩
            have cG := hJ.cell hR hzk
            have HE := Lib.hid (hJ.step hzk)
            clear hJ HL2
            unfold ptrOf at HE
            go_wp2_with first
              | (go_at_call 10; (with_reducible refine HE.out.mono ?_); rintro e w2 ⟨rfl, hJ2, hLi⟩; have cG3 := hJ2.cell hR hzk; have HJ2 := Lib.hid hJ2; have HLi := Lib.hid hLi; clear hJ2 hLi)
              | (go_at_call 11; (with_reducible refine HLi.out.mono ?_); rintro e w3 ⟨rfl, rfl⟩)
            exact ⟨⟨q + 1, by rw [Int.natCast_add]; rfl, hlt, HJ2.out⟩, by simp [intOf]; omega⟩
          · obtain rfl : q = zp.length := by omega
            obtain ⟨sets, xl, hX, hdn⟩ := hJ
            obtain ⟨hO, s, fl, d, hFs, hT, rfl, hd⟩ := ended hX (all_shut hX hdn)
            have HO := Lib.hid hO
            have HLs := Lib.hid ((nlist_any keys_says sorted_says hFs.is hT hd).mono (fun e w' hq => (by obtain ⟨v, hv, hls⟩ := hq; obtain ⟨ss, htk, hss⟩ := takes_start hFs hT rfl hd hls; exact ⟨v, ss, hv, htk, hss⟩ : ∃ (v : Value) (ss : List (List UInt8)), e = .returned (.tuple #[v, .int .i64 0]) ∧ Takes W (fl .F) v ss 0 w' ∧ ss.length ≤ 10)))
            generalize fl .F = F at *
            clear hX hO hFs hT hd hdn HL2
            unfold ptrOf at HO
            unfold ptrTo at HLs
            go_wp2_with first
              | (go_at_call 9; (with_reducible refine HO.out.mono ?_); rintro e w2 ⟨rfl, rfl⟩)
              | (go_at_call 12; (with_reducible refine HLs.out.mono ?_); rintro e w2 ⟨v, ss, rfl, htk, hss⟩; have HTK := Lib.hid htk; clear htk)
            have hss10 : (ss.length : Int) ≤ 10 := by omega
            obtain ⟨pv, cv, hv⟩ := HTK.out.form
            subst hv
            go_loopw [15] (fun i V => ∃ q : Nat, i = .int .i64 q ∧ q ≤ ss.length ∧ Takes W F (.slice pv ss.length cv) ss q V) (fun i _ => ss.length - (intOf i).toNat)
            case atStart => exact ⟨0, rfl, Nat.zero_le _, HTK.out⟩
            case round =>
              obtain ⟨q, rfl, hq, hJ⟩ := hrel
              by_cases hlt : q < ss.length
              · have hlt1 : (q : Int) < ss.length := by omega
                obtain ⟨t, ht⟩ : ∃ t, ss[q]? = some t := ⟨_, List.getElem?_eq_getElem hlt⟩
                obtain ⟨gb, cap2, hgv, hgc⟩ := hJ.cell ht
                cases hgv
                have HU := Lib.hid (hJ.step hE ht)
                clear hJ HTK
                unfold ptrTo at HU
                go_wp2_with (go_at_call 13; (with_reducible refine HU.out.mono ?_); rintro e w3 ⟨rfl, hJ2⟩; have HJ2 := Lib.hid hJ2; clear hJ2)
                exact ⟨⟨q + 1, by rw [Int.natCast_add]; rfl, hlt, HJ2.out⟩, by simp [intOf]; omega⟩
              · obtain rfl : q = ss.length := by omega
                obtain ⟨hFr, hlow⟩ := hJ.done
                have HFr := Lib.hid hFr
                have HLow := Lib.hid hlow
                clear hJ HTK hFr hlow
                unfold ptrTo at HFr
                go_wp2_with first
                  | (go_at_call 5; (with_reducible refine HFr.out.mono ?_); rintro e w3 ⟨rfl, rfl⟩)
                  | (go_at_call 6; refine (awake_c _).mono ?_; rintro e w4 ⟨rfl, hB4⟩)
                go_ret
                exact ⟨rfl, HLow.out.trans (hB4.mono HLow.out.size)⟩
      · go_wp2_with fail
        go_loopw [12] (fun i V => ∃ q : Nat, i = .int .i64 q ∧ q ≤ zp.length ∧ L2 W zp X F j G cur q V) (fun i _ => 200 - (intOf i).toNat)
        case atStart => exact ⟨0, rfl, Nat.zero_le _, HL2.out⟩
        case round =>
          obtain ⟨q, rfl, hq, hJ⟩ := hrel
          by_cases hlt : q < zp.length
          · have hlt1 : (q : Int) < zp.length := by omega
            obtain ⟨zb, hzk⟩ : ∃ zb, zp[q]? = some zb := ⟨_, List.getElem?_eq_getElem hlt⟩
            have cG := hJ.cell hR hzk
            have HE := Lib.hid (hJ.step hzk)
            clear hJ HL2
            unfold ptrOf at HE
            go_wp2_with first
              | (go_at_call 10; (with_reducible refine HE.out.mono ?_); rintro e w2 ⟨rfl, hJ2, hLi⟩; have cG3 := hJ2.cell hR hzk; have HJ2 := Lib.hid hJ2; have HLi := Lib.hid hLi; clear hJ2 hLi)
              | (go_at_call 11; (with_reducible refine HLi.out.mono ?_); rintro e w3 ⟨rfl, rfl⟩)
            exact ⟨⟨q + 1, by rw [Int.natCast_add]; rfl, hlt, HJ2.out⟩, by simp [intOf]; omega⟩
          · obtain rfl : q = zp.length := by omega
            obtain ⟨sets, xl, hX, hdn⟩ := hJ
            obtain ⟨hO, s, fl, d, hFs, hT, rfl, hd⟩ := ended hX (all_shut hX hdn)
            have HO := Lib.hid hO
            have HLs := Lib.hid ((nlist_any keys_says sorted_says hFs.is hT hd).mono (fun e w' hq => (by obtain ⟨v, hv, hls⟩ := hq; obtain ⟨ss, htk, hss⟩ := takes_start hFs hT rfl hd hls; exact ⟨v, ss, hv, htk, hss⟩ : ∃ (v : Value) (ss : List (List UInt8)), e = .returned (.tuple #[v, .int .i64 0]) ∧ Takes W (fl .F) v ss 0 w' ∧ ss.length ≤ 10)))
            generalize fl .F = F at *
            clear hX hO hFs hT hd hdn HL2
            unfold ptrOf at HO
            unfold ptrTo at HLs
            go_wp2_with first
              | (go_at_call 9; (with_reducible refine HO.out.mono ?_); rintro e w2 ⟨rfl, rfl⟩)
              | (go_at_call 12; (with_reducible refine HLs.out.mono ?_); rintro e w2 ⟨v, ss, rfl, htk, hss⟩; have HTK := Lib.hid htk; clear htk)
            have hss10 : (ss.length : Int) ≤ 10 := by omega
            obtain ⟨pv, cv, hv⟩ := HTK.out.form
            subst hv
            go_loopw [15] (fun i V => ∃ q : Nat, i = .int .i64 q ∧ q ≤ ss.length ∧ Takes W F (.slice pv ss.length cv) ss q V) (fun i _ => ss.length - (intOf i).toNat)
            case atStart => exact ⟨0, rfl, Nat.zero_le _, HTK.out⟩
            case round =>
              obtain ⟨q, rfl, hq, hJ⟩ := hrel
              by_cases hlt : q < ss.length
              · have hlt1 : (q : Int) < ss.length := by omega
                obtain ⟨t, ht⟩ : ∃ t, ss[q]? = some t := ⟨_, List.getElem?_eq_getElem hlt⟩
                obtain ⟨gb, cap2, hgv, hgc⟩ := hJ.cell ht
                cases hgv
                have HU := Lib.hid (hJ.step hE ht)
                clear hJ HTK
                unfold ptrTo at HU
                go_wp2_with (go_at_call 13; (with_reducible refine HU.out.mono ?_); rintro e w3 ⟨rfl, hJ2⟩; have HJ2 := Lib.hid hJ2; clear hJ2)
                exact ⟨⟨q + 1, by rw [Int.natCast_add]; rfl, hlt, HJ2.out⟩, by simp [intOf]; omega⟩
              · obtain rfl : q = ss.length := by omega
                obtain ⟨hFr, hlow⟩ := hJ.done
                have HFr := Lib.hid hFr
                have HLow := Lib.hid hlow
                clear hJ HTK hFr hlow
                unfold ptrTo at HFr
                go_wp2_with first
                  | (go_at_call 5; (with_reducible refine HFr.out.mono ?_); rintro e w3 ⟨rfl, rfl⟩)
                  | (go_at_call 6; refine (awake_c _).mono ?_; rintro e w4 ⟨rfl, hB4⟩)
                go_ret
                exact ⟨rfl, HLow.out.trans (hB4.mono HLow.out.size)⟩
end Go.Proofs.YtomjjedgmnkciaaGreatDoor
/- The one variable of the library's that the walk reads, whatever the world. -/
namespace Go.Proofs.YtomjjedgmnkciaaGreatDoor
open Go.ChangeShapes Go.WideShapes Go.ChangeAt Go.RowKit

theorem envG_of {W : World} (hsh : W.ShapedOpen Tryz.prog) : EnvG W :=
  ⟨Go.Proofs.cell_of_shapedOpen_int (zero := #[.int .i64 0]) (t := 3) hsh (of_decide_eq_true (by kernel_rfl)) (by kernel_rfl) rfl (by kernel_rfl) (by kernel_rfl) Tryz.underlying3⟩
end Go.Proofs.YtomjjedgmnkciaaGreatDoor
