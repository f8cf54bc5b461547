/- Texts: lines in order (the reference's side). -/
import Derived.Test.YtmhgehnkhhlbkaaGreatDoorTxK
import Derived.Laws.Cover1
import Derived.Sort.Walk0
namespace Go.Proofs.YtmhgehnkhhlbkaaGreatDoor
open Go.RowKit

theorem tw_take {p : List UInt8 → Bool} : ∀ {l : List (List UInt8)} {k : Nat}, (∀ y, y ∈ l.take k → p y = true) → (∀ y, l[k]? = some y → p y = false) → l.takeWhile p = l.take k ∧ l.dropWhile p = l.drop k
  | [], k, _, _ => by simp
  | a :: t, 0, _, h => by
    have ha : ¬ p a = true := by rw [h a rfl]; simp
    exact ⟨by rw [List.takeWhile_cons_of_neg ha]; rfl, by rw [List.dropWhile_cons_of_neg ha]; rfl⟩
  | a :: t, k + 1, h1, h2 => by
    have ha : p a = true := h1 a (by simp)
    obtain ⟨i1, i2⟩ := tw_take (l := t) (k := k) (fun y hy => h1 y (by simp [hy])) (fun y hy => h2 y (by simpa using hy))
    exact ⟨by rw [List.takeWhile_cons_of_pos ha, i1]; rfl, by rw [List.dropWhile_cons_of_pos ha, i2]; rfl⟩
theorem line_tri (y x : List UInt8) : (Op.bytesLess y x = true ∧ (y == x) = false ∧ lineLe y x = true ∧ lineLe x y = false) ∨ (y = x ∧ Op.bytesLess x x = false) ∨ (Op.bytesLess y x = false ∧ (y == x) = false ∧ lineLe y x = false ∧ lineLe x y = true) := by
  by_cases e : y = x
  · refine .inr (.inl ⟨e, ?_⟩); rw [Go.Proofs.bytesLess_eq]; simp [List.lt_irrefl]
  · have hne : (y == x) = false := by simp [e]
    rcases lineLe_total y x with h | h
    · have h2 : lineLe x y = false := by cases h' : lineLe x y with | false => rfl | true => exact absurd (lineLe_anti h h') e
      refine .inl ⟨?_, hne, h, h2⟩
      rw [Go.Proofs.bytesLess_eq, decide_eq_true_eq]
      simp only [lineLe, decide_eq_false_iff_not, List.not_le] at h2; exact h2
    · have h2 : lineLe y x = false := by cases h' : lineLe y x with | false => rfl | true => exact absurd (lineLe_anti h' h) e
      refine .inr (.inr ⟨?_, hne, h2, h⟩)
      rw [Go.Proofs.bytesLess_eq, decide_eq_false_iff_not, List.not_lt]
      simpa [lineLe] using h
theorem fold_mem (back once : Bool) : ∀ (l out : List (List UInt8)) (x : List UInt8), x ∈ l.foldl (insL back once) out → x ∈ out ∨ x ∈ l
  | [], _, _, h => .inl h
  | a :: t, out, x, h => by
    rcases fold_mem back once t (insL back once out a) x h with h | h
    · unfold insL at h
      split at h
      · exact .inl h
      · rcases (ins_mem _ _ _ _).1 h with h | h
        · exact .inr (by simp [h])
        · exact .inl h
    · exact .inr (List.mem_cons_of_mem _ h)
theorem lib_mem (back once : Bool) (l : List (List UInt8)) (x : List UInt8) (h : x ∈ libL back once l) : x ∈ l := by
  rw [← fold_lib] at h
  exact (fold_mem back once l [] x h).resolve_left (by simp)
theorem bdrewN {n : Nat} {w w' : World} (h : Below n w w') (k : Nat) : Below n w (w'.drewN k) := ⟨h.os, h.tape, h.output, h.size, h.block⟩
/-- what an append takes its strings from -/
def SrcS (w : World) (src : Value) (R : List (List UInt8)) : Prop :=
  (src = .slice none 0 0 ∧ R = []) ∨ ∃ ad c, src = .slice (some ad) R.length c ∧ ∀ (j : Nat) (y : List UInt8), R[j]? = some y → w.cell? (ad.add j) = some (.string ⟨y.toArray⟩)
/-- 'append(m, l..)': strings of another slice -/
theorem append_many {ops : Array Oper} {rest : List Oper} {o : Oper} {a : Act} {Q : Exit → Act → World → Prop} {w : World} (hgd : o.guard = none) (s x : Operand)
    (ho : o.op = .call { callee := .builtin .append, args := #[s, x], argTypes := #[27, 27] }) (base : Nat) (v : Value) (L : List (List UInt8)) (hs : a.eval s = v) (hown : OwnS w base v L)
    (R : List (List UInt8)) (src : Value) (hx : a.eval x = src) (hsrc : SrcS w src R)
    (hlen : L.length + R.length ≤ 1000000000000) (hbase : base ≤ w.heap.size)
    (h : ∀ v' w', OwnS w' base v' (L ++ R) → w.grownBy w' v.ownBlock → wpList Tryz.prog ops Q rest (a.put o.dst v') w') :
    wpList Tryz.prog ops Q (o :: rest) a w := by
  obtain ⟨i0, hi, hz0, hz1, hz2⟩ := info_parts info_str
  rcases hsrc with ⟨rfl, rfl⟩ | ⟨ad, c, rfl, hc⟩
  · refine wpList_plain hgd fun _ hK => ?_
    have hr := run_append_owned_none (P := Tryz.prog) (w := w) base 27 o.type 9 i0 1 (by kernel_rfl) hi v L.length _ hown
    unfold Oper.wp execOp
    simp only [ho, resolve, invoke, builtin, Sem.run_bind, Sem.run_pure, Result.andThen_ok, List.map_toArray, List.map_cons, List.map_nil, hs, hx, hr]
    exact hK _ _ (h v w (by simpa using hown) ⟨rfl, rfl, rfl, Nat.le_refl _, fun _ _ _ => rfl⟩)
  · refine wpList_append_own _ hgd s x 27 ho base 9 i0 (.string ByteArray.empty) 1 16 (by kernel_rfl) hi hz0 hz1 hz2 rfl (by omega) v L.length _ hs hown ad R.length c (R.map fun y => Value.string ⟨y.toArray⟩) hx (by simp) ?_ ?_ (by simp only [maxLen]; omega) (by omega) hbase ?_
    · intro j u hj
      rw [List.getElem?_map] at hj
      cases hy : R[j]? with
      | none => rw [hy] at hj; cases hj
      | some y => rw [hy] at hj; cases hj; exact hc j y hy
    · intro u hu
      obtain ⟨y, _, rfl⟩ := List.mem_map.1 hu
      rfl
    · intro v' w' h1 h2 _
      exact h v' w' (by simpa [OwnS] using h1) h2
theorem OwnS.shape {w : World} {base v L} (h : OwnS w base v L) : ∃ oa oc, v = .slice oa L.length oc ∧ L.length ≤ oc ∧ ((oa = none ∧ L = [] ∧ oc = 0) ∨ ∃ g, oa = some ⟨g, 0, none⟩ ∧ g < w.heap.size ∧ ∀ (j : Nat) (y : List UInt8), L[j]? = some y → w.cell? ⟨g, j, none⟩ = some (.string ⟨y.toArray⟩)) := by
  obtain ⟨hxs, hr⟩ := h
  rcases hr with ⟨rfl, hn⟩ | ⟨g, cap, cur, rfl, hb, hg, hnc, hcm, hcs, htk⟩
  · have : L = [] := List.eq_nil_of_length_eq_zero hn
    subst this
    exact ⟨none, 0, rfl, by simp, .inl ⟨rfl, rfl, rfl⟩⟩
  · refine ⟨_, cap, rfl, hnc, .inr ⟨g, rfl, ?_, fun j x hj => ?_⟩⟩
    · rcases Nat.lt_or_ge g w.heap.size with h' | h'
      · exact h'
      · rw [Array.getElem?_eq_none h'] at hg; cases hg
    · have hjl : j < L.length := (List.getElem?_eq_some_iff.1 hj).1
      have h1 : (cur.toList.take (L.length * 1))[j]? = some (.string ⟨x.toArray⟩) := by rw [htk, List.getElem?_map, hj]; rfl
      rw [List.getElem?_take_of_lt (by omega), Array.getElem?_toList] at h1
      simp [World.cell?, hg, h1]
theorem srcS_of {w : World} {ad : Addr} {c q : Nat} {R : List (List UInt8)} (hl : R.length = q) (hc : ∀ (j : Nat) (y : List UInt8), R[j]? = some y → w.cell? (ad.add j) = some (.string ⟨y.toArray⟩)) : SrcS w (.slice (some ad) q c) R := by
  subst hl; exact .inr ⟨ad, c, rfl, hc⟩
theorem addr_add (g q j : Nat) : (Addr.mk g q none).add j = ⟨g, q + j, none⟩ := by unfold Addr.add; split <;> simp_all
theorem take_last {O : List (List UInt8)} {q : Nat} (h : 0 < q) (hq : q ≤ O.length) : (O.take q).getLast? = O[q - 1]? := by
  rw [List.getLast?_eq_getElem?, List.length_take, Nat.min_eq_left hq, List.getElem?_take, if_pos (by omega)]
theorem OwnS.mono {w : World} {b0 b1 : Nat} {v L} (h : OwnS w b1 v L) (hb : b0 ≤ b1) : OwnS w b0 v L := by
  obtain ⟨hl, hr⟩ := h
  refine ⟨hl, ?_⟩
  rcases hr with h | ⟨g, cap, cur, e, hg, r⟩
  · exact .inl h
  · exact .inr ⟨g, cap, cur, e, Nat.le_trans hb hg, r⟩
set_option maxRecDepth 100000 in
set_option maxHeartbeats 3200000 in
theorem rsort_any (s : List UInt8) (back once : Bool) (hs : s.length ≤ 500) (w : World) : Calls Tryz.prog 7 #[.string ⟨s.toArray⟩, .bool back, .bool once] w fun e w' =>
    e = .returned (.string ⟨(joinL (libL back once (linesL s))).toArray⟩) ∧ Below w.heap.size w w' := by
  have HL := Lib.hid (rlines_any s (by omega) w)
  have hLl := lines_len s
  have H5 := Lib.hid (fun x (h : x ∈ linesL s) => Nat.le_trans (line_len h) hs)
  have HF := Lib.hid (fold_lib back once (linesL s)).symm
  obtain ⟨L, hL⟩ : ∃ L, linesL s = L := ⟨_, rfl⟩
  rw [hL] at HL hLl H5 HF
  rw [hL]
  clear hL
  obtain ⟨R, hR⟩ : ∃ R, libL back once L = R := ⟨_, rfl⟩
  rw [hR] at HF
  have HRL := Lib.hid hR
  rw [hR]
  clear hR
  go_enter Tryz.func7, Tryz.ntmps7
  go_wp2_with fail
  refine HL.out.mono ?_
  rintro e w1 ⟨v, rfl, hO, hB⟩
  have hst := hO.strs (fun x hx => by have := H5.out x hx; unfold maxLen; omega)
  obtain ⟨a0, cap, hv0, hcap, hat⟩ := hst.shape
  obtain ⟨n, hn⟩ : ∃ n, L.length = n := ⟨_, rfl⟩
  have HN := Lib.hid hn
  rw [hn] at hv0 hat hLl
  subst hv0
  have hn5 : n ≤ 500 := by omega
  clear hn hst hO
  go_wp2_with fail
  go_loopw [8, 9] (fun o i W => ∃ (k : Nat) (O : List (List UInt8)), k ≤ n ∧ i = .int .i64 k ∧ OwnS W w1.heap.size o O ∧ O.length ≤ k ∧ Hid (O = (L.take k).foldl (insL back once) []) ∧ Below w1.heap.size w1 W) (fun _ i _ => n - (intOf i).toNat)
  case atStart => exact ⟨0, [], by omega, rfl, OwnS.nil _ _, by simp, Lib.hid rfl, Below.refl _ _⟩
  case round =>
    obtain ⟨k, O, hk, rfl, hO, hOk, HS, hBW⟩ := hrel
    have hsz := hBW.size
    have hBB := below_tr hB hBW
    by_cases hkn : k < n
    · obtain ⟨b, off, rfl, hb, hcs⟩ := hat (by omega)
      obtain ⟨x, hx⟩ : ∃ x, L[k]? = some x := ⟨L[k]'(by rw [HN.out]; exact hkn), List.getElem?_eq_getElem _⟩
      have hcell := keep_cell (hcs k x hx) hBW
      have hxl := H5.out x (List.mem_of_getElem? hx)
      have HS2 := Lib.hid (show (L.take (k + 1)).foldl (insL back once) [] = insL back once O x by rw [List.take_add_one, hx, List.foldl_append, ← HS.out]; rfl)
      obtain ⟨wo, hwo⟩ : ∃ wo : World, wo = wr := ⟨_, rfl⟩
      subst hwo
      obtain ⟨oa, oc, hov, hocap, hsh⟩ := hO.shape
      obtain ⟨m, hm⟩ : ∃ m, O.length = m := ⟨_, rfl⟩
      have HM := Lib.hid hm
      rw [hm] at hov hOk hocap
      subst hov
      clear hm hx
      go_wp2_with fail
      go_loopw [10] (fun a W => ∃ q : Nat, q ≤ m ∧ a = .int .i64 q ∧ Hid (∀ y, y ∈ O.take q → leB back y x = true) ∧ Below wo.heap.size wo W) (fun a _ => m - (intOf a).toNat)
      case atStart => exact ⟨0, by omega, rfl, Lib.hid (fun y h => by simp at h), Below.refl _ _⟩
      case round =>
        obtain ⟨q, hq, rfl, HQ, hBq⟩ := hrel
        have hcell2 := keep_cell hcell hBq
        have hk0 : (0 : Int) ≤ k := by omega
        have hkn' : (k : Int) < n := by omega
        have hq0 : (0 : Int) ≤ q := by omega
        by_cases hqm : q < m
        · obtain ⟨y, hy⟩ : ∃ y, O[q]? = some y := ⟨O[q]'(by rw [HM.out]; exact hqm), List.getElem?_eq_getElem _⟩
          have hqm' : (q : Int) < m := by omega
          obtain ⟨g, rfl, hg, hocs⟩ := hsh.resolve_left (fun h => by rw [h.2.1] at hy; simp at hy)
          have hcelly := keep_cell (hocs q y hy) hBq
          have hcont := Lib.hid (show leB back y x = true → ∀ z, z ∈ O.take (q + 1) → leB back z x = true from fun h z hz => by
            rw [List.take_add_one, hy] at hz
            rcases List.mem_append.1 hz with hz | hz
            · exact HQ.out z hz
            · have : z = y := by simpa using hz
              rw [this]; exact h)
          rcases line_tri y x with ⟨t1, t2, t3, t4⟩ | ⟨rfl, t1⟩ | ⟨t1, t2, t3, t4⟩
          · cases back with
            | false =>
              have hc2 := hcont.out t3
              clear hy
              go_wp2_with fail
              go_quiet (fail)
              go_wp2_with fail
              go_round
              case rel => exact ⟨q + 1, by omega, by go_num, Lib.hid hc2, bdrewN hBq _⟩
              case measure => simp [intOf]; omega
            | true =>
              have hTW := tw_take (p := (leB true · x)) HQ.out (fun z hz => by rw [hy] at hz; cases hz; exact t4)
              clear hy
              go_wp2_with fail
              go_quiet (fail)
              go_wp2_with fail
              have HTW := Lib.hid hTW
              have hBd := bdrewN hBq nq
              obtain ⟨wd, hwd⟩ : ∃ wd, wd = wr.drewN nq := ⟨_, rfl⟩
              rw [← hwd] at hBd ⊢
              clear hwd
              have hins : insL true once O x = if once = true ∧ (O.take q).getLast? = some x then O else O.take q ++ x :: O.drop q := by unfold insL; rw [HTW.out.1, HTW.out.2]
              by_cases hsk : once = true ∧ (O.take q).getLast? = some x
              · obtain ⟨rfl, hlast⟩ := hsk
                rw [if_pos ⟨rfl, hlast⟩] at hins
                have HS3 := Lib.hid (HS2.out.trans hins)
                obtain ⟨p, hqp⟩ : ∃ p, q = p + 1 := ⟨q - 1, by have : q ≠ 0 := (fun e => by rw [e] at hlast; simp at hlast); omega⟩
                have hp : O[p]? = some x := by
                  rw [take_last (by omega) (by rw [HM.out]; omega), hqp] at hlast
                  simpa using hlast
                · have hcp := keep_cell (hocs p x hp) hBd
                  have hcell4 := keep_cell hcell hBd
                  have hpi : (q : Int) - 1 = p := by omega
                  have hqpos : (0 : Int) < q := by omega
                  have hpm : (p : Int) < m := by omega
                  have hxx : (x == x) = true := by simp
                  have hO4 := hO.below hBd
                  clear hp hlast hins
                  go_wp2_with fail
                  go_quiet (fail)
                  go_wp2_with fail
                  go_round
                  case rel => exact ⟨k + 1, O, by omega, by go_num, hO4.below (bdrewN (Below.refl _ _) _), by have := HM.out; omega, Lib.hid HS3.out.symm, hBW.trans ((bdrewN hBd _).mono hsz)⟩
                  case measure => simp [intOf]; omega
              · rw [if_neg hsk] at hins
                have HS3 := Lib.hid (HS2.out.trans hins)
                have hcases : once = false ∨ (once = true ∧ q = 0) ∨ (once = true ∧ ∃ p z, q = p + 1 ∧ O[p]? = some z ∧ z ≠ x) := by
                  cases once with
                  | false => exact .inl rfl
                  | true =>
                    refine .inr ?_
                    rcases Nat.eq_zero_or_pos q with h | h
                    · exact .inl ⟨rfl, h⟩
                    · refine .inr ⟨rfl, q - 1, O[q - 1]'(by rw [HM.out]; omega), by omega, List.getElem?_eq_getElem _, fun e => hsk ⟨rfl, ?_⟩⟩
                      rw [take_last h (by rw [HM.out]; omega), ← e]
                      exact List.getElem?_eq_getElem _
                clear hsk hins
                rcases hcases with rfl | ⟨rfl, hq0z⟩ | ⟨rfl, p, z, hqp, hz, hzx⟩
                · go_wp2_with fail
                  go_quiet (fail)
                  have hBd2 := bdrewN hBd nq
                  obtain ⟨w4, hw4⟩ : ∃ w4, w4 = wd.drewN nq := ⟨_, rfl⟩
                  rw [← hw4] at hBd2 ⊢
                  clear hw4
                  have hcell4 := keep_cell hcell hBd2
                  have hsz4 : wo.heap.size ≤ w4.heap.size := hBd2.size
                  have hql : (O.take q).length = q := by rw [List.length_take, HM.out]; omega
                  have hdl : (O.drop q).length = m - q := by rw [List.length_drop, HM.out]
                  · have hoc4 : ∀ (j : Nat) (y : List UInt8), O[j]? = some y → w4.cell? ⟨g, j, none⟩ = some (.string ⟨y.toArray⟩) := fun j y h => keep_cell (hocs j y h) hBd2
                    have hsrc1 : SrcS w4 (.slice (some ⟨g, 0, none⟩) q oc) (O.take q) := srcS_of hql (fun j y h => by
                      rw [List.getElem?_take] at h
                      split at h
                      · rw [addr_add, Nat.zero_add]; exact hoc4 j y h
                      · cases h)
                    have hsrc3 : ∀ w6, Below w4.heap.size w4 w6 → SrcS w6 (.slice (some ⟨g, q, none⟩) (m - q) (oc - q)) (O.drop q) := fun w6 hB6 => srcS_of hdl (fun j y h => by
                      rw [List.getElem?_drop] at h
                      rw [addr_add]; exact keep_cell (hoc4 _ y h) hB6)
                    have hsrc3n : m ≤ q → ∀ w6, SrcS w6 (.slice none 0 0) (O.drop q) := fun h w6 => .inl ⟨rfl, List.drop_of_length_le (by rw [HM.out]; omega)⟩
                    have HSRC1 := Lib.hid hsrc1
                    have HSRC3 := Lib.hid hsrc3
                    have HSRC3N := Lib.hid hsrc3n
                    clear hsrc1 hsrc3 hsrc3n hoc4 hocs
                    by_cases hoq : oc = q
                    · try (exfalso; omega)
                      all_goals
                        replace hoq := hoq.symm
                        subst hoq
                        by_cases hm00 : q = 0
                        · try (exfalso; omega)
                          all_goals
                            have hO0 : O = [] := List.eq_nil_of_length_eq_zero (by rw [HM.out]; omega)
                            have HS5 := Lib.hid (show (L.take (k + 1)).foldl (insL _ _) [] = [x] by rw [HS3.out, hO0]; simp)
                            clear hO0
                            subst hm00
                            go_wp2_with (at_builtin; first
                              | (refine append_many rfl _ _ rfl w4.heap.size (.slice none 0 0) [] rfl (OwnS.nil _ _) [] _ rfl (by first | exact .inl ⟨rfl, rfl⟩ | exact .inr ⟨_, _, rfl, fun j y h => by simp at h⟩) (by simp) (Nat.le_refl _) ?_; intro v5 w5 hown5 hg5; have hB5 := below_ownS (Below.refl w4.heap.size w4) (OwnS.nil w4 w4.heap.size) hg5 (Nat.le_refl _); have hcell5 := keep_cell hcell4 hB5; have hsz5 := hB5.size)
                              | (refine append_s rfl _ _ rfl w4.heap.size _ _ rfl hown5 x rfl (by simp) (by omega) ?_; intro v6 w6 hown6 hg6; have hB6 := below_ownS hB5 hown5 hg6 hsz5; have hsz6 := hB6.size)
                              | (refine append_many rfl _ _ rfl w4.heap.size _ _ rfl hown6 [] _ rfl (by first | exact .inl ⟨rfl, rfl⟩ | exact .inr ⟨_, _, rfl, fun j y h => by simp at h⟩) (by simp) (by omega) ?_; intro v7 w7 hown7 hg7; have hB7 := below_ownS hB6 hown6 hg7 hsz6))
                            go_round
                            case rel => exact ⟨k + 1, _, by omega, by go_num, hown7.mono (by omega), by simp, Lib.hid (by rw [HS5.out]; simp), hBW.trans ((hBd2.trans (hB7.mono hsz4)).mono hsz)⟩
                            case measure => simp [intOf]; omega
                        · try (exfalso; omega)
                          all_goals
                            have hmq : m ≤ q := by omega
                            have hqm2 : (q : Int) ≤ m := by omega
                            go_wp2_with (at_builtin; first
                              | (refine append_many rfl _ _ rfl w4.heap.size (.slice none 0 0) [] rfl (OwnS.nil _ _) (O.take q) _ rfl HSRC1.out (by have := HM.out; simp; omega) (Nat.le_refl _) ?_; intro v5 w5 hown5 hg5; have hB5 := below_ownS (Below.refl w4.heap.size w4) (OwnS.nil w4 w4.heap.size) hg5 (Nat.le_refl _); have hcell5 := keep_cell hcell4 hB5; have hsz5 := hB5.size)
                              | (refine append_s rfl _ _ rfl w4.heap.size _ _ rfl hown5 x rfl (by have := HM.out; simp; omega) (by omega) ?_; intro v6 w6 hown6 hg6; have hB6 := below_ownS hB5 hown5 hg6 hsz5; have hsz6 := hB6.size)
                              | (refine append_many rfl _ _ rfl w4.heap.size _ _ rfl hown6 [] _ rfl (by first | exact .inl ⟨rfl, rfl⟩ | exact .inr ⟨_, _, rfl, fun j y h => by simp at h⟩) (by have := HM.out; simp; omega) (by omega) ?_; intro v7 w7 hown7 hg7; have hB7 := below_ownS hB6 hown6 hg7 hsz6))
                            go_round
                            case rel => exact ⟨k + 1, _, by omega, by go_num, hown7.mono (by omega), by simp [hql, hdl]; omega, Lib.hid (by rw [HS3.out]; first | (simp; done) | (rw [show O.drop q = [] from List.drop_of_length_le (by rw [HM.out]; omega)]; simp)), hBW.trans ((hBd2.trans (hB7.mono hsz4)).mono hsz)⟩
                            case measure => simp [intOf]; omega
                    · have hoq2 : ¬ oc - q = 0 := by omega
                      have hqo : (q : Int) ≤ oc := by omega
                      have hqm2 : (q : Int) ≤ m := by omega
                      go_wp2_with (at_builtin; first
                        | (refine append_many rfl _ _ rfl w4.heap.size (.slice none 0 0) [] rfl (OwnS.nil _ _) (O.take q) _ rfl HSRC1.out (by have := HM.out; simp; omega) (Nat.le_refl _) ?_; intro v5 w5 hown5 hg5; have hB5 := below_ownS (Below.refl w4.heap.size w4) (OwnS.nil w4 w4.heap.size) hg5 (Nat.le_refl _); have hcell5 := keep_cell hcell4 hB5; have hsz5 := hB5.size)
                        | (refine append_s rfl _ _ rfl w4.heap.size _ _ rfl hown5 x rfl (by have := HM.out; simp; omega) (by omega) ?_; intro v6 w6 hown6 hg6; have hB6 := below_ownS hB5 hown5 hg6 hsz5; have hsz6 := hB6.size)
                        | (refine append_many rfl _ _ rfl w4.heap.size _ _ rfl hown6 (O.drop q) _ rfl (HSRC3.out _ hB6) (by have := HM.out; simp; omega) (by omega) ?_; intro v7 w7 hown7 hg7; have hB7 := below_ownS hB6 hown6 hg7 hsz6)
                        | (refine append_many rfl _ _ rfl w4.heap.size _ _ rfl hown6 [] _ rfl (.inr ⟨⟨g, q, none⟩, _, rfl, fun j y h => by simp at h⟩) (by have := HM.out; simp; omega) (by omega) ?_; intro v7 w7 hown7 hg7; have hB7 := below_ownS hB6 hown6 hg7 hsz6))
                      go_round
                      case rel => exact ⟨k + 1, _, by omega, by go_num, hown7.mono (by omega), by simp [hql, hdl]; omega, Lib.hid (by rw [HS3.out]; first | (simp; done) | (rw [show O.drop q = [] from List.drop_of_length_le (by rw [HM.out]; omega)]; simp)), hBW.trans ((hBd2.trans (hB7.mono hsz4)).mono hsz)⟩
                      case measure => simp [intOf]; omega
                · have hq0e : (q : Int) ≤ 0 := by omega
                  have hq0f : decide ((q : Int) > 0) = false := by simp; omega
                  have hq0g : ¬ 0 < q := by omega
                  clear hq0z
                  go_wp2_with fail
                  go_quiet (fail)
                  have hBd2 := bdrewN hBd nq
                  obtain ⟨w4, hw4⟩ : ∃ w4, w4 = wd.drewN nq := ⟨_, rfl⟩
                  rw [← hw4] at hBd2 ⊢
                  clear hw4
                  have hcell4 := keep_cell hcell hBd2
                  have hsz4 : wo.heap.size ≤ w4.heap.size := hBd2.size
                  have hql : (O.take q).length = q := by rw [List.length_take, HM.out]; omega
                  have hdl : (O.drop q).length = m - q := by rw [List.length_drop, HM.out]
                  · have hoc4 : ∀ (j : Nat) (y : List UInt8), O[j]? = some y → w4.cell? ⟨g, j, none⟩ = some (.string ⟨y.toArray⟩) := fun j y h => keep_cell (hocs j y h) hBd2
                    have hsrc1 : SrcS w4 (.slice (some ⟨g, 0, none⟩) q oc) (O.take q) := srcS_of hql (fun j y h => by
                      rw [List.getElem?_take] at h
                      split at h
                      · rw [addr_add, Nat.zero_add]; exact hoc4 j y h
                      · cases h)
                    have hsrc3 : ∀ w6, Below w4.heap.size w4 w6 → SrcS w6 (.slice (some ⟨g, q, none⟩) (m - q) (oc - q)) (O.drop q) := fun w6 hB6 => srcS_of hdl (fun j y h => by
                      rw [List.getElem?_drop] at h
                      rw [addr_add]; exact keep_cell (hoc4 _ y h) hB6)
                    have hsrc3n : m ≤ q → ∀ w6, SrcS w6 (.slice none 0 0) (O.drop q) := fun h w6 => .inl ⟨rfl, List.drop_of_length_le (by rw [HM.out]; omega)⟩
                    have HSRC1 := Lib.hid hsrc1
                    have HSRC3 := Lib.hid hsrc3
                    have HSRC3N := Lib.hid hsrc3n
                    clear hsrc1 hsrc3 hsrc3n hoc4 hocs
                    by_cases hoq : oc = q
                    · try (exfalso; omega)
                      all_goals
                        replace hoq := hoq.symm
                        subst hoq
                        by_cases hm00 : q = 0
                        · try (exfalso; omega)
                          all_goals
                            have hO0 : O = [] := List.eq_nil_of_length_eq_zero (by rw [HM.out]; omega)
                            have HS5 := Lib.hid (show (L.take (k + 1)).foldl (insL _ _) [] = [x] by rw [HS3.out, hO0]; simp)
                            clear hO0
                            subst hm00
                            go_wp2_with (at_builtin; first
                              | (refine append_many rfl _ _ rfl w4.heap.size (.slice none 0 0) [] rfl (OwnS.nil _ _) [] _ rfl (by first | exact .inl ⟨rfl, rfl⟩ | exact .inr ⟨_, _, rfl, fun j y h => by simp at h⟩) (by simp) (Nat.le_refl _) ?_; intro v5 w5 hown5 hg5; have hB5 := below_ownS (Below.refl w4.heap.size w4) (OwnS.nil w4 w4.heap.size) hg5 (Nat.le_refl _); have hcell5 := keep_cell hcell4 hB5; have hsz5 := hB5.size)
                              | (refine append_s rfl _ _ rfl w4.heap.size _ _ rfl hown5 x rfl (by simp) (by omega) ?_; intro v6 w6 hown6 hg6; have hB6 := below_ownS hB5 hown5 hg6 hsz5; have hsz6 := hB6.size)
                              | (refine append_many rfl _ _ rfl w4.heap.size _ _ rfl hown6 [] _ rfl (by first | exact .inl ⟨rfl, rfl⟩ | exact .inr ⟨_, _, rfl, fun j y h => by simp at h⟩) (by simp) (by omega) ?_; intro v7 w7 hown7 hg7; have hB7 := below_ownS hB6 hown6 hg7 hsz6))
                            go_round
                            case rel => exact ⟨k + 1, _, by omega, by go_num, hown7.mono (by omega), by simp, Lib.hid (by rw [HS5.out]; simp), hBW.trans ((hBd2.trans (hB7.mono hsz4)).mono hsz)⟩
                            case measure => simp [intOf]; omega
                        · try (exfalso; omega)
                          all_goals
                            have hmq : m ≤ q := by omega
                            have hqm2 : (q : Int) ≤ m := by omega
                            go_wp2_with (at_builtin; first
                              | (refine append_many rfl _ _ rfl w4.heap.size (.slice none 0 0) [] rfl (OwnS.nil _ _) (O.take q) _ rfl HSRC1.out (by have := HM.out; simp; omega) (Nat.le_refl _) ?_; intro v5 w5 hown5 hg5; have hB5 := below_ownS (Below.refl w4.heap.size w4) (OwnS.nil w4 w4.heap.size) hg5 (Nat.le_refl _); have hcell5 := keep_cell hcell4 hB5; have hsz5 := hB5.size)
                              | (refine append_s rfl _ _ rfl w4.heap.size _ _ rfl hown5 x rfl (by have := HM.out; simp; omega) (by omega) ?_; intro v6 w6 hown6 hg6; have hB6 := below_ownS hB5 hown5 hg6 hsz5; have hsz6 := hB6.size)
                              | (refine append_many rfl _ _ rfl w4.heap.size _ _ rfl hown6 [] _ rfl (by first | exact .inl ⟨rfl, rfl⟩ | exact .inr ⟨_, _, rfl, fun j y h => by simp at h⟩) (by have := HM.out; simp; omega) (by omega) ?_; intro v7 w7 hown7 hg7; have hB7 := below_ownS hB6 hown6 hg7 hsz6))
                            go_round
                            case rel => exact ⟨k + 1, _, by omega, by go_num, hown7.mono (by omega), by simp [hql, hdl]; omega, Lib.hid (by rw [HS3.out]; first | (simp; done) | (rw [show O.drop q = [] from List.drop_of_length_le (by rw [HM.out]; omega)]; simp)), hBW.trans ((hBd2.trans (hB7.mono hsz4)).mono hsz)⟩
                            case measure => simp [intOf]; omega
                    · have hoq2 : ¬ oc - q = 0 := by omega
                      have hqo : (q : Int) ≤ oc := by omega
                      have hqm2 : (q : Int) ≤ m := by omega
                      go_wp2_with (at_builtin; first
                        | (refine append_many rfl _ _ rfl w4.heap.size (.slice none 0 0) [] rfl (OwnS.nil _ _) (O.take q) _ rfl HSRC1.out (by have := HM.out; simp; omega) (Nat.le_refl _) ?_; intro v5 w5 hown5 hg5; have hB5 := below_ownS (Below.refl w4.heap.size w4) (OwnS.nil w4 w4.heap.size) hg5 (Nat.le_refl _); have hcell5 := keep_cell hcell4 hB5; have hsz5 := hB5.size)
                        | (refine append_s rfl _ _ rfl w4.heap.size _ _ rfl hown5 x rfl (by have := HM.out; simp; omega) (by omega) ?_; intro v6 w6 hown6 hg6; have hB6 := below_ownS hB5 hown5 hg6 hsz5; have hsz6 := hB6.size)
                        | (refine append_many rfl _ _ rfl w4.heap.size _ _ rfl hown6 (O.drop q) _ rfl (HSRC3.out _ hB6) (by have := HM.out; simp; omega) (by omega) ?_; intro v7 w7 hown7 hg7; have hB7 := below_ownS hB6 hown6 hg7 hsz6)
                        | (refine append_many rfl _ _ rfl w4.heap.size _ _ rfl hown6 [] _ rfl (.inr ⟨⟨g, q, none⟩, _, rfl, fun j y h => by simp at h⟩) (by have := HM.out; simp; omega) (by omega) ?_; intro v7 w7 hown7 hg7; have hB7 := below_ownS hB6 hown6 hg7 hsz6))
                      go_round
                      case rel => exact ⟨k + 1, _, by omega, by go_num, hown7.mono (by omega), by simp [hql, hdl]; omega, Lib.hid (by rw [HS3.out]; first | (simp; done) | (rw [show O.drop q = [] from List.drop_of_length_le (by rw [HM.out]; omega)]; simp)), hBW.trans ((hBd2.trans (hB7.mono hsz4)).mono hsz)⟩
                      case measure => simp [intOf]; omega
                · have hcp := keep_cell (hocs p z hz) hBd
                  have hpi : (q : Int) - 1 = p := by omega
                  have hqpos : (0 : Int) < q := by omega
                  have hpm : (p : Int) < m := by omega
                  have hzz : (z == x) = false := by simp [hzx]
                  have hw0 : IntKind.i64.wrap ((q : Int) - 1) = (p : Int) := by rw [hpi]; exact IntWalk.i64_in _ (by omega)
                  have hm1 : m ≤ 1000 := by omega
                  have hcellx := keep_cell hcell hBd
                  have hw0p : IntKind.i64.wrap (p : Int) = (p : Int) := IntWalk.i64_in _ (by omega)
                  have hqpn : 0 < q := by omega
                  have hqpd : decide (0 < q) = true := by simp; omega
                  clear hz hzx hqp
                  go_wp2_with fail
                  go_quiet (fail)
                  have hBd2 := bdrewN hBd nq
                  obtain ⟨w4, hw4⟩ : ∃ w4, w4 = wd.drewN nq := ⟨_, rfl⟩
                  rw [← hw4] at hBd2 ⊢
                  clear hw4
                  have hcell4 := keep_cell hcell hBd2
                  have hsz4 : wo.heap.size ≤ w4.heap.size := hBd2.size
                  have hql : (O.take q).length = q := by rw [List.length_take, HM.out]; omega
                  have hdl : (O.drop q).length = m - q := by rw [List.length_drop, HM.out]
                  · have hoc4 : ∀ (j : Nat) (y : List UInt8), O[j]? = some y → w4.cell? ⟨g, j, none⟩ = some (.string ⟨y.toArray⟩) := fun j y h => keep_cell (hocs j y h) hBd2
                    have hsrc1 : SrcS w4 (.slice (some ⟨g, 0, none⟩) q oc) (O.take q) := srcS_of hql (fun j y h => by
                      rw [List.getElem?_take] at h
                      split at h
                      · rw [addr_add, Nat.zero_add]; exact hoc4 j y h
                      · cases h)
                    have hsrc3 : ∀ w6, Below w4.heap.size w4 w6 → SrcS w6 (.slice (some ⟨g, q, none⟩) (m - q) (oc - q)) (O.drop q) := fun w6 hB6 => srcS_of hdl (fun j y h => by
                      rw [List.getElem?_drop] at h
                      rw [addr_add]; exact keep_cell (hoc4 _ y h) hB6)
                    have hsrc3n : m ≤ q → ∀ w6, SrcS w6 (.slice none 0 0) (O.drop q) := fun h w6 => .inl ⟨rfl, List.drop_of_length_le (by rw [HM.out]; omega)⟩
                    have HSRC1 := Lib.hid hsrc1
                    have HSRC3 := Lib.hid hsrc3
                    have HSRC3N := Lib.hid hsrc3n
                    clear hsrc1 hsrc3 hsrc3n hoc4 hocs
                    by_cases hoq : oc = q
                    · try (exfalso; omega)
                      all_goals
                        replace hoq := hoq.symm
                        subst hoq
                        by_cases hm00 : q = 0
                        · try (exfalso; omega)
                          all_goals
                            have hO0 : O = [] := List.eq_nil_of_length_eq_zero (by rw [HM.out]; omega)
                            have HS5 := Lib.hid (show (L.take (k + 1)).foldl (insL _ _) [] = [x] by rw [HS3.out, hO0]; simp)
                            clear hO0
                            subst hm00
                            go_wp2_with (at_builtin; first
                              | (refine append_many rfl _ _ rfl w4.heap.size (.slice none 0 0) [] rfl (OwnS.nil _ _) [] _ rfl (by first | exact .inl ⟨rfl, rfl⟩ | exact .inr ⟨_, _, rfl, fun j y h => by simp at h⟩) (by simp) (Nat.le_refl _) ?_; intro v5 w5 hown5 hg5; have hB5 := below_ownS (Below.refl w4.heap.size w4) (OwnS.nil w4 w4.heap.size) hg5 (Nat.le_refl _); have hcell5 := keep_cell hcell4 hB5; have hsz5 := hB5.size)
                              | (refine append_s rfl _ _ rfl w4.heap.size _ _ rfl hown5 x rfl (by simp) (by omega) ?_; intro v6 w6 hown6 hg6; have hB6 := below_ownS hB5 hown5 hg6 hsz5; have hsz6 := hB6.size)
                              | (refine append_many rfl _ _ rfl w4.heap.size _ _ rfl hown6 [] _ rfl (by first | exact .inl ⟨rfl, rfl⟩ | exact .inr ⟨_, _, rfl, fun j y h => by simp at h⟩) (by simp) (by omega) ?_; intro v7 w7 hown7 hg7; have hB7 := below_ownS hB6 hown6 hg7 hsz6))
                            go_round
                            case rel => exact ⟨k + 1, _, by omega, by go_num, hown7.mono (by omega), by simp, Lib.hid (by rw [HS5.out]; simp), hBW.trans ((hBd2.trans (hB7.mono hsz4)).mono hsz)⟩
                            case measure => simp [intOf]; omega
                        · try (exfalso; omega)
                          all_goals
                            have hmq : m ≤ q := by omega
                            have hqm2 : (q : Int) ≤ m := by omega
                            go_wp2_with (at_builtin; first
                              | (refine append_many rfl _ _ rfl w4.heap.size (.slice none 0 0) [] rfl (OwnS.nil _ _) (O.take q) _ rfl HSRC1.out (by have := HM.out; simp; omega) (Nat.le_refl _) ?_; intro v5 w5 hown5 hg5; have hB5 := below_ownS (Below.refl w4.heap.size w4) (OwnS.nil w4 w4.heap.size) hg5 (Nat.le_refl _); have hcell5 := keep_cell hcell4 hB5; have hsz5 := hB5.size)
                              | (refine append_s rfl _ _ rfl w4.heap.size _ _ rfl hown5 x rfl (by have := HM.out; simp; omega) (by omega) ?_; intro v6 w6 hown6 hg6; have hB6 := below_ownS hB5 hown5 hg6 hsz5; have hsz6 := hB6.size)
                              | (refine append_many rfl _ _ rfl w4.heap.size _ _ rfl hown6 [] _ rfl (by first | exact .inl ⟨rfl, rfl⟩ | exact .inr ⟨_, _, rfl, fun j y h => by simp at h⟩) (by have := HM.out; simp; omega) (by omega) ?_; intro v7 w7 hown7 hg7; have hB7 := below_ownS hB6 hown6 hg7 hsz6))
                            go_round
                            case rel => exact ⟨k + 1, _, by omega, by go_num, hown7.mono (by omega), by simp [hql, hdl]; omega, Lib.hid (by rw [HS3.out]; first | (simp; done) | (rw [show O.drop q = [] from List.drop_of_length_le (by rw [HM.out]; omega)]; simp)), hBW.trans ((hBd2.trans (hB7.mono hsz4)).mono hsz)⟩
                            case measure => simp [intOf]; omega
                    · have hoq2 : ¬ oc - q = 0 := by omega
                      have hqo : (q : Int) ≤ oc := by omega
                      have hqm2 : (q : Int) ≤ m := by omega
                      go_wp2_with (at_builtin; first
                        | (refine append_many rfl _ _ rfl w4.heap.size (.slice none 0 0) [] rfl (OwnS.nil _ _) (O.take q) _ rfl HSRC1.out (by have := HM.out; simp; omega) (Nat.le_refl _) ?_; intro v5 w5 hown5 hg5; have hB5 := below_ownS (Below.refl w4.heap.size w4) (OwnS.nil w4 w4.heap.size) hg5 (Nat.le_refl _); have hcell5 := keep_cell hcell4 hB5; have hsz5 := hB5.size)
                        | (refine append_s rfl _ _ rfl w4.heap.size _ _ rfl hown5 x rfl (by have := HM.out; simp; omega) (by omega) ?_; intro v6 w6 hown6 hg6; have hB6 := below_ownS hB5 hown5 hg6 hsz5; have hsz6 := hB6.size)
                        | (refine append_many rfl _ _ rfl w4.heap.size _ _ rfl hown6 (O.drop q) _ rfl (HSRC3.out _ hB6) (by have := HM.out; simp; omega) (by omega) ?_; intro v7 w7 hown7 hg7; have hB7 := below_ownS hB6 hown6 hg7 hsz6)
                        | (refine append_many rfl _ _ rfl w4.heap.size _ _ rfl hown6 [] _ rfl (.inr ⟨⟨g, q, none⟩, _, rfl, fun j y h => by simp at h⟩) (by have := HM.out; simp; omega) (by omega) ?_; intro v7 w7 hown7 hg7; have hB7 := below_ownS hB6 hown6 hg7 hsz6))
                      go_round
                      case rel => exact ⟨k + 1, _, by omega, by go_num, hown7.mono (by omega), by simp [hql, hdl]; omega, Lib.hid (by rw [HS3.out]; first | (simp; done) | (rw [show O.drop q = [] from List.drop_of_length_le (by rw [HM.out]; omega)]; simp)), hBW.trans ((hBd2.trans (hB7.mono hsz4)).mono hsz)⟩
                      case measure => simp [intOf]; omega
          · have t2 : (y == y) = true := by simp
            cases back with
            | false =>
              have hc2 := hcont.out (leB_refl _ _)
              clear hy
              go_wp2_with fail
              go_quiet (fail)
              go_wp2_with fail
              go_round
              case rel => exact ⟨q + 1, by omega, by go_num, Lib.hid hc2, bdrewN hBq _⟩
              case measure => simp [intOf]; omega
            | true =>
              have hc2 := hcont.out (leB_refl _ _)
              clear hy
              go_wp2_with fail
              go_quiet (fail)
              go_wp2_with fail
              go_round
              case rel => exact ⟨q + 1, by omega, by go_num, Lib.hid hc2, bdrewN hBq _⟩
              case measure => simp [intOf]; omega
          · cases back with
            | false =>
              have hTW := tw_take (p := (leB false · x)) HQ.out (fun z hz => by rw [hy] at hz; cases hz; exact t3)
              clear hy
              go_wp2_with fail
              go_quiet (fail)
              go_wp2_with fail
              have HTW := Lib.hid hTW
              have hBd := bdrewN hBq nq
              obtain ⟨wd, hwd⟩ : ∃ wd, wd = wr.drewN nq := ⟨_, rfl⟩
              rw [← hwd] at hBd ⊢
              clear hwd
              have hins : insL false once O x = if once = true ∧ (O.take q).getLast? = some x then O else O.take q ++ x :: O.drop q := by unfold insL; rw [HTW.out.1, HTW.out.2]
              by_cases hsk : once = true ∧ (O.take q).getLast? = some x
              · obtain ⟨rfl, hlast⟩ := hsk
                rw [if_pos ⟨rfl, hlast⟩] at hins
                have HS3 := Lib.hid (HS2.out.trans hins)
                obtain ⟨p, hqp⟩ : ∃ p, q = p + 1 := ⟨q - 1, by have : q ≠ 0 := (fun e => by rw [e] at hlast; simp at hlast); omega⟩
                have hp : O[p]? = some x := by
                  rw [take_last (by omega) (by rw [HM.out]; omega), hqp] at hlast
                  simpa using hlast
                · have hcp := keep_cell (hocs p x hp) hBd
                  have hcell4 := keep_cell hcell hBd
                  have hpi : (q : Int) - 1 = p := by omega
                  have hqpos : (0 : Int) < q := by omega
                  have hpm : (p : Int) < m := by omega
                  have hxx : (x == x) = true := by simp
                  have hO4 := hO.below hBd
                  clear hp hlast hins
                  go_wp2_with fail
                  go_quiet (fail)
                  go_wp2_with fail
                  go_round
                  case rel => exact ⟨k + 1, O, by omega, by go_num, hO4.below (bdrewN (Below.refl _ _) _), by have := HM.out; omega, Lib.hid HS3.out.symm, hBW.trans ((bdrewN hBd _).mono hsz)⟩
                  case measure => simp [intOf]; omega
              · rw [if_neg hsk] at hins
                have HS3 := Lib.hid (HS2.out.trans hins)
                have hcases : once = false ∨ (once = true ∧ q = 0) ∨ (once = true ∧ ∃ p z, q = p + 1 ∧ O[p]? = some z ∧ z ≠ x) := by
                  cases once with
                  | false => exact .inl rfl
                  | true =>
                    refine .inr ?_
                    rcases Nat.eq_zero_or_pos q with h | h
                    · exact .inl ⟨rfl, h⟩
                    · refine .inr ⟨rfl, q - 1, O[q - 1]'(by rw [HM.out]; omega), by omega, List.getElem?_eq_getElem _, fun e => hsk ⟨rfl, ?_⟩⟩
                      rw [take_last h (by rw [HM.out]; omega), ← e]
                      exact List.getElem?_eq_getElem _
                clear hsk hins
                rcases hcases with rfl | ⟨rfl, hq0z⟩ | ⟨rfl, p, z, hqp, hz, hzx⟩
                · go_wp2_with fail
                  go_quiet (fail)
                  have hBd2 := bdrewN hBd nq
                  obtain ⟨w4, hw4⟩ : ∃ w4, w4 = wd.drewN nq := ⟨_, rfl⟩
                  rw [← hw4] at hBd2 ⊢
                  clear hw4
                  have hcell4 := keep_cell hcell hBd2
                  have hsz4 : wo.heap.size ≤ w4.heap.size := hBd2.size
                  have hql : (O.take q).length = q := by rw [List.length_take, HM.out]; omega
                  have hdl : (O.drop q).length = m - q := by rw [List.length_drop, HM.out]
                  · have hoc4 : ∀ (j : Nat) (y : List UInt8), O[j]? = some y → w4.cell? ⟨g, j, none⟩ = some (.string ⟨y.toArray⟩) := fun j y h => keep_cell (hocs j y h) hBd2
                    have hsrc1 : SrcS w4 (.slice (some ⟨g, 0, none⟩) q oc) (O.take q) := srcS_of hql (fun j y h => by
                      rw [List.getElem?_take] at h
                      split at h
                      · rw [addr_add, Nat.zero_add]; exact hoc4 j y h
                      · cases h)
                    have hsrc3 : ∀ w6, Below w4.heap.size w4 w6 → SrcS w6 (.slice (some ⟨g, q, none⟩) (m - q) (oc - q)) (O.drop q) := fun w6 hB6 => srcS_of hdl (fun j y h => by
                      rw [List.getElem?_drop] at h
                      rw [addr_add]; exact keep_cell (hoc4 _ y h) hB6)
                    have hsrc3n : m ≤ q → ∀ w6, SrcS w6 (.slice none 0 0) (O.drop q) := fun h w6 => .inl ⟨rfl, List.drop_of_length_le (by rw [HM.out]; omega)⟩
                    have HSRC1 := Lib.hid hsrc1
                    have HSRC3 := Lib.hid hsrc3
                    have HSRC3N := Lib.hid hsrc3n
                    clear hsrc1 hsrc3 hsrc3n hoc4 hocs
                    by_cases hoq : oc = q
                    · try (exfalso; omega)
                      all_goals
                        replace hoq := hoq.symm
                        subst hoq
                        by_cases hm00 : q = 0
                        · try (exfalso; omega)
                          all_goals
                            have hO0 : O = [] := List.eq_nil_of_length_eq_zero (by rw [HM.out]; omega)
                            have HS5 := Lib.hid (show (L.take (k + 1)).foldl (insL _ _) [] = [x] by rw [HS3.out, hO0]; simp)
                            clear hO0
                            subst hm00
                            go_wp2_with (at_builtin; first
                              | (refine append_many rfl _ _ rfl w4.heap.size (.slice none 0 0) [] rfl (OwnS.nil _ _) [] _ rfl (by first | exact .inl ⟨rfl, rfl⟩ | exact .inr ⟨_, _, rfl, fun j y h => by simp at h⟩) (by simp) (Nat.le_refl _) ?_; intro v5 w5 hown5 hg5; have hB5 := below_ownS (Below.refl w4.heap.size w4) (OwnS.nil w4 w4.heap.size) hg5 (Nat.le_refl _); have hcell5 := keep_cell hcell4 hB5; have hsz5 := hB5.size)
                              | (refine append_s rfl _ _ rfl w4.heap.size _ _ rfl hown5 x rfl (by simp) (by omega) ?_; intro v6 w6 hown6 hg6; have hB6 := below_ownS hB5 hown5 hg6 hsz5; have hsz6 := hB6.size)
                              | (refine append_many rfl _ _ rfl w4.heap.size _ _ rfl hown6 [] _ rfl (by first | exact .inl ⟨rfl, rfl⟩ | exact .inr ⟨_, _, rfl, fun j y h => by simp at h⟩) (by simp) (by omega) ?_; intro v7 w7 hown7 hg7; have hB7 := below_ownS hB6 hown6 hg7 hsz6))
                            go_round
                            case rel => exact ⟨k + 1, _, by omega, by go_num, hown7.mono (by omega), by simp, Lib.hid (by rw [HS5.out]; simp), hBW.trans ((hBd2.trans (hB7.mono hsz4)).mono hsz)⟩
                            case measure => simp [intOf]; omega
                        · try (exfalso; omega)
                          all_goals
                            have hmq : m ≤ q := by omega
                            have hqm2 : (q : Int) ≤ m := by omega
                            go_wp2_with (at_builtin; first
                              | (refine append_many rfl _ _ rfl w4.heap.size (.slice none 0 0) [] rfl (OwnS.nil _ _) (O.take q) _ rfl HSRC1.out (by have := HM.out; simp; omega) (Nat.le_refl _) ?_; intro v5 w5 hown5 hg5; have hB5 := below_ownS (Below.refl w4.heap.size w4) (OwnS.nil w4 w4.heap.size) hg5 (Nat.le_refl _); have hcell5 := keep_cell hcell4 hB5; have hsz5 := hB5.size)
                              | (refine append_s rfl _ _ rfl w4.heap.size _ _ rfl hown5 x rfl (by have := HM.out; simp; omega) (by omega) ?_; intro v6 w6 hown6 hg6; have hB6 := below_ownS hB5 hown5 hg6 hsz5; have hsz6 := hB6.size)
                              | (refine append_many rfl _ _ rfl w4.heap.size _ _ rfl hown6 [] _ rfl (by first | exact .inl ⟨rfl, rfl⟩ | exact .inr ⟨_, _, rfl, fun j y h => by simp at h⟩) (by have := HM.out; simp; omega) (by omega) ?_; intro v7 w7 hown7 hg7; have hB7 := below_ownS hB6 hown6 hg7 hsz6))
                            go_round
                            case rel => exact ⟨k + 1, _, by omega, by go_num, hown7.mono (by omega), by simp [hql, hdl]; omega, Lib.hid (by rw [HS3.out]; first | (simp; done) | (rw [show O.drop q = [] from List.drop_of_length_le (by rw [HM.out]; omega)]; simp)), hBW.trans ((hBd2.trans (hB7.mono hsz4)).mono hsz)⟩
                            case measure => simp [intOf]; omega
                    · have hoq2 : ¬ oc - q = 0 := by omega
                      have hqo : (q : Int) ≤ oc := by omega
                      have hqm2 : (q : Int) ≤ m := by omega
                      go_wp2_with (at_builtin; first
                        | (refine append_many rfl _ _ rfl w4.heap.size (.slice none 0 0) [] rfl (OwnS.nil _ _) (O.take q) _ rfl HSRC1.out (by have := HM.out; simp; omega) (Nat.le_refl _) ?_; intro v5 w5 hown5 hg5; have hB5 := below_ownS (Below.refl w4.heap.size w4) (OwnS.nil w4 w4.heap.size) hg5 (Nat.le_refl _); have hcell5 := keep_cell hcell4 hB5; have hsz5 := hB5.size)
                        | (refine append_s rfl _ _ rfl w4.heap.size _ _ rfl hown5 x rfl (by have := HM.out; simp; omega) (by omega) ?_; intro v6 w6 hown6 hg6; have hB6 := below_ownS hB5 hown5 hg6 hsz5; have hsz6 := hB6.size)
                        | (refine append_many rfl _ _ rfl w4.heap.size _ _ rfl hown6 (O.drop q) _ rfl (HSRC3.out _ hB6) (by have := HM.out; simp; omega) (by omega) ?_; intro v7 w7 hown7 hg7; have hB7 := below_ownS hB6 hown6 hg7 hsz6)
                        | (refine append_many rfl _ _ rfl w4.heap.size _ _ rfl hown6 [] _ rfl (.inr ⟨⟨g, q, none⟩, _, rfl, fun j y h => by simp at h⟩) (by have := HM.out; simp; omega) (by omega) ?_; intro v7 w7 hown7 hg7; have hB7 := below_ownS hB6 hown6 hg7 hsz6))
                      go_round
                      case rel => exact ⟨k + 1, _, by omega, by go_num, hown7.mono (by omega), by simp [hql, hdl]; omega, Lib.hid (by rw [HS3.out]; first | (simp; done) | (rw [show O.drop q = [] from List.drop_of_length_le (by rw [HM.out]; omega)]; simp)), hBW.trans ((hBd2.trans (hB7.mono hsz4)).mono hsz)⟩
                      case measure => simp [intOf]; omega
                · have hq0e : (q : Int) ≤ 0 := by omega
                  have hq0f : decide ((q : Int) > 0) = false := by simp; omega
                  have hq0g : ¬ 0 < q := by omega
                  clear hq0z
                  go_wp2_with fail
                  go_quiet (fail)
                  have hBd2 := bdrewN hBd nq
                  obtain ⟨w4, hw4⟩ : ∃ w4, w4 = wd.drewN nq := ⟨_, rfl⟩
                  rw [← hw4] at hBd2 ⊢
                  clear hw4
                  have hcell4 := keep_cell hcell hBd2
                  have hsz4 : wo.heap.size ≤ w4.heap.size := hBd2.size
                  have hql : (O.take q).length = q := by rw [List.length_take, HM.out]; omega
                  have hdl : (O.drop q).length = m - q := by rw [List.length_drop, HM.out]
                  · have hoc4 : ∀ (j : Nat) (y : List UInt8), O[j]? = some y → w4.cell? ⟨g, j, none⟩ = some (.string ⟨y.toArray⟩) := fun j y h => keep_cell (hocs j y h) hBd2
                    have hsrc1 : SrcS w4 (.slice (some ⟨g, 0, none⟩) q oc) (O.take q) := srcS_of hql (fun j y h => by
                      rw [List.getElem?_take] at h
                      split at h
                      · rw [addr_add, Nat.zero_add]; exact hoc4 j y h
                      · cases h)
                    have hsrc3 : ∀ w6, Below w4.heap.size w4 w6 → SrcS w6 (.slice (some ⟨g, q, none⟩) (m - q) (oc - q)) (O.drop q) := fun w6 hB6 => srcS_of hdl (fun j y h => by
                      rw [List.getElem?_drop] at h
                      rw [addr_add]; exact keep_cell (hoc4 _ y h) hB6)
                    have hsrc3n : m ≤ q → ∀ w6, SrcS w6 (.slice none 0 0) (O.drop q) := fun h w6 => .inl ⟨rfl, List.drop_of_length_le (by rw [HM.out]; omega)⟩
                    have HSRC1 := Lib.hid hsrc1
                    have HSRC3 := Lib.hid hsrc3
                    have HSRC3N := Lib.hid hsrc3n
                    clear hsrc1 hsrc3 hsrc3n hoc4 hocs
                    by_cases hoq : oc = q
                    · try (exfalso; omega)
                      all_goals
                        replace hoq := hoq.symm
                        subst hoq
                        by_cases hm00 : q = 0
                        · try (exfalso; omega)
                          all_goals
                            have hO0 : O = [] := List.eq_nil_of_length_eq_zero (by rw [HM.out]; omega)
                            have HS5 := Lib.hid (show (L.take (k + 1)).foldl (insL _ _) [] = [x] by rw [HS3.out, hO0]; simp)
                            clear hO0
                            subst hm00
                            go_wp2_with (at_builtin; first
                              | (refine append_many rfl _ _ rfl w4.heap.size (.slice none 0 0) [] rfl (OwnS.nil _ _) [] _ rfl (by first | exact .inl ⟨rfl, rfl⟩ | exact .inr ⟨_, _, rfl, fun j y h => by simp at h⟩) (by simp) (Nat.le_refl _) ?_; intro v5 w5 hown5 hg5; have hB5 := below_ownS (Below.refl w4.heap.size w4) (OwnS.nil w4 w4.heap.size) hg5 (Nat.le_refl _); have hcell5 := keep_cell hcell4 hB5; have hsz5 := hB5.size)
                              | (refine append_s rfl _ _ rfl w4.heap.size _ _ rfl hown5 x rfl (by simp) (by omega) ?_; intro v6 w6 hown6 hg6; have hB6 := below_ownS hB5 hown5 hg6 hsz5; have hsz6 := hB6.size)
                              | (refine append_many rfl _ _ rfl w4.heap.size _ _ rfl hown6 [] _ rfl (by first | exact .inl ⟨rfl, rfl⟩ | exact .inr ⟨_, _, rfl, fun j y h => by simp at h⟩) (by simp) (by omega) ?_; intro v7 w7 hown7 hg7; have hB7 := below_ownS hB6 hown6 hg7 hsz6))
                            go_round
                            case rel => exact ⟨k + 1, _, by omega, by go_num, hown7.mono (by omega), by simp, Lib.hid (by rw [HS5.out]; simp), hBW.trans ((hBd2.trans (hB7.mono hsz4)).mono hsz)⟩
                            case measure => simp [intOf]; omega
                        · try (exfalso; omega)
                          all_goals
                            have hmq : m ≤ q := by omega
                            have hqm2 : (q : Int) ≤ m := by omega
                            go_wp2_with (at_builtin; first
                              | (refine append_many rfl _ _ rfl w4.heap.size (.slice none 0 0) [] rfl (OwnS.nil _ _) (O.take q) _ rfl HSRC1.out (by have := HM.out; simp; omega) (Nat.le_refl _) ?_; intro v5 w5 hown5 hg5; have hB5 := below_ownS (Below.refl w4.heap.size w4) (OwnS.nil w4 w4.heap.size) hg5 (Nat.le_refl _); have hcell5 := keep_cell hcell4 hB5; have hsz5 := hB5.size)
                              | (refine append_s rfl _ _ rfl w4.heap.size _ _ rfl hown5 x rfl (by have := HM.out; simp; omega) (by omega) ?_; intro v6 w6 hown6 hg6; have hB6 := below_ownS hB5 hown5 hg6 hsz5; have hsz6 := hB6.size)
                              | (refine append_many rfl _ _ rfl w4.heap.size _ _ rfl hown6 [] _ rfl (by first | exact .inl ⟨rfl, rfl⟩ | exact .inr ⟨_, _, rfl, fun j y h => by simp at h⟩) (by have := HM.out; simp; omega) (by omega) ?_; intro v7 w7 hown7 hg7; have hB7 := below_ownS hB6 hown6 hg7 hsz6))
                            go_round
                            case rel => exact ⟨k + 1, _, by omega, by go_num, hown7.mono (by omega), by simp [hql, hdl]; omega, Lib.hid (by rw [HS3.out]; first | (simp; done) | (rw [show O.drop q = [] from List.drop_of_length_le (by rw [HM.out]; omega)]; simp)), hBW.trans ((hBd2.trans (hB7.mono hsz4)).mono hsz)⟩
                            case measure => simp [intOf]; omega
                    · have hoq2 : ¬ oc - q = 0 := by omega
                      have hqo : (q : Int) ≤ oc := by omega
                      have hqm2 : (q : Int) ≤ m := by omega
                      go_wp2_with (at_builtin; first
                        | (refine append_many rfl _ _ rfl w4.heap.size (.slice none 0 0) [] rfl (OwnS.nil _ _) (O.take q) _ rfl HSRC1.out (by have := HM.out; simp; omega) (Nat.le_refl _) ?_; intro v5 w5 hown5 hg5; have hB5 := below_ownS (Below.refl w4.heap.size w4) (OwnS.nil w4 w4.heap.size) hg5 (Nat.le_refl _); have hcell5 := keep_cell hcell4 hB5; have hsz5 := hB5.size)
                        | (refine append_s rfl _ _ rfl w4.heap.size _ _ rfl hown5 x rfl (by have := HM.out; simp; omega) (by omega) ?_; intro v6 w6 hown6 hg6; have hB6 := below_ownS hB5 hown5 hg6 hsz5; have hsz6 := hB6.size)
                        | (refine append_many rfl _ _ rfl w4.heap.size _ _ rfl hown6 (O.drop q) _ rfl (HSRC3.out _ hB6) (by have := HM.out; simp; omega) (by omega) ?_; intro v7 w7 hown7 hg7; have hB7 := below_ownS hB6 hown6 hg7 hsz6)
                        | (refine append_many rfl _ _ rfl w4.heap.size _ _ rfl hown6 [] _ rfl (.inr ⟨⟨g, q, none⟩, _, rfl, fun j y h => by simp at h⟩) (by have := HM.out; simp; omega) (by omega) ?_; intro v7 w7 hown7 hg7; have hB7 := below_ownS hB6 hown6 hg7 hsz6))
                      go_round
                      case rel => exact ⟨k + 1, _, by omega, by go_num, hown7.mono (by omega), by simp [hql, hdl]; omega, Lib.hid (by rw [HS3.out]; first | (simp; done) | (rw [show O.drop q = [] from List.drop_of_length_le (by rw [HM.out]; omega)]; simp)), hBW.trans ((hBd2.trans (hB7.mono hsz4)).mono hsz)⟩
                      case measure => simp [intOf]; omega
                · have hcp := keep_cell (hocs p z hz) hBd
                  have hpi : (q : Int) - 1 = p := by omega
                  have hqpos : (0 : Int) < q := by omega
                  have hpm : (p : Int) < m := by omega
                  have hzz : (z == x) = false := by simp [hzx]
                  have hw0 : IntKind.i64.wrap ((q : Int) - 1) = (p : Int) := by rw [hpi]; exact IntWalk.i64_in _ (by omega)
                  have hm1 : m ≤ 1000 := by omega
                  have hcellx := keep_cell hcell hBd
                  have hw0p : IntKind.i64.wrap (p : Int) = (p : Int) := IntWalk.i64_in _ (by omega)
                  have hqpn : 0 < q := by omega
                  have hqpd : decide (0 < q) = true := by simp; omega
                  clear hz hzx hqp
                  go_wp2_with fail
                  go_quiet (fail)
                  have hBd2 := bdrewN hBd nq
                  obtain ⟨w4, hw4⟩ : ∃ w4, w4 = wd.drewN nq := ⟨_, rfl⟩
                  rw [← hw4] at hBd2 ⊢
                  clear hw4
                  have hcell4 := keep_cell hcell hBd2
                  have hsz4 : wo.heap.size ≤ w4.heap.size := hBd2.size
                  have hql : (O.take q).length = q := by rw [List.length_take, HM.out]; omega
                  have hdl : (O.drop q).length = m - q := by rw [List.length_drop, HM.out]
                  · have hoc4 : ∀ (j : Nat) (y : List UInt8), O[j]? = some y → w4.cell? ⟨g, j, none⟩ = some (.string ⟨y.toArray⟩) := fun j y h => keep_cell (hocs j y h) hBd2
                    have hsrc1 : SrcS w4 (.slice (some ⟨g, 0, none⟩) q oc) (O.take q) := srcS_of hql (fun j y h => by
                      rw [List.getElem?_take] at h
                      split at h
                      · rw [addr_add, Nat.zero_add]; exact hoc4 j y h
                      · cases h)
                    have hsrc3 : ∀ w6, Below w4.heap.size w4 w6 → SrcS w6 (.slice (some ⟨g, q, none⟩) (m - q) (oc - q)) (O.drop q) := fun w6 hB6 => srcS_of hdl (fun j y h => by
                      rw [List.getElem?_drop] at h
                      rw [addr_add]; exact keep_cell (hoc4 _ y h) hB6)
                    have hsrc3n : m ≤ q → ∀ w6, SrcS w6 (.slice none 0 0) (O.drop q) := fun h w6 => .inl ⟨rfl, List.drop_of_length_le (by rw [HM.out]; omega)⟩
                    have HSRC1 := Lib.hid hsrc1
                    have HSRC3 := Lib.hid hsrc3
                    have HSRC3N := Lib.hid hsrc3n
                    clear hsrc1 hsrc3 hsrc3n hoc4 hocs
                    by_cases hoq : oc = q
                    · try (exfalso; omega)
                      all_goals
                        replace hoq := hoq.symm
                        subst hoq
                        by_cases hm00 : q = 0
                        · try (exfalso; omega)
                          all_goals
                            have hO0 : O = [] := List.eq_nil_of_length_eq_zero (by rw [HM.out]; omega)
                            have HS5 := Lib.hid (show (L.take (k + 1)).foldl (insL _ _) [] = [x] by rw [HS3.out, hO0]; simp)
                            clear hO0
                            subst hm00
                            go_wp2_with (at_builtin; first
                              | (refine append_many rfl _ _ rfl w4.heap.size (.slice none 0 0) [] rfl (OwnS.nil _ _) [] _ rfl (by first | exact .inl ⟨rfl, rfl⟩ | exact .inr ⟨_, _, rfl, fun j y h => by simp at h⟩) (by simp) (Nat.le_refl _) ?_; intro v5 w5 hown5 hg5; have hB5 := below_ownS (Below.refl w4.heap.size w4) (OwnS.nil w4 w4.heap.size) hg5 (Nat.le_refl _); have hcell5 := keep_cell hcell4 hB5; have hsz5 := hB5.size)
                              | (refine append_s rfl _ _ rfl w4.heap.size _ _ rfl hown5 x rfl (by simp) (by omega) ?_; intro v6 w6 hown6 hg6; have hB6 := below_ownS hB5 hown5 hg6 hsz5; have hsz6 := hB6.size)
                              | (refine append_many rfl _ _ rfl w4.heap.size _ _ rfl hown6 [] _ rfl (by first | exact .inl ⟨rfl, rfl⟩ | exact .inr ⟨_, _, rfl, fun j y h => by simp at h⟩) (by simp) (by omega) ?_; intro v7 w7 hown7 hg7; have hB7 := below_ownS hB6 hown6 hg7 hsz6))
                            go_round
                            case rel => exact ⟨k + 1, _, by omega, by go_num, hown7.mono (by omega), by simp, Lib.hid (by rw [HS5.out]; simp), hBW.trans ((hBd2.trans (hB7.mono hsz4)).mono hsz)⟩
                            case measure => simp [intOf]; omega
                        · try (exfalso; omega)
                          all_goals
                            have hmq : m ≤ q := by omega
                            have hqm2 : (q : Int) ≤ m := by omega
                            go_wp2_with (at_builtin; first
                              | (refine append_many rfl _ _ rfl w4.heap.size (.slice none 0 0) [] rfl (OwnS.nil _ _) (O.take q) _ rfl HSRC1.out (by have := HM.out; simp; omega) (Nat.le_refl _) ?_; intro v5 w5 hown5 hg5; have hB5 := below_ownS (Below.refl w4.heap.size w4) (OwnS.nil w4 w4.heap.size) hg5 (Nat.le_refl _); have hcell5 := keep_cell hcell4 hB5; have hsz5 := hB5.size)
                              | (refine append_s rfl _ _ rfl w4.heap.size _ _ rfl hown5 x rfl (by have := HM.out; simp; omega) (by omega) ?_; intro v6 w6 hown6 hg6; have hB6 := below_ownS hB5 hown5 hg6 hsz5; have hsz6 := hB6.size)
                              | (refine append_many rfl _ _ rfl w4.heap.size _ _ rfl hown6 [] _ rfl (by first | exact .inl ⟨rfl, rfl⟩ | exact .inr ⟨_, _, rfl, fun j y h => by simp at h⟩) (by have := HM.out; simp; omega) (by omega) ?_; intro v7 w7 hown7 hg7; have hB7 := below_ownS hB6 hown6 hg7 hsz6))
                            go_round
                            case rel => exact ⟨k + 1, _, by omega, by go_num, hown7.mono (by omega), by simp [hql, hdl]; omega, Lib.hid (by rw [HS3.out]; first | (simp; done) | (rw [show O.drop q = [] from List.drop_of_length_le (by rw [HM.out]; omega)]; simp)), hBW.trans ((hBd2.trans (hB7.mono hsz4)).mono hsz)⟩
                            case measure => simp [intOf]; omega
                    · have hoq2 : ¬ oc - q = 0 := by omega
                      have hqo : (q : Int) ≤ oc := by omega
                      have hqm2 : (q : Int) ≤ m := by omega
                      go_wp2_with (at_builtin; first
                        | (refine append_many rfl _ _ rfl w4.heap.size (.slice none 0 0) [] rfl (OwnS.nil _ _) (O.take q) _ rfl HSRC1.out (by have := HM.out; simp; omega) (Nat.le_refl _) ?_; intro v5 w5 hown5 hg5; have hB5 := below_ownS (Below.refl w4.heap.size w4) (OwnS.nil w4 w4.heap.size) hg5 (Nat.le_refl _); have hcell5 := keep_cell hcell4 hB5; have hsz5 := hB5.size)
                        | (refine append_s rfl _ _ rfl w4.heap.size _ _ rfl hown5 x rfl (by have := HM.out; simp; omega) (by omega) ?_; intro v6 w6 hown6 hg6; have hB6 := below_ownS hB5 hown5 hg6 hsz5; have hsz6 := hB6.size)
                        | (refine append_many rfl _ _ rfl w4.heap.size _ _ rfl hown6 (O.drop q) _ rfl (HSRC3.out _ hB6) (by have := HM.out; simp; omega) (by omega) ?_; intro v7 w7 hown7 hg7; have hB7 := below_ownS hB6 hown6 hg7 hsz6)
                        | (refine append_many rfl _ _ rfl w4.heap.size _ _ rfl hown6 [] _ rfl (.inr ⟨⟨g, q, none⟩, _, rfl, fun j y h => by simp at h⟩) (by have := HM.out; simp; omega) (by omega) ?_; intro v7 w7 hown7 hg7; have hB7 := below_ownS hB6 hown6 hg7 hsz6))
                      go_round
                      case rel => exact ⟨k + 1, _, by omega, by go_num, hown7.mono (by omega), by simp [hql, hdl]; omega, Lib.hid (by rw [HS3.out]; first | (simp; done) | (rw [show O.drop q = [] from List.drop_of_length_le (by rw [HM.out]; omega)]; simp)), hBW.trans ((hBd2.trans (hB7.mono hsz4)).mono hsz)⟩
                      case measure => simp [intOf]; omega
            | true =>
              have hc2 := hcont.out t4
              clear hy
              go_wp2_with fail
              go_quiet (fail)
              go_wp2_with fail
              go_round
              case rel => exact ⟨q + 1, by omega, by go_num, Lib.hid hc2, bdrewN hBq _⟩
              case measure => simp [intOf]; omega
        · have hqe : m = q := by omega
          subst hqe
          rcases hsh with ⟨rfl, h0, rfl⟩ | ⟨g, rfl, hg, hocs⟩
          · have hm0 : m = 0 := by have := HM.out; rw [h0] at this; exact this.symm
            have hm0f : decide ((m : Int) > 0) = false := by rw [hm0]; rfl
            have HS4 := Lib.hid (show (L.take (k + 1)).foldl (insL back once) [] = [x] by rw [HS2.out, h0]; simp [insL])
            clear h0 HS2 HS HQ
            subst hm0
            cases once with
            | false =>
              go_wp2_with fail
              go_quiet (fail)
              go_wp2_with fail
              have hBd := bdrewN hBq nq
              obtain ⟨wd, hwd⟩ : ∃ wd, wd = wr.drewN nq := ⟨_, rfl⟩
              rw [← hwd] at hBd ⊢
              clear hwd
              go_wp2_with fail
              go_quiet (fail)
              have hBd2 := bdrewN hBd nq
              obtain ⟨w4, hw4⟩ : ∃ w4, w4 = wd.drewN nq := ⟨_, rfl⟩
              rw [← hw4] at hBd2 ⊢
              clear hw4
              have hcell4 := keep_cell hcell hBd2
              have hsz4 : wo.heap.size ≤ w4.heap.size := hBd2.size
              go_wp2_with (at_builtin; first
                | (refine append_many rfl _ _ rfl w4.heap.size (.slice none 0 0) [] rfl (OwnS.nil _ _) [] _ rfl (by first | exact .inl ⟨rfl, rfl⟩ | exact .inr ⟨_, _, rfl, fun j y h => by simp at h⟩) (by simp) (Nat.le_refl _) ?_; intro v5 w5 hown5 hg5; have hB5 := below_ownS (Below.refl w4.heap.size w4) (OwnS.nil w4 w4.heap.size) hg5 (Nat.le_refl _); have hcell5 := keep_cell hcell4 hB5; have hsz5 := hB5.size)
                | (refine append_s rfl _ _ rfl w4.heap.size _ _ rfl hown5 x rfl (by simp) (by omega) ?_; intro v6 w6 hown6 hg6; have hB6 := below_ownS hB5 hown5 hg6 hsz5; have hsz6 := hB6.size)
                | (refine append_many rfl _ _ rfl w4.heap.size _ _ rfl hown6 [] _ rfl (by first | exact .inl ⟨rfl, rfl⟩ | exact .inr ⟨_, _, rfl, fun j y h => by simp at h⟩) (by simp) (by omega) ?_; intro v7 w7 hown7 hg7; have hB7 := below_ownS hB6 hown6 hg7 hsz6))
              go_round
              case rel => exact ⟨k + 1, _, by omega, by go_num, hown7.mono (by omega), by simp, Lib.hid (by rw [HS4.out]; simp), hBW.trans ((hBd2.trans (hB7.mono hsz4)).mono hsz)⟩
              case measure => simp [intOf]; omega
            | true =>
              go_wp2_with fail
              go_quiet (fail)
              go_wp2_with fail
              have hBd := bdrewN hBq nq
              obtain ⟨wd, hwd⟩ : ∃ wd, wd = wr.drewN nq := ⟨_, rfl⟩
              rw [← hwd] at hBd ⊢
              clear hwd
              go_wp2_with fail
              go_quiet (fail)
              have hBd2 := bdrewN hBd nq
              obtain ⟨w4, hw4⟩ : ∃ w4, w4 = wd.drewN nq := ⟨_, rfl⟩
              rw [← hw4] at hBd2 ⊢
              clear hw4
              have hcell4 := keep_cell hcell hBd2
              have hsz4 : wo.heap.size ≤ w4.heap.size := hBd2.size
              go_wp2_with (at_builtin; first
                | (refine append_many rfl _ _ rfl w4.heap.size (.slice none 0 0) [] rfl (OwnS.nil _ _) [] _ rfl (by first | exact .inl ⟨rfl, rfl⟩ | exact .inr ⟨_, _, rfl, fun j y h => by simp at h⟩) (by simp) (Nat.le_refl _) ?_; intro v5 w5 hown5 hg5; have hB5 := below_ownS (Below.refl w4.heap.size w4) (OwnS.nil w4 w4.heap.size) hg5 (Nat.le_refl _); have hcell5 := keep_cell hcell4 hB5; have hsz5 := hB5.size)
                | (refine append_s rfl _ _ rfl w4.heap.size _ _ rfl hown5 x rfl (by simp) (by omega) ?_; intro v6 w6 hown6 hg6; have hB6 := below_ownS hB5 hown5 hg6 hsz5; have hsz6 := hB6.size)
                | (refine append_many rfl _ _ rfl w4.heap.size _ _ rfl hown6 [] _ rfl (by first | exact .inl ⟨rfl, rfl⟩ | exact .inr ⟨_, _, rfl, fun j y h => by simp at h⟩) (by simp) (by omega) ?_; intro v7 w7 hown7 hg7; have hB7 := below_ownS hB6 hown6 hg7 hsz6))
              go_round
              case rel => exact ⟨k + 1, _, by omega, by go_num, hown7.mono (by omega), by simp, Lib.hid (by rw [HS4.out]; simp), hBW.trans ((hBd2.trans (hB7.mono hsz4)).mono hsz)⟩
              case measure => simp [intOf]; omega
          · have hTW := tw_take (p := (leB back · x)) HQ.out (fun z hz => by have := (List.getElem?_eq_some_iff.1 hz).1; rw [HM.out] at this; omega)
            go_wp2_with fail
            go_quiet (fail)
            go_wp2_with fail
            have HTW := Lib.hid hTW
            have hBd := bdrewN hBq nq
            obtain ⟨wd, hwd⟩ : ∃ wd, wd = wr.drewN nq := ⟨_, rfl⟩
            rw [← hwd] at hBd ⊢
            clear hwd
            have hins : insL back once O x = if once = true ∧ (O.take m).getLast? = some x then O else O.take m ++ x :: O.drop m := by unfold insL; rw [HTW.out.1, HTW.out.2]
            by_cases hsk : once = true ∧ (O.take m).getLast? = some x
            · obtain ⟨rfl, hlast⟩ := hsk
              rw [if_pos ⟨rfl, hlast⟩] at hins
              have HS3 := Lib.hid (HS2.out.trans hins)
              obtain ⟨p, hqp⟩ : ∃ p, m = p + 1 := ⟨m - 1, by have : m ≠ 0 := (fun e => by rw [e] at hlast; simp at hlast); omega⟩
              have hp : O[p]? = some x := by
                rw [take_last (by omega) (by rw [HM.out]; omega), hqp] at hlast
                simpa using hlast
              · have hcp := keep_cell (hocs p x hp) hBd
                have hcell4 := keep_cell hcell hBd
                have hpi : (m : Int) - 1 = p := by omega
                have hqpos : (0 : Int) < m := by omega
                have hpm : (p : Int) < m := by omega
                have hxx : (x == x) = true := by simp
                have hO4 := hO.below hBd
                clear hp hlast hins
                go_wp2_with fail
                go_quiet (fail)
                go_wp2_with fail
                go_round
                case rel => exact ⟨k + 1, O, by omega, by go_num, hO4.below (bdrewN (Below.refl _ _) _), by have := HM.out; omega, Lib.hid HS3.out.symm, hBW.trans ((bdrewN hBd _).mono hsz)⟩
                case measure => simp [intOf]; omega
            · rw [if_neg hsk] at hins
              have HS3 := Lib.hid (HS2.out.trans hins)
              have hcases : once = false ∨ (once = true ∧ m = 0) ∨ (once = true ∧ ∃ p z, m = p + 1 ∧ O[p]? = some z ∧ z ≠ x) := by
                cases once with
                | false => exact .inl rfl
                | true =>
                  refine .inr ?_
                  rcases Nat.eq_zero_or_pos m with h | h
                  · exact .inl ⟨rfl, h⟩
                  · refine .inr ⟨rfl, m - 1, O[m - 1]'(by rw [HM.out]; omega), by omega, List.getElem?_eq_getElem _, fun e => hsk ⟨rfl, ?_⟩⟩
                    rw [take_last h (by rw [HM.out]; omega), ← e]
                    exact List.getElem?_eq_getElem _
              clear hsk hins
              rcases hcases with rfl | ⟨rfl, hq0z⟩ | ⟨rfl, p, z, hqp, hz, hzx⟩
              · go_wp2_with fail
                go_quiet (fail)
                have hBd2 := bdrewN hBd nq
                obtain ⟨w4, hw4⟩ : ∃ w4, w4 = wd.drewN nq := ⟨_, rfl⟩
                rw [← hw4] at hBd2 ⊢
                clear hw4
                have hcell4 := keep_cell hcell hBd2
                have hsz4 : wo.heap.size ≤ w4.heap.size := hBd2.size
                have hql : (O.take m).length = m := by rw [List.length_take, HM.out]; omega
                have hdl : (O.drop m).length = m - m := by rw [List.length_drop, HM.out]
                · have hoc4 : ∀ (j : Nat) (y : List UInt8), O[j]? = some y → w4.cell? ⟨g, j, none⟩ = some (.string ⟨y.toArray⟩) := fun j y h => keep_cell (hocs j y h) hBd2
                  have hsrc1 : SrcS w4 (.slice (some ⟨g, 0, none⟩) m oc) (O.take m) := srcS_of hql (fun j y h => by
                    rw [List.getElem?_take] at h
                    split at h
                    · rw [addr_add, Nat.zero_add]; exact hoc4 j y h
                    · cases h)
                  have hsrc3 : ∀ w6, Below w4.heap.size w4 w6 → SrcS w6 (.slice (some ⟨g, m, none⟩) (m - m) (oc - m)) (O.drop m) := fun w6 hB6 => srcS_of hdl (fun j y h => by
                    rw [List.getElem?_drop] at h
                    rw [addr_add]; exact keep_cell (hoc4 _ y h) hB6)
                  have hsrc3n : m ≤ m → ∀ w6, SrcS w6 (.slice none 0 0) (O.drop m) := fun h w6 => .inl ⟨rfl, List.drop_of_length_le (by rw [HM.out]; omega)⟩
                  have HSRC1 := Lib.hid hsrc1
                  have HSRC3 := Lib.hid hsrc3
                  have HSRC3N := Lib.hid hsrc3n
                  clear hsrc1 hsrc3 hsrc3n hoc4 hocs
                  by_cases hoq : oc = m
                  · try (exfalso; omega)
                    all_goals
                      replace hoq := hoq.symm
                      subst hoq
                      by_cases hm00 : m = 0
                      · try (exfalso; omega)
                        all_goals
                          have hO0 : O = [] := List.eq_nil_of_length_eq_zero (by rw [HM.out]; omega)
                          have HS5 := Lib.hid (show (L.take (k + 1)).foldl (insL _ _) [] = [x] by rw [HS3.out, hO0]; simp)
                          clear hO0
                          subst hm00
                          go_wp2_with (at_builtin; first
                            | (refine append_many rfl _ _ rfl w4.heap.size (.slice none 0 0) [] rfl (OwnS.nil _ _) [] _ rfl (by first | exact .inl ⟨rfl, rfl⟩ | exact .inr ⟨_, _, rfl, fun j y h => by simp at h⟩) (by simp) (Nat.le_refl _) ?_; intro v5 w5 hown5 hg5; have hB5 := below_ownS (Below.refl w4.heap.size w4) (OwnS.nil w4 w4.heap.size) hg5 (Nat.le_refl _); have hcell5 := keep_cell hcell4 hB5; have hsz5 := hB5.size)
                            | (refine append_s rfl _ _ rfl w4.heap.size _ _ rfl hown5 x rfl (by simp) (by omega) ?_; intro v6 w6 hown6 hg6; have hB6 := below_ownS hB5 hown5 hg6 hsz5; have hsz6 := hB6.size)
                            | (refine append_many rfl _ _ rfl w4.heap.size _ _ rfl hown6 [] _ rfl (by first | exact .inl ⟨rfl, rfl⟩ | exact .inr ⟨_, _, rfl, fun j y h => by simp at h⟩) (by simp) (by omega) ?_; intro v7 w7 hown7 hg7; have hB7 := below_ownS hB6 hown6 hg7 hsz6))
                          go_round
                          case rel => exact ⟨k + 1, _, by omega, by go_num, hown7.mono (by omega), by simp, Lib.hid (by rw [HS5.out]; simp), hBW.trans ((hBd2.trans (hB7.mono hsz4)).mono hsz)⟩
                          case measure => simp [intOf]; omega
                      · try (exfalso; omega)
                        all_goals
                          have hmq : m ≤ m := by omega
                          have hqm2 : (m : Int) ≤ m := by omega
                          go_wp2_with (at_builtin; first
                            | (refine append_many rfl _ _ rfl w4.heap.size (.slice none 0 0) [] rfl (OwnS.nil _ _) (O.take m) _ rfl HSRC1.out (by have := HM.out; simp; omega) (Nat.le_refl _) ?_; intro v5 w5 hown5 hg5; have hB5 := below_ownS (Below.refl w4.heap.size w4) (OwnS.nil w4 w4.heap.size) hg5 (Nat.le_refl _); have hcell5 := keep_cell hcell4 hB5; have hsz5 := hB5.size)
                            | (refine append_s rfl _ _ rfl w4.heap.size _ _ rfl hown5 x rfl (by have := HM.out; simp; omega) (by omega) ?_; intro v6 w6 hown6 hg6; have hB6 := below_ownS hB5 hown5 hg6 hsz5; have hsz6 := hB6.size)
                            | (refine append_many rfl _ _ rfl w4.heap.size _ _ rfl hown6 [] _ rfl (by first | exact .inl ⟨rfl, rfl⟩ | exact .inr ⟨_, _, rfl, fun j y h => by simp at h⟩) (by have := HM.out; simp; omega) (by omega) ?_; intro v7 w7 hown7 hg7; have hB7 := below_ownS hB6 hown6 hg7 hsz6))
                          go_round
                          case rel => exact ⟨k + 1, _, by omega, by go_num, hown7.mono (by omega), by simp [hql, hdl]; omega, Lib.hid (by rw [HS3.out]; first | (simp; done) | (rw [show O.drop m = [] from List.drop_of_length_le (by rw [HM.out]; omega)]; simp)), hBW.trans ((hBd2.trans (hB7.mono hsz4)).mono hsz)⟩
                          case measure => simp [intOf]; omega
                  · have hoq2 : ¬ oc - m = 0 := by omega
                    have hqo : (m : Int) ≤ oc := by omega
                    have hqm2 : (m : Int) ≤ m := by omega
                    go_wp2_with (at_builtin; first
                      | (refine append_many rfl _ _ rfl w4.heap.size (.slice none 0 0) [] rfl (OwnS.nil _ _) (O.take m) _ rfl HSRC1.out (by have := HM.out; simp; omega) (Nat.le_refl _) ?_; intro v5 w5 hown5 hg5; have hB5 := below_ownS (Below.refl w4.heap.size w4) (OwnS.nil w4 w4.heap.size) hg5 (Nat.le_refl _); have hcell5 := keep_cell hcell4 hB5; have hsz5 := hB5.size)
                      | (refine append_s rfl _ _ rfl w4.heap.size _ _ rfl hown5 x rfl (by have := HM.out; simp; omega) (by omega) ?_; intro v6 w6 hown6 hg6; have hB6 := below_ownS hB5 hown5 hg6 hsz5; have hsz6 := hB6.size)
                      | (refine append_many rfl _ _ rfl w4.heap.size _ _ rfl hown6 (O.drop m) _ rfl (HSRC3.out _ hB6) (by have := HM.out; simp; omega) (by omega) ?_; intro v7 w7 hown7 hg7; have hB7 := below_ownS hB6 hown6 hg7 hsz6)
                      | (refine append_many rfl _ _ rfl w4.heap.size _ _ rfl hown6 [] _ rfl (.inr ⟨⟨g, m, none⟩, _, rfl, fun j y h => by simp at h⟩) (by have := HM.out; simp; omega) (by omega) ?_; intro v7 w7 hown7 hg7; have hB7 := below_ownS hB6 hown6 hg7 hsz6))
                    go_round
                    case rel => exact ⟨k + 1, _, by omega, by go_num, hown7.mono (by omega), by simp [hql, hdl]; omega, Lib.hid (by rw [HS3.out]; first | (simp; done) | (rw [show O.drop m = [] from List.drop_of_length_le (by rw [HM.out]; omega)]; simp)), hBW.trans ((hBd2.trans (hB7.mono hsz4)).mono hsz)⟩
                    case measure => simp [intOf]; omega
              · have hq0e : (m : Int) ≤ 0 := by omega
                have hq0f : decide ((m : Int) > 0) = false := by simp; omega
                have hq0g : ¬ 0 < m := by omega
                clear hq0z
                go_wp2_with fail
                go_quiet (fail)
                have hBd2 := bdrewN hBd nq
                obtain ⟨w4, hw4⟩ : ∃ w4, w4 = wd.drewN nq := ⟨_, rfl⟩
                rw [← hw4] at hBd2 ⊢
                clear hw4
                have hcell4 := keep_cell hcell hBd2
                have hsz4 : wo.heap.size ≤ w4.heap.size := hBd2.size
                have hql : (O.take m).length = m := by rw [List.length_take, HM.out]; omega
                have hdl : (O.drop m).length = m - m := by rw [List.length_drop, HM.out]
                · have hoc4 : ∀ (j : Nat) (y : List UInt8), O[j]? = some y → w4.cell? ⟨g, j, none⟩ = some (.string ⟨y.toArray⟩) := fun j y h => keep_cell (hocs j y h) hBd2
                  have hsrc1 : SrcS w4 (.slice (some ⟨g, 0, none⟩) m oc) (O.take m) := srcS_of hql (fun j y h => by
                    rw [List.getElem?_take] at h
                    split at h
                    · rw [addr_add, Nat.zero_add]; exact hoc4 j y h
                    · cases h)
                  have hsrc3 : ∀ w6, Below w4.heap.size w4 w6 → SrcS w6 (.slice (some ⟨g, m, none⟩) (m - m) (oc - m)) (O.drop m) := fun w6 hB6 => srcS_of hdl (fun j y h => by
                    rw [List.getElem?_drop] at h
                    rw [addr_add]; exact keep_cell (hoc4 _ y h) hB6)
                  have hsrc3n : m ≤ m → ∀ w6, SrcS w6 (.slice none 0 0) (O.drop m) := fun h w6 => .inl ⟨rfl, List.drop_of_length_le (by rw [HM.out]; omega)⟩
                  have HSRC1 := Lib.hid hsrc1
                  have HSRC3 := Lib.hid hsrc3
                  have HSRC3N := Lib.hid hsrc3n
                  clear hsrc1 hsrc3 hsrc3n hoc4 hocs
                  by_cases hoq : oc = m
                  · try (exfalso; omega)
                    all_goals
                      replace hoq := hoq.symm
                      subst hoq
                      by_cases hm00 : m = 0
                      · try (exfalso; omega)
                        all_goals
                          have hO0 : O = [] := List.eq_nil_of_length_eq_zero (by rw [HM.out]; omega)
                          have HS5 := Lib.hid (show (L.take (k + 1)).foldl (insL _ _) [] = [x] by rw [HS3.out, hO0]; simp)
                          clear hO0
                          subst hm00
                          go_wp2_with (at_builtin; first
                            | (refine append_many rfl _ _ rfl w4.heap.size (.slice none 0 0) [] rfl (OwnS.nil _ _) [] _ rfl (by first | exact .inl ⟨rfl, rfl⟩ | exact .inr ⟨_, _, rfl, fun j y h => by simp at h⟩) (by simp) (Nat.le_refl _) ?_; intro v5 w5 hown5 hg5; have hB5 := below_ownS (Below.refl w4.heap.size w4) (OwnS.nil w4 w4.heap.size) hg5 (Nat.le_refl _); have hcell5 := keep_cell hcell4 hB5; have hsz5 := hB5.size)
                            | (refine append_s rfl _ _ rfl w4.heap.size _ _ rfl hown5 x rfl (by simp) (by omega) ?_; intro v6 w6 hown6 hg6; have hB6 := below_ownS hB5 hown5 hg6 hsz5; have hsz6 := hB6.size)
                            | (refine append_many rfl _ _ rfl w4.heap.size _ _ rfl hown6 [] _ rfl (by first | exact .inl ⟨rfl, rfl⟩ | exact .inr ⟨_, _, rfl, fun j y h => by simp at h⟩) (by simp) (by omega) ?_; intro v7 w7 hown7 hg7; have hB7 := below_ownS hB6 hown6 hg7 hsz6))
                          go_round
                          case rel => exact ⟨k + 1, _, by omega, by go_num, hown7.mono (by omega), by simp, Lib.hid (by rw [HS5.out]; simp), hBW.trans ((hBd2.trans (hB7.mono hsz4)).mono hsz)⟩
                          case measure => simp [intOf]; omega
                      · try (exfalso; omega)
                        all_goals
                          have hmq : m ≤ m := by omega
                          have hqm2 : (m : Int) ≤ m := by omega
                          go_wp2_with (at_builtin; first
                            | (refine append_many rfl _ _ rfl w4.heap.size (.slice none 0 0) [] rfl (OwnS.nil _ _) (O.take m) _ rfl HSRC1.out (by have := HM.out; simp; omega) (Nat.le_refl _) ?_; intro v5 w5 hown5 hg5; have hB5 := below_ownS (Below.refl w4.heap.size w4) (OwnS.nil w4 w4.heap.size) hg5 (Nat.le_refl _); have hcell5 := keep_cell hcell4 hB5; have hsz5 := hB5.size)
                            | (refine append_s rfl _ _ rfl w4.heap.size _ _ rfl hown5 x rfl (by have := HM.out; simp; omega) (by omega) ?_; intro v6 w6 hown6 hg6; have hB6 := below_ownS hB5 hown5 hg6 hsz5; have hsz6 := hB6.size)
                            | (refine append_many rfl _ _ rfl w4.heap.size _ _ rfl hown6 [] _ rfl (by first | exact .inl ⟨rfl, rfl⟩ | exact .inr ⟨_, _, rfl, fun j y h => by simp at h⟩) (by have := HM.out; simp; omega) (by omega) ?_; intro v7 w7 hown7 hg7; have hB7 := below_ownS hB6 hown6 hg7 hsz6))
                          go_round
                          case rel => exact ⟨k + 1, _, by omega, by go_num, hown7.mono (by omega), by simp [hql, hdl]; omega, Lib.hid (by rw [HS3.out]; first | (simp; done) | (rw [show O.drop m = [] from List.drop_of_length_le (by rw [HM.out]; omega)]; simp)), hBW.trans ((hBd2.trans (hB7.mono hsz4)).mono hsz)⟩
                          case measure => simp [intOf]; omega
                  · have hoq2 : ¬ oc - m = 0 := by omega
                    have hqo : (m : Int) ≤ oc := by omega
                    have hqm2 : (m : Int) ≤ m := by omega
                    go_wp2_with (at_builtin; first
                      | (refine append_many rfl _ _ rfl w4.heap.size (.slice none 0 0) [] rfl (OwnS.nil _ _) (O.take m) _ rfl HSRC1.out (by have := HM.out; simp; omega) (Nat.le_refl _) ?_; intro v5 w5 hown5 hg5; have hB5 := below_ownS (Below.refl w4.heap.size w4) (OwnS.nil w4 w4.heap.size) hg5 (Nat.le_refl _); have hcell5 := keep_cell hcell4 hB5; have hsz5 := hB5.size)
                      | (refine append_s rfl _ _ rfl w4.heap.size _ _ rfl hown5 x rfl (by have := HM.out; simp; omega) (by omega) ?_; intro v6 w6 hown6 hg6; have hB6 := below_ownS hB5 hown5 hg6 hsz5; have hsz6 := hB6.size)
                      | (refine append_many rfl _ _ rfl w4.heap.size _ _ rfl hown6 (O.drop m) _ rfl (HSRC3.out _ hB6) (by have := HM.out; simp; omega) (by omega) ?_; intro v7 w7 hown7 hg7; have hB7 := below_ownS hB6 hown6 hg7 hsz6)
                      | (refine append_many rfl _ _ rfl w4.heap.size _ _ rfl hown6 [] _ rfl (.inr ⟨⟨g, m, none⟩, _, rfl, fun j y h => by simp at h⟩) (by have := HM.out; simp; omega) (by omega) ?_; intro v7 w7 hown7 hg7; have hB7 := below_ownS hB6 hown6 hg7 hsz6))
                    go_round
                    case rel => exact ⟨k + 1, _, by omega, by go_num, hown7.mono (by omega), by simp [hql, hdl]; omega, Lib.hid (by rw [HS3.out]; first | (simp; done) | (rw [show O.drop m = [] from List.drop_of_length_le (by rw [HM.out]; omega)]; simp)), hBW.trans ((hBd2.trans (hB7.mono hsz4)).mono hsz)⟩
                    case measure => simp [intOf]; omega
              · have hcp := keep_cell (hocs p z hz) hBd
                have hpi : (m : Int) - 1 = p := by omega
                have hqpos : (0 : Int) < m := by omega
                have hpm : (p : Int) < m := by omega
                have hzz : (z == x) = false := by simp [hzx]
                have hw0 : IntKind.i64.wrap ((m : Int) - 1) = (p : Int) := by rw [hpi]; exact IntWalk.i64_in _ (by omega)
                have hm1 : m ≤ 1000 := by omega
                have hcellx := keep_cell hcell hBd
                have hw0p : IntKind.i64.wrap (p : Int) = (p : Int) := IntWalk.i64_in _ (by omega)
                have hqpn : 0 < m := by omega
                have hqpd : decide (0 < m) = true := by simp; omega
                clear hz hzx hqp
                go_wp2_with fail
                go_quiet (fail)
                have hBd2 := bdrewN hBd nq
                obtain ⟨w4, hw4⟩ : ∃ w4, w4 = wd.drewN nq := ⟨_, rfl⟩
                rw [← hw4] at hBd2 ⊢
                clear hw4
                have hcell4 := keep_cell hcell hBd2
                have hsz4 : wo.heap.size ≤ w4.heap.size := hBd2.size
                have hql : (O.take m).length = m := by rw [List.length_take, HM.out]; omega
                have hdl : (O.drop m).length = m - m := by rw [List.length_drop, HM.out]
                · have hoc4 : ∀ (j : Nat) (y : List UInt8), O[j]? = some y → w4.cell? ⟨g, j, none⟩ = some (.string ⟨y.toArray⟩) := fun j y h => keep_cell (hocs j y h) hBd2
                  have hsrc1 : SrcS w4 (.slice (some ⟨g, 0, none⟩) m oc) (O.take m) := srcS_of hql (fun j y h => by
                    rw [List.getElem?_take] at h
                    split at h
                    · rw [addr_add, Nat.zero_add]; exact hoc4 j y h
                    · cases h)
                  have hsrc3 : ∀ w6, Below w4.heap.size w4 w6 → SrcS w6 (.slice (some ⟨g, m, none⟩) (m - m) (oc - m)) (O.drop m) := fun w6 hB6 => srcS_of hdl (fun j y h => by
                    rw [List.getElem?_drop] at h
                    rw [addr_add]; exact keep_cell (hoc4 _ y h) hB6)
                  have hsrc3n : m ≤ m → ∀ w6, SrcS w6 (.slice none 0 0) (O.drop m) := fun h w6 => .inl ⟨rfl, List.drop_of_length_le (by rw [HM.out]; omega)⟩
                  have HSRC1 := Lib.hid hsrc1
                  have HSRC3 := Lib.hid hsrc3
                  have HSRC3N := Lib.hid hsrc3n
                  clear hsrc1 hsrc3 hsrc3n hoc4 hocs
                  by_cases hoq : oc = m
                  · try (exfalso; omega)
                    all_goals
                      replace hoq := hoq.symm
                      subst hoq
                      by_cases hm00 : m = 0
                      · try (exfalso; omega)
                        all_goals
                          have hO0 : O = [] := List.eq_nil_of_length_eq_zero (by rw [HM.out]; omega)
                          have HS5 := Lib.hid (show (L.take (k + 1)).foldl (insL _ _) [] = [x] by rw [HS3.out, hO0]; simp)
                          clear hO0
                          subst hm00
                          go_wp2_with (at_builtin; first
                            | (refine append_many rfl _ _ rfl w4.heap.size (.slice none 0 0) [] rfl (OwnS.nil _ _) [] _ rfl (by first | exact .inl ⟨rfl, rfl⟩ | exact .inr ⟨_, _, rfl, fun j y h => by simp at h⟩) (by simp) (Nat.le_refl _) ?_; intro v5 w5 hown5 hg5; have hB5 := below_ownS (Below.refl w4.heap.size w4) (OwnS.nil w4 w4.heap.size) hg5 (Nat.le_refl _); have hcell5 := keep_cell hcell4 hB5; have hsz5 := hB5.size)
                            | (refine append_s rfl _ _ rfl w4.heap.size _ _ rfl hown5 x rfl (by simp) (by omega) ?_; intro v6 w6 hown6 hg6; have hB6 := below_ownS hB5 hown5 hg6 hsz5; have hsz6 := hB6.size)
                            | (refine append_many rfl _ _ rfl w4.heap.size _ _ rfl hown6 [] _ rfl (by first | exact .inl ⟨rfl, rfl⟩ | exact .inr ⟨_, _, rfl, fun j y h => by simp at h⟩) (by simp) (by omega) ?_; intro v7 w7 hown7 hg7; have hB7 := below_ownS hB6 hown6 hg7 hsz6))
                          go_round
                          case rel => exact ⟨k + 1, _, by omega, by go_num, hown7.mono (by omega), by simp, Lib.hid (by rw [HS5.out]; simp), hBW.trans ((hBd2.trans (hB7.mono hsz4)).mono hsz)⟩
                          case measure => simp [intOf]; omega
                      · try (exfalso; omega)
                        all_goals
                          have hmq : m ≤ m := by omega
                          have hqm2 : (m : Int) ≤ m := by omega
                          go_wp2_with (at_builtin; first
                            | (refine append_many rfl _ _ rfl w4.heap.size (.slice none 0 0) [] rfl (OwnS.nil _ _) (O.take m) _ rfl HSRC1.out (by have := HM.out; simp; omega) (Nat.le_refl _) ?_; intro v5 w5 hown5 hg5; have hB5 := below_ownS (Below.refl w4.heap.size w4) (OwnS.nil w4 w4.heap.size) hg5 (Nat.le_refl _); have hcell5 := keep_cell hcell4 hB5; have hsz5 := hB5.size)
                            | (refine append_s rfl _ _ rfl w4.heap.size _ _ rfl hown5 x rfl (by have := HM.out; simp; omega) (by omega) ?_; intro v6 w6 hown6 hg6; have hB6 := below_ownS hB5 hown5 hg6 hsz5; have hsz6 := hB6.size)
                            | (refine append_many rfl _ _ rfl w4.heap.size _ _ rfl hown6 [] _ rfl (by first | exact .inl ⟨rfl, rfl⟩ | exact .inr ⟨_, _, rfl, fun j y h => by simp at h⟩) (by have := HM.out; simp; omega) (by omega) ?_; intro v7 w7 hown7 hg7; have hB7 := below_ownS hB6 hown6 hg7 hsz6))
                          go_round
                          case rel => exact ⟨k + 1, _, by omega, by go_num, hown7.mono (by omega), by simp [hql, hdl]; omega, Lib.hid (by rw [HS3.out]; first | (simp; done) | (rw [show O.drop m = [] from List.drop_of_length_le (by rw [HM.out]; omega)]; simp)), hBW.trans ((hBd2.trans (hB7.mono hsz4)).mono hsz)⟩
                          case measure => simp [intOf]; omega
                  · have hoq2 : ¬ oc - m = 0 := by omega
                    have hqo : (m : Int) ≤ oc := by omega
                    have hqm2 : (m : Int) ≤ m := by omega
                    go_wp2_with (at_builtin; first
                      | (refine append_many rfl _ _ rfl w4.heap.size (.slice none 0 0) [] rfl (OwnS.nil _ _) (O.take m) _ rfl HSRC1.out (by have := HM.out; simp; omega) (Nat.le_refl _) ?_; intro v5 w5 hown5 hg5; have hB5 := below_ownS (Below.refl w4.heap.size w4) (OwnS.nil w4 w4.heap.size) hg5 (Nat.le_refl _); have hcell5 := keep_cell hcell4 hB5; have hsz5 := hB5.size)
                      | (refine append_s rfl _ _ rfl w4.heap.size _ _ rfl hown5 x rfl (by have := HM.out; simp; omega) (by omega) ?_; intro v6 w6 hown6 hg6; have hB6 := below_ownS hB5 hown5 hg6 hsz5; have hsz6 := hB6.size)
                      | (refine append_many rfl _ _ rfl w4.heap.size _ _ rfl hown6 (O.drop m) _ rfl (HSRC3.out _ hB6) (by have := HM.out; simp; omega) (by omega) ?_; intro v7 w7 hown7 hg7; have hB7 := below_ownS hB6 hown6 hg7 hsz6)
                      | (refine append_many rfl _ _ rfl w4.heap.size _ _ rfl hown6 [] _ rfl (.inr ⟨⟨g, m, none⟩, _, rfl, fun j y h => by simp at h⟩) (by have := HM.out; simp; omega) (by omega) ?_; intro v7 w7 hown7 hg7; have hB7 := below_ownS hB6 hown6 hg7 hsz6))
                    go_round
                    case rel => exact ⟨k + 1, _, by omega, by go_num, hown7.mono (by omega), by simp [hql, hdl]; omega, Lib.hid (by rw [HS3.out]; first | (simp; done) | (rw [show O.drop m = [] from List.drop_of_length_le (by rw [HM.out]; omega)]; simp)), hBW.trans ((hBd2.trans (hB7.mono hsz4)).mono hsz)⟩
                    case measure => simp [intOf]; omega
    · obtain rfl : k = n := by omega
      have hR := HS.out
      rw [List.take_of_length_le (by rw [HN.out]; exact Nat.le_refl _), ← HF.out] at hR
      subst hR
      have H6 := Lib.hid (fun x (h : x ∈ O) => H5.out x (lib_mem back once L x (HRL.out ▸ h)))
      have hst := hO.strs (fun x hx => by have := H6.out x hx; unfold maxLen; omega)
      obtain ⟨a1, cap1, hv1, hcap1, hat1⟩ := hst.shape
      obtain ⟨m, hm⟩ : ∃ m, O.length = m := ⟨_, rfl⟩
      have HM := Lib.hid hm
      rw [hm] at hv1 hat1 hOk
      subst hv1
      obtain ⟨wo, hwo⟩ : ∃ wo : World, wo = wr := ⟨_, rfl⟩
      subst hwo
      clear hm hst hO hat HS hcap hcap1
      go_wp2_with fail
      go_loopw [12, 13] (fun t i W => ∃ (j : Nat) (q : List UInt8), j ≤ m ∧ i = .int .i64 j ∧ t = .string ⟨q.toArray⟩ ∧ q.length ≤ 501 * j ∧ Hid (q = joinL (O.take j)) ∧ Below wo.heap.size wo W) (fun _ i _ => m - (intOf i).toNat)
      case atStart => exact ⟨0, [], by omega, rfl, rfl, by simp, Lib.hid (by simp [joinL]), Below.refl _ _⟩
      case round =>
        obtain ⟨j, q, hj, rfl, rfl, hq, HQ, hBq⟩ := hrel
        by_cases hjm : j < m
        · obtain ⟨b, off, rfl, hb, hcs⟩ := hat1 (by omega)
          obtain ⟨x, hx⟩ : ∃ x, O[j]? = some x := ⟨O[j]'(by rw [HM.out]; exact hjm), List.getElem?_eq_getElem _⟩
          have hcell := keep_cell (hcs j x hx) hBq
          have hxl := H6.out x (List.mem_of_getElem? hx)
          have HJ := Lib.hid (show q ++ (x ++ [10]) = joinL (O.take (j + 1)) by rw [joinL_take hx, HQ.out])
          clear hcs hx HQ
          go_wp2_with fail
          go_round
          case rel => exact ⟨j + 1, _, by omega, by go_num, rfl, by simp <;> omega, Lib.hid (by rw [← HJ.out] <;> simp), hBq⟩
          case measure => simp [intOf]; omega
        · obtain rfl : j = m := by omega
          have HQ2 := Lib.hid (show joinL O = q by rw [HQ.out, List.take_of_length_le (by rw [HM.out]; exact Nat.le_refl _)])
          clear hat1
          go_wp2_with fail
          go_ret
          rw [HQ2.out]
          exact ⟨rfl, below_tr hBB hBq⟩
end Go.Proofs.YtmhgehnkhhlbkaaGreatDoor
