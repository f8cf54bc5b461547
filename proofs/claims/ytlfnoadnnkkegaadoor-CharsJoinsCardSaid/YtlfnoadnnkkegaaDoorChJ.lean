/- Chars: joins; the law CharsJoins. -/
import Derived.Test.YtlfnoadnnkkegaaDoorChC
namespace Go.Proofs.YtlfnoadnnkkegaaDoor
open Go.RowKit

/-- joined, element by element -/
def jn (sep : List UInt8) : List (List UInt8) → List UInt8
  | [] => []
  | x :: r => x ++ (r.map (sep ++ ·)).flatten
theorem jn_eq (sep : List UInt8) (L : List (List UInt8)) : Lib.join L sep = jn sep L := by
  cases L with
  | nil => rfl
  | cons x r => rw [Lib.join_cons]; rfl
theorem jn_snoc (sep : List UInt8) (L : List (List UInt8)) (x : List UInt8) (h : L ≠ []) : jn sep (L ++ [x]) = jn sep L ++ sep ++ x := by
  cases L with
  | nil => exact absurd rfl h
  | cons y r => simp [jn, List.append_assoc]
theorem jn_len (sep : List UInt8) (m : Nat) (hs : sep.length ≤ m) : ∀ L : List (List UInt8), (∀ x ∈ L, x.length ≤ m) → (jn sep L).length ≤ 2 * m * L.length
  | [], _ => by simp [jn]
  | x :: r, h => by
    have hx := h x (by simp)
    have hr : ∀ q : List (List UInt8), (∀ x ∈ q, x.length ≤ m) → ((q.map (sep ++ ·)).flatten).length ≤ 2 * m * q.length := by
      intro q hq
      induction q with
      | nil => simp
      | cons y q ih =>
        have hy := hq y (by simp)
        have := ih (fun x hx => hq x (by simp [hx]))
        simp only [List.map_cons, List.flatten_cons, List.length_append, List.length_cons]
        rw [Nat.mul_add]; omega
    have := hr r (fun x hx => h x (by simp [hx]))
    simp only [jn, List.length_append, List.length_cons]
    rw [Nat.mul_add]; omega
set_option maxHeartbeats 800000 in
theorem rjoin_any (sep : List UInt8) (hsep : sep.length ≤ 200) (v : Value) (L : List (List UInt8)) (hL : L.length ≤ 50) (hx : ∀ x ∈ L, x.length ≤ 200) (w : World) (hS : Strs w v L) :
    Calls Tryd.prog 23 #[.string ⟨sep.toArray⟩, v] w fun e w' => e = .returned (.string ⟨(jn sep L).toArray⟩) ∧ w = w' := by
  obtain ⟨a, cap, rfl, hcap, hcell⟩ := hS.shape
  have hlen := hS.len
  unfold maxLen at hlen
  clear hS
  go_enter Tryd.func23, Tryd.ntmps23
  go_wp2_with fail
  go_loop [5, 6] (fun o i => ∃ k : Nat, k ≤ L.length ∧ i = .int .i64 k ∧ o = .string ⟨(jn sep (L.take k)).toArray⟩) (fun _ i => L.length - (intOf i).toNat)
  case atStart => exact ⟨0, by omega, rfl, rfl⟩
  case round =>
    obtain ⟨k, hk, rfl, rfl⟩ := hrel
    have hjl := jn_len sep 200 hsep (L.take k) (fun x hx' => hx x (List.mem_of_mem_take hx'))
    have hjl2 : (jn sep (L.take k)).length ≤ 20000 := by
      have : (L.take k).length ≤ 50 := by simp; omega
      omega
    clear hjl
    by_cases hkl : k < L.length
    · obtain ⟨b, off, rfl, hb, hc⟩ := hcell (by omega)
      obtain ⟨x, hxk⟩ : ∃ x, L[k]? = some x := ⟨L[k], by simp [hkl]⟩
      have hcx := hc k x hxk
      have hxl := hx x (List.mem_of_getElem? hxk)
      have htk : L.take (k + 1) = L.take k ++ [x] := by rw [List.take_add_one, hxk]; rfl
      by_cases hk0 : k = 0
      · have hk1 : ¬ (0 : Int) < k := by omega
        have hn := Lib.hid (show jn sep (L.take (k + 1)) = jn sep (L.take k) ++ x by rw [htk, hk0]; simp [jn])
        clear htk hxk hc hcell hx hk0
        generalize jn sep (L.take k) = j at *
        go_wp2_with fail
        go_round
        case rel => exact ⟨k + 1, by omega, by go_num, by rw [hn.out]⟩
        case measure => simp [intOf]; omega
      · have hk1 : (0 : Int) < k := by omega
        have hne : L.take k ≠ [] := by
          intro h; have h2 := congrArg List.length h; rw [List.length_take, List.length_nil] at h2; omega
        have hn := Lib.hid (show jn sep (L.take (k + 1)) = jn sep (L.take k) ++ sep ++ x by rw [htk, jn_snoc sep _ x hne])
        clear htk hxk hc hcell hx hne
        generalize jn sep (L.take k) = j at *
        go_wp2_with fail
        go_round
        case rel => exact ⟨k + 1, by omega, by go_num, by rw [hn.out, List.append_assoc]⟩
        case measure => simp [intOf]; omega
    · obtain rfl : k = L.length := by omega
      go_wp2_with fail
      go_ret
      exact ⟨rfl, rfl⟩
set_option maxHeartbeats 1600000 in
theorem cjoins_any (w : World) (sep : List UInt8) (hs : sep.length ≤ maxLen) (v : Value) (L : List (List UInt8)) (hS : Strs w v L) (hE : Env w) :
    Calls Tryd.prog 6 #[.string ⟨sep.toArray⟩, v] w fun e w' => e = .returned (.bool true) ∧ Below w.heap.size w w' := by
  have hS' := Lib.hid hS
  obtain ⟨a, cap, rfl, hcap, hcell⟩ := hS.shape
  have hlen := hS.len
  have hxs := hS.ok
  unfold maxLen at hlen hs
  have haw := Lib.hid (awake_any w hE)
  clear hS
  by_cases h1 : (200 : Int) < sep.length
  · go_enter Tryd.func6, Tryd.ntmps6
    go_wp2_with (go_at_call 13; refine haw.out.mono ?_; rintro e w' ⟨rfl, hB⟩)
    go_ret
    exact ⟨rfl, hB⟩
  by_cases h2 : (50 : Int) < L.length
  · go_enter Tryd.func6, Tryd.ntmps6
    go_wp2_with (go_at_call 13; refine haw.out.mono ?_; rintro e w' ⟨rfl, hB⟩)
    go_ret
    exact ⟨rfl, hB⟩
  go_enter Tryd.func6, Tryd.ntmps6
  go_wp2_with fail
  go_loop [5] (fun i => ∃ k : Nat, k ≤ L.length ∧ i = .int .i64 k ∧ ∀ (j : Nat) (x : List UInt8), j < k → L[j]? = some x → x.length ≤ 200) (fun i => L.length - (intOf i).toNat)
  case atStart => exact ⟨0, by omega, rfl, by intro j x h; omega⟩
  case round =>
    obtain ⟨k, hk, rfl, hok⟩ := hrel
    have hok' := Lib.hid hok
    clear hok
    by_cases hkl : k < L.length
    · obtain ⟨b, off, rfl, hb, hc⟩ := hcell (by omega)
      obtain ⟨x, hxk⟩ : ∃ x, L[k]? = some x := ⟨L[k], by simp [hkl]⟩
      have hcx := hc k x hxk
      have hxl := hxs k x hxk
      unfold maxLen at hxl
      have hxk' := Lib.hid hxk
      clear hc hcell hxk hxs
      by_cases hx2 : (200 : Int) < x.length
      · go_wp2_with (go_at_call 13; refine haw.out.mono ?_; rintro e w' ⟨rfl, hB⟩)
        go_ret
        exact ⟨rfl, hB⟩
      · have hn := Lib.hid (show ∀ (j : Nat) (y : List UInt8), j < k + 1 → L[j]? = some y → y.length ≤ 200 from fun j y hj hy => by
          rcases Nat.lt_or_ge j k with h' | h'
          · exact hok'.out j y h' hy
          · obtain rfl : j = k := by omega
            rw [hxk'.out] at hy; cases hy; omega)
        go_wp2_with fail
        go_round
        case rel => exact ⟨k + 1, by omega, by go_num, hn.out⟩
        case measure => simp [intOf]; omega
    · obtain rfl : k = L.length := by omega
      have hx200 : ∀ x ∈ L, x.length ≤ 200 := fun x hx => by
        obtain ⟨j, hj, rfl⟩ := List.getElem_of_mem hx
        exact hok'.out j L[j] hj (by simp [hj])
      have hsep : sep.length ≤ 200 := by omega
      have hjl := jn_len sep 200 hsep L hx200
      have hjoin := Lib.hid (join_at (sep := sep) w hS'.out (jn_eq sep L) (by omega) (by omega))
      have hrj := Lib.hid (fun W (h : Strs W (.slice a L.length cap) L) => rjoin_any sep hsep _ L (by omega) hx200 W h)
      clear hx200 hjl hcell hxs haw
      go_wp2_with fail
      refine hjoin.out.mono ?_
      rintro e w1 ⟨rfl, hB1⟩
      go_wp2_with fail
      refine (hrj.out w1 (hS'.out.below hB1)).mono ?_
      rintro e w2 ⟨rfl, rfl⟩
      have ha := Lib.hid (awake_any w1 (hE.below hB1))
      go_wp2_with fail
      refine ha.out.mono ?_
      rintro e w2 ⟨rfl, hB2⟩
      go_wp2_with fail
      go_ret
      exact ⟨rfl, hB1.trans (hB2.mono hB1.size)⟩
end Go.Proofs.YtlfnoadnnkkegaaDoor
