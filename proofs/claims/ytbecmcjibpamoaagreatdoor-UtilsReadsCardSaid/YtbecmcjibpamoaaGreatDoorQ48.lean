/- UrPA UrPB UrPC UrPD UrPE UtW -/
import Derived.Test.YtbecmcjibpamoaaGreatDoorQ37
import Derived.Lib.ItoaNum
import Derived.Test.YtbecmcjibpamoaaGreatDoorQ34
import Derived.Test.YtbecmcjibpamoaaGreatDoorQ40
import Derived.Lib.AppendIntMem
import Derived.Lib.BufferKept
import Derived.Test.YtbecmcjibpamoaaGreatDoorQ32
import Derived.Test.YtbecmcjibpamoaaGreatDoorQ01
set_option linter.unusedVariables false
set_option linter.unusedSimpArgs false
set_option linter.deprecated false
set_option linter.unnecessarySimpa false
namespace Go.Proofs.YtbecmcjibpamoaaGreatDoor
open Go.RowKit IntWalk
def Fs.childS (s : Fs) (i : Int) (t : List UInt8) : Int := match s.dr i with
  | some d => (d.name t).getD 0
  | none => 0
def Fs.fileS (s : Fs) (i : Int) : List UInt8 := if fileE (s.fld Nd.kind i) = 0 then (match s.nd i with
  | some x => s.bytes x 0 x.size.toNat
  | none => []) else []
def Fs.entS (s : Fs) (go : Int → List UInt8 → List UInt8) (dir : Int) (path t : List UInt8) : List UInt8 :=
  if s.fld Nd.kind (s.childS dir t) = 2 then (path ++ [47] ++ t ++ [47, 10]) ++ go (s.childS dir t) (path ++ [47] ++ t)
  else if s.fld Nd.kind (s.childS dir t) = 3 then path ++ [47] ++ t ++ [32, 45, 62, 32] ++ s.link (s.childS dir t) ++ [10]
  else path ++ [47] ++ t ++ [32] ++ Lib.itoa (s.fileS (s.childS dir t)).length ++ [10] ++ s.fileS (s.childS dir t) ++ [10]
def Fs.printS (s : Fs) : Nat → Int → List UInt8 → List UInt8
  | 0, _, _ => []
  | f + 1, dir, path => (s.listS dir).flatMap (s.entS (s.printS f) dir path)
structure Rk (s : Fs) (b : Nat) (rk : Int → Nat) : Prop where
  live : ∀ i d t x, s.dr i = some d → d.name t = some x → s.fld Nd.kind x ≠ 0
  low : ∀ i d t x, s.dr i = some d → d.name t = some x → rk x < rk i
  inj : ∀ i d t t' x x', s.dr i = some d → d.name t = some x → d.name t' = some x' → rk x = rk x' → t = t'
  lo1 : ∀ i d, s.dr i = some d → b ≤ rk i
  lo2 : ∀ i d t x, s.dr i = some d → d.name t = some x → b ≤ rk x
def powS : List Nat → Nat
  | [] => 0
  | a :: l => 2 ^ a + powS l
theorem powS_perm {l l' : List Nat} (h : l.Perm l') : powS l = powS l' := by
  induction h with
  | nil => rfl
  | cons a _ ih => simp only [powS, ih]
  | swap a b l => simp only [powS]; omega
  | trans _ _ ih1 ih2 => exact ih1.trans ih2
theorem powS_le : ∀ (m : Nat) (l : List Nat), l.Nodup → (∀ a ∈ l, a < m) → powS l + 1 ≤ 2 ^ m
  | 0, l, _, h => by
    cases l with
    | nil => simp [powS]
    | cons a l => exact absurd (h a (by simp)) (by omega)
  | m + 1, l, hn, h => by
    have h2 : 2 ^ (m + 1) = 2 ^ m + 2 ^ m := by rw [Nat.pow_succ]; omega
    by_cases hm : m ∈ l
    · have hp := List.perm_cons_erase hm
      have hn2 : (m :: l.erase m).Nodup := hp.nodup_iff.1 hn
      have hne := List.nodup_cons.1 hn2
      have := powS_le m (l.erase m) hne.2 (fun a ha => by
        have h1 := h a (List.mem_of_mem_erase ha)
        have h3 : a ≠ m := fun e => hne.1 (e ▸ ha)
        omega)
      rw [powS_perm hp]
      simp only [powS]
      omega
    · have := powS_le m l hn (fun a ha => by
        have h1 := h a ha
        have h3 : a ≠ m := fun e => hm (e ▸ ha)
        omega)
      omega
theorem flatP_len {f : List UInt8 → List UInt8} {g : List UInt8 → Nat} {K : Nat} : ∀ l : List (List UInt8), (∀ t ∈ l, (f t).length ≤ K * 2 ^ g t) → (l.flatMap f).length ≤ K * powS (l.map g)
  | [], _ => by simp
  | a :: l, h => by
    have h1 := h a (by simp)
    have h2 := flatP_len l (fun t ht => h t (by simp [ht]))
    simp only [List.flatMap_cons, List.length_append, List.map_cons, powS, Nat.mul_add]
    omega
theorem dec_len : ∀ (k u : Nat), u < 10 ^ (k + 1) → (Lib.decDigits u).length ≤ k + 1
  | 0, u, h => by
    rw [Lib.decDigits, dif_pos (by simpa using h)]; simp
  | k + 1, u, h => by
    rw [Lib.decDigits]
    split
    · simp
    · rw [Nat.pow_succ] at h
      have := dec_len k (u / 10) (by omega)
      simp only [List.length_append, List.length_cons, List.length_nil]
      omega
theorem itoa_len (n : Nat) (hn : n ≤ 4096) : (Lib.itoa (n : Int)).length ≤ 20 := by
  unfold Lib.itoa
  rw [if_neg (by omega)]
  have := dec_len 3 n (by omega)
  simp only [Int.toNat_natCast]
  omega
section
variable {s : Fs}
theorem file_len (hW : s.Whole) (i : Int) : (s.fileS i).length ≤ 4096 := by
  unfold Fs.fileS
  split
  · cases hn : s.nd i with
    | none => simp
    | some x =>
      have := (hW i x hn).2
      simp [Fs.bytes]
      omega
  · simp
theorem link_len (i : Int) : (s.link i).length ≤ 256 := by
  unfold Fs.link
  cases s.nd i with
  | none => simp
  | some x => simp [Fs.bytes]; omega
theorem list_child (hok : s.Ok) (hT : Tr s) {i : Int} {t : List UInt8} (ht : t ∈ s.listS i) : ∃ d x, s.dr i = some d ∧ d.name t = some x ∧ s.childS i t = x := by
  unfold Fs.listS at ht
  cases hn : s.nd i with
  | none => rw [hn] at ht; cases ht
  | some x =>
    rw [hn] at ht
    dsimp only at ht
    split at ht
    · cases hd : s.dr i with
      | none => rw [hd] at ht; cases ht
      | some d =>
        rw [hd] at ht
        obtain ⟨e, he, rfl⟩ := List.mem_map.1 ((sortS_perm _).mem_iff.1 ht)
        obtain ⟨n, hm⟩ := dirE_mem hd
        have hno := hok.names _ hm
        obtain ⟨t, c, h1, h2⟩ := hno.ints e he
        have hne : nameOf e = t := by unfold nameOf; rw [h1]
        rw [hne]
        rcases hno.name t with ⟨q1, _⟩ | ⟨n', _, q2⟩
        · exact absurd h1 (getE_none.1 q1 e he)
        · refine ⟨d, n', rfl, q2 d.parent, ?_⟩
          unfold Fs.childS
          rw [hd]
          show (d.name t).getD 0 = n'
          rw [show d.name t = some n' from q2 d.parent]; rfl
    · cases ht
def keyT : Key → List UInt8
  | .str t => t
  | _ => []
theorem list_nodup (hok : s.Ok) (i : Int) : (s.listS i).Nodup := by
  unfold Fs.listS
  cases hn : s.nd i with
  | none => exact List.nodup_nil
  | some x =>
    dsimp only
    split
    · cases hd : s.dr i with
      | none => exact List.nodup_nil
      | some d =>
        refine (sortS_perm _).nodup_iff.2 ?_
        obtain ⟨n, hm⟩ := dirE_mem hd
        have hno := hok.names _ hm
        have hk : (d.names.es.map (·.1)).Nodup := by
          have := hno.good.keys
          unfold kb at this
          rw [List.map_map] at this
          exact this
        have e1 : d.names.es.map nameOf = (d.names.es.map (·.1)).map keyT := by
          rw [List.map_map]
          refine List.map_congr_left fun e he => ?_
          obtain ⟨t, c, h1, h2⟩ := hno.ints e he
          show nameOf e = keyT e.1
          unfold nameOf
          rw [h1]; rfl
        show (d.names.es.map nameOf).Nodup
        rw [e1]
        refine nodup_map_on (fun a ha b hb e => ?_) hk
        obtain ⟨ea, hea, rfl⟩ := List.mem_map.1 ha
        obtain ⟨eb, heb, rfl⟩ := List.mem_map.1 hb
        obtain ⟨t, c, h1, _⟩ := hno.ints ea hea
        obtain ⟨t', c', h1', _⟩ := hno.ints eb heb
        rw [h1, h1'] at e ⊢
        exact congrArg Key.str e
    · exact List.nodup_nil
theorem print_len (hok : s.Ok) (hT : Tr s) (hW : s.Whole) {b : Nat} {rk : Int → Nat} (hR : Rk s b rk) : ∀ (f : Nat) (dir : Int) (path : List UInt8), path.length + 34 * rk dir ≤ 1100 → (s.printS f dir path).length + 6000 ≤ 6000 * 2 ^ rk dir
  | 0, dir, path, _ => by
    have := Nat.one_le_two_pow (n := rk dir)
    show 0 + 6000 ≤ _
    omega
  | f + 1, dir, path, hp => by
    have hent : ∀ t ∈ s.listS dir, (s.entS (s.printS f) dir path t).length ≤ 6000 * 2 ^ rk (s.childS dir t) := fun t ht => by
      obtain ⟨d, x, hd, hx, hc⟩ := list_child hok hT ht
      have hlow := hR.low dir d t x hd hx
      have htl := (list_len hT dir).2 t ht
      rw [hc]
      have hpw := Nat.one_le_two_pow (n := rk x)
      unfold Fs.entS
      rw [hc]
      split
      · have ih := print_len hok hT hW hR f x (path ++ [47] ++ t) (by simp; omega)
        simp only [List.length_append, List.length_cons, List.length_nil]
        omega
      · split
        · have := link_len (s := s) x
          simp only [List.length_append, List.length_cons, List.length_nil]
          omega
        · have h1 := file_len hW x
          have h2 := itoa_len _ h1
          simp only [List.length_append, List.length_cons, List.length_nil]
          omega
    have hsum := powS_le (rk dir) ((s.listS dir).map fun t => rk (s.childS dir t)) (nodup_map_on (fun t ht t' ht' e => by
        obtain ⟨d, x, hd, hx, hc⟩ := list_child hok hT ht
        obtain ⟨d', x', hd', hx', hc'⟩ := list_child hok hT ht'
        rw [hd] at hd'
        cases hd'
        rw [hc, hc'] at e
        exact hR.inj dir d t t' x x' hd hx hx' e) (list_nodup hok dir)) (fun a ha => by
        obtain ⟨t, ht, rfl⟩ := List.mem_map.1 ha
        obtain ⟨d, x, hd, hx, hc⟩ := list_child hok hT ht
        rw [hc]
        exact hR.low dir d t x hd hx)
    have hfl := flatP_len (K := 6000) (s.listS dir) hent
    show ((s.listS dir).flatMap _).length + 6000 ≤ _
    have : 6000 * (powS ((s.listS dir).map fun t => rk (s.childS dir t)) + 1) ≤ 6000 * 2 ^ rk dir := Nat.mul_le_mul_left _ hsum
    omega
end
end Go.Proofs.YtbecmcjibpamoaaGreatDoor
namespace Go.Proofs.YtbecmcjibpamoaaGreatDoor
open Go.RowKit IntWalk
def Ranked (s : Fs) (b : Nat) : Prop := ∃ rk, Rk s b rk ∧ rk 1 = 29
def rk0 (i : Int) : Nat := 30 - i.toNat
def rkB (s : Fs) : Bool := s.dirs.all fun e => decide (20 ≤ rk0 e.1) && e.2.1.names.es.all fun x => match x.2.1 with
  | .int .i64 c => s.fld Nd.kind c != 0 && decide (rk0 c < rk0 e.1) && decide (20 ≤ rk0 c) && e.2.1.names.es.all fun y => match y.2.1 with
    | .int .i64 c' => rk0 c != rk0 c' || nameOf x == nameOf y
    | _ => true
  | _ => true
theorem rkB_ok : rkB beginS = true := by kernel_rfl
theorem begin_rk : Ranked beginS 20 := by
  have h := rkB_ok
  unfold rkB at h
  rw [List.all_eq_true] at h
  have hd : ∀ i d, beginS.dr i = some d → 20 ≤ rk0 i ∧ ∀ t x, d.name t = some x → beginS.fld Nd.kind x ≠ 0 ∧ rk0 x < rk0 i ∧ 20 ≤ rk0 x ∧ ∀ t' x', d.name t' = some x' → rk0 x = rk0 x' → t = t' := fun i d hi => by
    obtain ⟨n, hn⟩ := dirE_mem hi
    have h1 := h _ hn
    rw [Bool.and_eq_true, List.all_eq_true] at h1
    have hmem : ∀ t x, d.name t = some x → ∃ m, ((Key.str t, Value.int .i64 x, m) : Key × Value × Nat) ∈ d.names.es := fun t x hx => by
      unfold Dr.name at hx
      cases hg : d.names.get (.str t) with
      | none => rw [hg] at hx; cases hx
      | some v =>
        rw [hg] at hx
        obtain ⟨m, hm⟩ := getE_mem hg
        refine ⟨m, ?_⟩
        have : v = .int .i64 x := by
          cases v with
          | int k z => cases k <;> first | (cases hx; rfl) | cases hx
          | _ => cases hx
        rw [← this]; exact hm
    refine ⟨of_decide_eq_true h1.1, fun t x hx => ?_⟩
    obtain ⟨m, hm⟩ := hmem t x hx
    have h2 := h1.2 _ hm
    dsimp only at h2
    simp only [Bool.and_eq_true, List.all_eq_true, bne_iff_ne, decide_eq_true_eq] at h2
    obtain ⟨⟨⟨q1, q2⟩, q3⟩, q4⟩ := h2
    refine ⟨q1, q2, q3, fun t' x' hx' e => ?_⟩
    obtain ⟨m', hm'⟩ := hmem t' x' hx'
    have h3 := q4 _ hm'
    dsimp only at h3
    rw [Bool.or_eq_true] at h3
    rcases h3 with h3 | h3
    · rw [bne_iff_ne] at h3; exact absurd e h3
    · exact eq_of_beq h3
  exact ⟨rk0, ⟨fun i d t x e1 e2 => ((hd i d e1).2 t x e2).1, fun i d t x e1 e2 => ((hd i d e1).2 t x e2).2.1, fun i d t t' x x' e1 e2 e3 e4 => ((hd i d e1).2 t x e2).2.2.2 t' x' e3 e4, fun i d e1 => (hd i d e1).1, fun i d t x e1 e2 => ((hd i d e1).2 t x e2).2.2.1⟩, rfl⟩
end Go.Proofs.YtbecmcjibpamoaaGreatDoor
namespace Go.Proofs.YtbecmcjibpamoaaGreatDoor
open Go.RowKit IntWalk
theorem FsIn.kept {W0 W W' : World} {s : Fs} {lay : FId → Nat} (h : FsIn W0 s lay W) (hb : Below W.heap.size W W') : FsIn W0 s lay W' :=
  ⟨⟨h.is.lies.kept fun i hi => hb.block _ (h.is.lies.owns_lt ⟨i, hi, rfl⟩), h.is.ok⟩, h.low, h.below.trans (hb.mono h.below.size), h.whole⟩
theorem row_form {w : World} {base n size : Nat} {e : TypeId} {v : Value} {xs : List Value} (h : w.ownsRow base e size v n xs) : ∃ a c, v = .slice a n c := by
  rcases h.2 with ⟨rfl, hn⟩ | ⟨g, cap, cur, rfl, _⟩
  · exact ⟨none, 0, by rw [hn]⟩
  · exact ⟨_, cap, rfl⟩
theorem r_alloc_at (w : World) (o : Obj) : (w.alloc o).heap[w.heap.size]? = some o := by show (w.heap.push o)[w.heap.size]? = some o; simp
section
variable {W0 W W' w w' : World} {s s' : Fs} {lay lay' : FId → Nat}
theorem Step.below (h : FsIs s lay W) (k : Step s lay W s lay W') : Below W.heap.size W W' :=
  ⟨k.turned.os, k.turned.tape, k.turned.output, k.turned.size, fun j hj => by
    by_cases q : Owns (s.obj lay) lay j
    · obtain ⟨i, hi, rfl⟩ := q
      cases ho : s.obj lay i with
      | none => exact absurd ho hi
      | some o => rw [k.is.lies.at_ i o ho, h.lies.at_ i o ho]
    · exact k.turned.block j hj q⟩
end
structure RowS (W : World) (g cap : Nat) (cur : Array Value) : Prop where
  at_ : W.heap[g]? = some (.cells cur 9 (0, 0))
  size : cur.size = cap
theorem RowS.cell {W : World} {g cap : Nat} {cur : Array Value} (h : RowS W g cap cur) {j : Nat} {v : Value} (hv : cur[j]? = some v) : W.cell? ⟨g, j, none⟩ = some v := by simp [World.cell?, h.at_, hv]
theorem row_cur {W : World} {base g cap : Nat} {l : List (List UInt8)} (h : W.ownsRow base 9 1 (.slice (some ⟨g, 0, none⟩) l.length cap) l.length (l.map fun y => Value.string ⟨y.toArray⟩)) : ∃ cur, RowS W g cap cur ∧ base ≤ g ∧ l.length ≤ cap ∧ cap ≤ maxLen ∧ ∀ (t : Nat) (y : List UInt8), l[t]? = some y → cur[t]? = some (.string ⟨y.toArray⟩) := by
  obtain ⟨h3, hr⟩ := h
  rcases hr with ⟨e, hn⟩ | ⟨g', cap', cur, e, hbg, hg, hnc, hcm, hcs, htk⟩
  · cases e
  · cases e
    refine ⟨cur, ⟨hg, by omega⟩, hbg, hnc, hcm, fun t y ht => ?_⟩
    have hjl : t < l.length := (List.getElem?_eq_some_iff.1 ht).1
    have h1 : (cur.toList.take (l.length * 1))[t]? = some (Value.string ⟨y.toArray⟩) := by rw [htk, List.getElem?_map, ht]; rfl
    rw [List.getElem?_take_of_lt (by omega), Array.getElem?_toList] at h1
    exact h1
theorem row_in {W : World} {base : Nat} {v : Value} {L : List (List UInt8)} (h : W.ownsRow base 9 1 v L.length (L.map fun y => Value.string ⟨y.toArray⟩)) : ∃ a c, v = .slice a L.length c ∧ (0 < L.length → ∃ g, a = some ⟨g, 0, none⟩ ∧ base ≤ g ∧ g < W.heap.size ∧ ∀ (t : Nat) (y : List UInt8), L[t]? = some y → W.cell? ⟨g, t, none⟩ = some (.string ⟨y.toArray⟩)) := by
  rcases h.2 with ⟨rfl, hn⟩ | ⟨g, cap, cur, rfl, hbg, hg, hnc, hcm, hcs, htk⟩
  · exact ⟨none, 0, by rw [hn], fun q => by omega⟩
  · refine ⟨_, cap, rfl, fun _ => ⟨g, rfl, hbg, (Array.getElem?_eq_some_iff.1 hg).1, fun t y ht => ?_⟩⟩
    have hjl : t < L.length := (List.getElem?_eq_some_iff.1 ht).1
    have h1 : (cur.toList.take (L.length * 1))[t]? = some (Value.string ⟨y.toArray⟩) := by rw [htk, List.getElem?_map, ht]; rfl
    rw [List.getElem?_take_of_lt (by omega), Array.getElem?_toList] at h1
    unfold World.cell?
    dsimp only
    rw [hg]
    simpa using h1
theorem EnvG.next {W W' : World} (h : EnvG W) (hb : Below W.heap.size W W') : EnvG W' := by
  obtain ⟨m, hm⟩ := h.maxlen
  exact ⟨m, (hb.cell (World.block_lt_of_cell? _ _ hm)).trans hm⟩
structure EnvT (W : World) : Prop where
  g : EnvG W
  pow10 : Lib.TabIs Tryz.prog W "internal/strconv.uint64pow10" .u64 Lib.pow10Tab
theorem EnvT.next {W W' : World} (h : EnvT W) (hb : Below W.heap.size W W') : EnvT W' := ⟨h.g.next hb, tab_below gPow10 h.pow10 hb⟩
section
variable {s : Fs} {lay : FId → Nat}
theorem name_look1 {w : World} (h : FsIs s lay w) {i : Int} {d : Dr} (hd : s.dr i = some d) (nm : List UInt8) :
    (Instr.lookup 76 (.map (some (lay (.M i)))) (.string ⟨nm.toArray⟩) false).run Tryz.prog w = .ok (.int .i64 ((d.name nm).getD 0)) w := by
  have hno := names_of h hd
  have hM := h.lies.at_ (.M i) d.names.obj (by simp [Fs.obj, hd])
  have := (GMap.look (P := Tryz.prog) (k := .str nm) Tryz.underlying76 Tryz.underlying9 hno.of hM (zero_int w)).1
  simp only [Key.val] at this
  rw [this]
  rcases hno.name nm with ⟨h1, h2⟩ | ⟨n, h1, h2⟩
  · rw [h1, show d.name nm = none from h2 d.parent]; rfl
  · rw [h1, show d.name nm = some n from h2 d.parent]; rfl
theorem readlink_any (i : Int) (w : World) (h : FsIs s lay w) (hW : s.Whole) (hk : s.fld Nd.kind i = 3) :
    Calls Tryz.prog 60 #[ptrTo (lay .F), .int .i64 i] w fun e w' => e = .returned (.tuple #[.string ⟨(s.link i).toArray⟩, .int .i64 0]) ∧ Step s lay w s lay w' := by
  have HN := Lib.hid (nkind_any i w h)
  have HR := Lib.hid (read_link i w h hW (by rw [hk]; decide))
  rw [hk] at HN
  have f0 := h.f0
  clear h hk
  unfold ptrTo at *
  go_enter Tryz.func60, Tryz.ntmps60
  go_wp2_with first
    | (go_at_call 102; refine HR.out.mono ?_; rintro e w' ⟨rfl, hs⟩; have HS := Lib.hid hs; clear hs)
    | (go_at_call 36; refine HN.out.mono ?_; rintro e w' ⟨rfl, rfl⟩)
  go_ret2
  exact ⟨rfl, HS.out⟩
theorem read_file (i : Int) (w : World) (h : FsIs s lay w) (hW : s.Whole) :
    Calls Tryz.prog 61 #[ptrTo (lay .F), .int .i64 i, .int .i64 0, .int .i64 (s.fld Nd.size i)] w fun e w' => ∃ z : Int, e = .returned (.tuple #[.string ⟨(s.fileS i).toArray⟩, .int .i64 z]) ∧ Step s lay w s lay w' := by
  by_cases hk : fileE (s.fld Nd.kind i) = 0
  · cases hn : s.nd i with
    | none => unfold Fs.fld at hk; rw [hn] at hk; exact absurd hk (by decide)
    | some x =>
      obtain ⟨ht, h0, h1⟩ := hW i x hn
      have hsz : s.fld Nd.size i = x.size := by unfold Fs.fld; rw [hn]
      have hf : s.fileS i = s.bytes x 0 x.size.toNat := by unfold Fs.fileS; rw [if_pos hk, hn]
      rw [hf, hsz]
      obtain ⟨n, hn2⟩ : ∃ n : Nat, x.size = (n : Int) := ⟨x.size.toNat, by omega⟩
      by_cases hs : x.size = 0
      · have hb : s.bytes x 0 x.size.toNat = [] := by rw [hs]; rfl
        rw [hb]
        have hr := read_end i x 0 0 w h hn (by omega)
        rw [hs]
        refine (nread_file i 0 0 w h hk (R := fun w' => w = w') hr).mono ?_
        rintro e w' ⟨rfl, rfl⟩
        exact ⟨_, rfl, Step.refl h⟩
      · have hr := read_some i x 0 n w h hn ht ⟨h0, h1⟩ (by omega) (by omega)
        have hm : min n (x.size.toNat - 0) = x.size.toNat := by rw [hn2]; simp
        rw [hm] at hr
        rw [hn2] at hr ⊢
        refine (nread_file i 0 n w h hk (R := fun w' => Step s lay w s lay w') hr).mono ?_
        rintro e w' ⟨rfl, hst⟩
        exact ⟨_, rfl, hst⟩
  · have hf : s.fileS i = [] := by unfold Fs.fileS; rw [if_neg hk]
    rw [hf]
    refine (nread_nofile i 0 (s.fld Nd.size i) w h hk).mono ?_
    rintro e w' ⟨rfl, rfl⟩
    exact ⟨_, rfl, Step.refl h⟩
end
end Go.Proofs.YtbecmcjibpamoaaGreatDoor
namespace Go.Proofs.YtbecmcjibpamoaaGreatDoor
open Go.RowKit IntWalk
structure PrSt (w0 : World) (bb : Nat) (out : List UInt8) (w : World) : Prop where
  below : Below w0.heap.size w0 w
  bld : Lib.IsBuilderF 71 5 w0.heap.size bb (Lib.byteCells out) w
theorem bldF_below {T e : TypeId} {B b : Nat} {p : Value} {bs : List Value} {W W' : World} (h : Lib.BuilderAtF T e B b p bs W) (hb : Below W.heap.size W W') : Lib.BuilderAtF T e B b p bs W' := by
  have hlt := h.lt
  obtain ⟨hB, v, hv, hown, hne⟩ := h
  exact ⟨hB, v, (hb.block b hlt).trans hv, hown.kept (row := none) ⟨hb.os, hb.tape, hb.output, hb.size, fun k hk _ => hb.block k hk⟩ (Classical.em _), hne⟩
section
variable {w0 w w' : World} {bb : Nat} {out : List UInt8}
theorem PrSt.lt (h : PrSt w0 bb out w) : bb < w.heap.size := h.bld.elim (fun x => x.lt) (fun x => x.lt)
theorem PrSt.next (h : PrSt w0 bb out w) (hb : Below w.heap.size w w') : PrSt w0 bb out w' :=
  ⟨h.below.trans (hb.mono h.below.size), h.bld.elim (fun x => .inl (bldF_below x hb)) (fun x => .inr (bldF_below x hb))⟩
theorem cells_app (a b : List UInt8) : Lib.byteCells a ++ Lib.strCells ⟨b.toArray⟩ = Lib.byteCells (a ++ b) := by simp [Lib.byteCells, Lib.strCells]
theorem PrSt.write (h : PrSt w0 bb out w) (x : List UInt8) (hl : out.length + x.length ≤ 140737488355328) :
    Calls Tryz.prog 59 #[.pointer (some ⟨bb, 0, none⟩), .string ⟨x.toArray⟩] w fun e w' => e = .returned (.tuple #[.int .i64 (ByteArray.mk x.toArray).size, .nilIface]) ∧ PrSt w0 bb (out ++ x) w' ∧ Lib.OthersKept 5 (some bb) w w' := by
  refine (Tryz.Builder_WriteString_k w0.heap.size bb (Lib.byteCells out) ⟨x.toArray⟩ w h.bld (by rw [Lib.byteCells_length, str_size]; exact hl) h.below.size).mono ?_
  rintro e w' ⟨rfl, h1, h2, h3⟩
  rw [cells_app] at h1
  exact ⟨rfl, ⟨h.below.trans h2, .inr h1⟩, h3⟩
theorem kept_below (h : Below w.heap.size w w') : Lib.OthersKept 5 (some bb) w w' := (Lib.OthersKept.refl _ _ _).below h
end
theorem take_flat {f : List UInt8 → List UInt8} {L : List (List UInt8)} {k : Nat} {t : List UInt8} (h : L[k]? = some t) : (L.take (k + 1)).flatMap f = (L.take k).flatMap f ++ f t := by
  rw [List.take_add_one, h]
  simp
theorem take_flat_le (f : List UInt8 → List UInt8) (L : List (List UInt8)) (k : Nat) : ((L.take k).flatMap f).length ≤ (L.flatMap f).length := by
  have : L.flatMap f = (L.take k).flatMap f ++ (L.drop k).flatMap f := by rw [← List.flatMap_append, List.take_append_drop]
  rw [this, List.length_append]; omega
theorem len_app (a b : List UInt8) : (a ++ b).length = a.length + b.length := List.length_append
def PrintsAt (s : Fs) (lay : FId → Nat) (rk : Int → Nat) (w0 : World) (bb f : Nat) : Prop := ∀ (dir : Int) (path out : List UInt8) (w : World), rk dir < f → s.fld Nd.kind dir = 2 → path.length + 34 * rk dir ≤ 1100 →
  out.length + (s.printS f dir path).length ≤ 140737488355328 → PrSt w0 bb out w →
  Calls Tryz.prog 28 #[.pointer (some ⟨lay .F, 0, none⟩), .pointer (some ⟨bb, 0, none⟩), .int .i64 dir, .string ⟨path.toArray⟩] w fun e w' => e = .returned (.tuple #[]) ∧ PrSt w0 bb (out ++ s.printS f dir path) w' ∧ Lib.OthersKept 5 (some bb) w w'
section
variable {W0 w0 : World} {s : Fs} {lay : FId → Nat}
theorem list_dir (hT : Tr s) {dir : Int} (hk : s.fld Nd.kind dir = 2) : ∃ d, s.dr dir = some d ∧ s.listS dir = sortS (d.names.es.map nameOf) := by
  have hk' := hk
  unfold Fs.fld at hk'
  cases hn : s.nd dir with
  | none => rw [hn] at hk'; cases hk'
  | some x =>
    rw [hn] at hk'
    obtain ⟨d, hd⟩ := Option.isSome_iff_exists.1 (hT.dir dir x hn hk')
    refine ⟨d, hd, ?_⟩
    unfold Fs.listS
    rw [hn]
    dsimp only
    rw [if_pos hk', hd]
set_option maxRecDepth 100000 in
set_option maxHeartbeats 4000000 in
theorem print_step (hE : EnvT w0) (hF : FsIn W0 s lay w0) (hT : Tr s) (hW : s.Whole) {b : Nat} {rk : Int → Nat} (hR : Rk s b rk) (bb f : Nat) (ih : PrintsAt s lay rk w0 bb f) : PrintsAt s lay rk w0 bb (f + 1) := by
  intro dir path out w hf hk hp hl hS
  obtain ⟨d, hd, hls⟩ := list_dir hT hk
  have h := (hF.kept hS.below).is
  have hM : w.heap[lay (.M dir)]? = some d.names.obj := h.lies.at_ (.M dir) _ (by simp [Fs.obj, hd])
  have hok : NamesOk d.names := names_ok h.ok hd
  obtain ⟨D0, hown, hsz, hperm⟩ := own_names (hT.many dir d hd) (hT.name dir d hd) hok hM
  have h10 := hT.many dir d hd
  have hl0 := dir_look h dir
  rw [hd] at hl0
  simp only [Option.map_some, Option.getD_some] at hl0
  have e0 := h.e0 hd
  have c1 := h.f1
  have HK := Lib.hid (keys_says (some (lay (.M dir))) w)
  have HSo := Lib.hid (sorted_says (lay (.M dir)) _ D0 w hown (by omega))
  have HP := Lib.hid (sortS_eq hperm)
  have HE := Lib.hid hE
  have HF := Lib.hid hF
  have HT := Lib.hid hT
  have HWh := Lib.hid hW
  have HRk := Lib.hid hR
  have HS := Lib.hid hS
  have HD := Lib.hid hd
  have HIH := Lib.hid ih
  have hpr : s.printS (f + 1) dir path = (s.listS dir).flatMap (s.entS (s.printS f) dir path) := rfl
  rw [hpr] at hl ⊢
  have HLS := Lib.hid hls
  have HLC := Lib.hid (fun (t : List UInt8) (ht : t ∈ s.listS dir) => list_child h.ok hT ht)
  have hll := list_len hT dir
  have hl100 := hll.1
  have HLL := Lib.hid hll.2
  have HKD := Lib.hid hk
  clear hll
  have HL := Lib.hid hl
  clear h hM hok hown hperm hE hF hT hW hR hS hd ih hpr hls hl hk
  unfold ptrTo at *
  go_enter Tryz.func28, Tryz.ntmps28
  go_wp2_with first
    | (go_at_call 58; refine HK.out.mono ?_; rintro e w' ⟨rfl, rfl⟩)
    | (go_at_call 57; refine HSo.out.mono ?_; rintro e w2 ⟨v, rfl, hrow, hb⟩; rw [HP.out, ← HLS.out] at hrow; have HRow := Lib.hid hrow; have HB := Lib.hid hb; obtain ⟨va, vc, rfl⟩ := row_form hrow; clear hrow hb)
  have hB2 : Below w.heap.size w w2 := ((Below.refl _ w).alloc (Nat.le_refl _) _).trans (HB.out.mono (by simp))
  have HS2 := Lib.hid (HS.out.next hB2)
  have HK2 := Lib.hid (kept_below (bb := bb) hB2)
  obtain ⟨va1, vc1, e1, hrow⟩ := row_in HRow.out
  cases e1
  have HRW := Lib.hid hrow
  have hbw := HS.out.lt
  clear hrow hB2 c1 hl0 e0
  generalize hLq : s.listS dir = L at HRow HRW hl100 HLL HLC HL
  have HLQ := Lib.hid hLq
  clear hLq
  go_loopw [30] (fun iv wr => ∃ k : Nat, iv = .int .i64 k ∧ k ≤ L.length ∧ RowKit.Hid (PrSt w0 bb (out ++ (L.take k).flatMap (s.entS (s.printS f) dir path)) wr) ∧ RowKit.Hid (Lib.OthersKept 5 (some bb) w2 wr)) (fun iv _ => L.length - (intOf iv).toNat)
  case atStart => exact ⟨0, rfl, Nat.zero_le _, Lib.hid (by simpa using HS2.out), Lib.hid (Lib.OthersKept.refl _ _ _)⟩
  case round =>
    obtain ⟨k, rfl, hkl, HP1, HO⟩ := hrel
    rename World => wr
    by_cases hlt : k < L.length
    · obtain ⟨g1, rfl, hg0, hg1, hc1⟩ := HRW.out (by omega)
      obtain ⟨t, ht⟩ : ∃ t, L[k]? = some t := ⟨_, List.getElem?_eq_getElem hlt⟩
      have htl := HLL.out t (List.mem_of_getElem? ht)
      obtain ⟨d', x, hd', hx, hcx⟩ := HLC.out t (List.mem_of_getElem? ht)
      rw [HD.out] at hd'
      cases hd'
      obtain ⟨cur, hRS, _, _, _, hcur⟩ := row_cur HRow.out
      have hg0' : w.heap.size + 1 ≤ g1 := by simpa using hg0
      have hgr := HO.out g1 _ hRS.at_ (by intro e; have := Option.some.inj e; omega) (by intro c fz e; cases e)
      have hcell : wr.cell? ⟨g1, k, none⟩ = some (.string ⟨t.toArray⟩) := (World.cell?_of_block (a := ⟨g1, k, none⟩) (hgr.trans hRS.at_.symm)).trans (hRS.cell (hcur k t ht))
      have h' := (HF.out.kept HP1.out.below).is
      have c0 := h'.f0
      have e0 := h'.e0 HD.out
      have hnl := name_look1 h' HD.out t
      rw [hx] at hnl
      simp only [Option.getD_some] at hnl
      have hki := kind_any x wr h'
      have htf := take_flat (f := s.entS (s.printS f) dir path) ht
      have hle := take_flat_le (s.entS (s.printS f) dir path) L (k + 1)
      rw [htf, List.length_append] at hle
      have hLL := HL.out
      have hent : s.entS (s.printS f) dir path t = if s.fld Nd.kind x = 2 then (path ++ [47] ++ t ++ [47, 10]) ++ s.printS f x (path ++ [47] ++ t)
          else if s.fld Nd.kind x = 3 then path ++ [47] ++ t ++ [32, 45, 62, 32] ++ s.link x ++ [10]
          else path ++ [47] ++ t ++ [32] ++ Lib.itoa (s.fileS x).length ++ [10] ++ s.fileS x ++ [10] := by unfold Fs.entS; rw [hcx]
      have hkl1 : (k : Int) < (L.length : Int) := by omega
      have hp1 : path.length ≤ 1100 := by omega
      have ht32 := htl.2
      have h63a : ¬ 9223372036854775807 < path.length + 1 := by omega
      have h63b : ¬ 9223372036854775807 < path.length + (t.length + 1) := by omega
      have h63c : ¬ 9223372036854775807 < path.length + 1 + t.length := by omega
      have HX := Lib.hid h'
      have HTF := Lib.hid htf
      have HEN := Lib.hid hent
      have HLE := Lib.hid hle
      have HKI := Lib.hid hki
      have HTT := Lib.hid ht
      have hlow := HRk.out.low dir d t x HD.out hx
      clear hcx hx hRS hcur hgr h' htf hle hent hki ht htl
      have hbd : (out ++ (L.take k).flatMap (s.entS (s.printS f) dir path)).length + (s.entS (s.printS f) dir path t).length ≤ 140737488355328 := by
        have := HLE.out
        rw [List.length_append]; omega
      by_cases hk2 : s.fld Nd.kind x = 2
      · have hen : s.entS (s.printS f) dir path t = (path ++ 47 :: (t ++ [47, 10])) ++ s.printS f x (path ++ 47 :: t) := by
          rw [HEN.out, if_pos hk2]
          simp
        have hq : (out ++ (L.take (k + 1)).flatMap (s.entS (s.printS f) dir path)) = (out ++ (L.take k).flatMap (s.entS (s.printS f) dir path)) ++ (path ++ 47 :: (t ++ [47, 10])) ++ s.printS f x (path ++ 47 :: t) := by
          rw [HTF.out, hen]
          simp only [List.append_assoc]
        rw [hen, len_app (path ++ 47 :: (t ++ [47, 10]))] at hbd
        have hK2 := hk2
        rw [hk2] at HKI
        have HQ := Lib.hid hq
        have HB1 := Lib.hid (show (out ++ (L.take k).flatMap (s.entS (s.printS f) dir path)).length + (path ++ 47 :: (t ++ [47, 10])).length ≤ 140737488355328 by omega)
        have HB2 := Lib.hid (show (out ++ (L.take k).flatMap (s.entS (s.printS f) dir path) ++ (path ++ 47 :: (t ++ [47, 10]))).length + (s.printS f x (path ++ 47 :: t)).length ≤ 140737488355328 by rw [len_app (out ++ (L.take k).flatMap (s.entS (s.printS f) dir path))]; omega)
        have HB3 := Lib.hid (show (path ++ 47 :: t).length + 34 * rk x ≤ 1100 by simp; omega)
        have HK3 := Lib.hid hK2
        generalize (L.take k).flatMap (s.entS (s.printS f) dir path) = fk at HP1 HB1 HB2 HQ
        clear hen hq hbd hK2 hk2 HEN HTF hLL
        go_wp2_with first
          | (go_at_call 28; (refine (HIH.out x (path ++ 47 :: t) _ w4 (by omega) HK3.out HB3.out HB2.out HP4.out).mono ?_); rintro e w5 ⟨rfl, hp5, ho5⟩; rw [← HQ.out] at hp5; have HP5 := Lib.hid hp5; have HO5 := Lib.hid (HO4.out.trans ho5); clear hp5 ho5)
          | (go_at_call 59; (refine (HP1.out.write (path ++ 47 :: (t ++ [47, 10])) HB1.out).mono ?_); rintro e w4 ⟨rfl, hp4, ho4⟩; have HP4 := Lib.hid hp4; have HO4 := Lib.hid (HO.out.trans ho4); clear hp4 ho4)
          | (go_at_call 53; (with_reducible refine HKI.out.mono ?_); rintro e w3 ⟨rfl, rfl⟩)
        go_roundw
        case rel => exact ⟨k + 1, by go_num, by omega, HP5, HO5⟩
        case measure => simp [intOf]; omega
      · have hkb : (s.fld Nd.kind x == 2) = false := by simpa using hk2
        by_cases hk3 : s.fld Nd.kind x = 3
        · have HRL := Lib.hid (readlink_any x wr HX.out HWh.out hk3)
          have hll := link_len (s := s) x
          rw [hk3] at HKI
          unfold ptrTo at HRL
          generalize s.link x = lk at HRL hll HEN
          have hen : s.entS (s.printS f) dir path t = path ++ 47 :: (t ++ 32 :: 45 :: 62 :: 32 :: (lk ++ [10])) := by
            rw [HEN.out, if_neg hk2, if_pos hk3]
            simp
          have HQ := Lib.hid (show (out ++ (L.take (k + 1)).flatMap (s.entS (s.printS f) dir path)) = (out ++ (L.take k).flatMap (s.entS (s.printS f) dir path)) ++ (path ++ 47 :: (t ++ 32 :: 45 :: 62 :: 32 :: (lk ++ [10]))) by
            rw [HTF.out, hen, List.append_assoc])
          rw [hen] at hbd
          have HB1 := Lib.hid hbd
          clear hkb hen hbd HEN HTF hLL hk2 hk3
          generalize (L.take k).flatMap (s.entS (s.printS f) dir path) = fk at HP1 HB1 HQ
          go_wp2_with first
            | (go_at_call 59; (refine (HPP.out.write _ HB1.out).mono ?_); rintro e w4 ⟨rfl, hp4, ho4⟩; rw [← HQ.out] at hp4; have HP4 := Lib.hid hp4; have HO4 := Lib.hid (HOO.out.trans ho4); clear hp4 ho4)
            | (go_at_call 60; refine HRL.out.mono ?_; rintro e w3 ⟨rfl, hst⟩; have hb3 := hst.below HX.out; have HPP := Lib.hid (HP1.out.next hb3); have HOO := Lib.hid (HO.out.trans (kept_below (bb := bb) hb3)); clear hst hb3)
            | (go_at_call 53; (with_reducible refine HKI.out.mono ?_); rintro e w3 ⟨rfl, rfl⟩)
          go_roundw
          case rel => exact ⟨k + 1, by go_num, by omega, HP4, HO4⟩
          case measure => simp [intOf]; omega
        · have hkc : (s.fld Nd.kind x == 3) = false := by simpa using hk3
          have HSz := Lib.hid (size_any x wr HX.out)
          have HRF := Lib.hid (read_file x wr HX.out HWh.out)
          have hfl := file_len HWh.out x
          unfold ptrTo at HRF
          generalize s.fld Nd.size x = sz at HSz HRF
          rw [if_neg hk2, if_neg hk3] at HEN
          generalize s.fld Nd.kind x = kd at HKI hkb hkc hk2 hk3
          generalize s.fileS x = fl at HRF hfl HEN
          have hfi : (fl.length : Int) ≤ 4096 := by omega
          have hen : s.entS (s.printS f) dir path t = path ++ 47 :: (t ++ 32 :: (Lib.itoa (fl.length : Int) ++ 10 :: (fl ++ [10]))) := by
            rw [HEN.out]
            simp
          have HQ := Lib.hid (show (out ++ (L.take (k + 1)).flatMap (s.entS (s.printS f) dir path)) = (out ++ (L.take k).flatMap (s.entS (s.printS f) dir path)) ++ (path ++ 47 :: (t ++ 32 :: (Lib.itoa (fl.length : Int) ++ 10 :: (fl ++ [10])))) by
            rw [HTF.out, hen, List.append_assoc])
          rw [hen] at hbd
          have HB1 := Lib.hid hbd
          have hil := itoa_len fl.length hfl
          have q1 : ¬ 9223372036854775807 < path.length + (t.length + 1 + 1) + (Lib.itoa (fl.length : Int)).length := by omega
          have q2 : ¬ 9223372036854775807 < path.length + (t.length + ((Lib.itoa (fl.length : Int)).length + 1) + 1) + 1 := by omega
          have q3 : ¬ 9223372036854775807 < path.length + (t.length + ((Lib.itoa (fl.length : Int)).length + 1 + 1) + 1) + fl.length := by omega
          have q4 : ¬ 9223372036854775807 < path.length + (t.length + ((Lib.itoa (fl.length : Int)).length + (fl.length + 1) + 1) + 1) + 1 := by omega
          clear hen hbd HEN HTF hLL hk2 hk3
          generalize (L.take k).flatMap (s.entS (s.printS f) dir path) = fk at HP1 HB1 HQ
          go_wp2_with first
            | (go_at_call 59; (refine (HPQ.out.write _ HB1.out).mono ?_); rintro e w6 ⟨rfl, hp4, ho4⟩; rw [← HQ.out] at hp4; have HP4 := Lib.hid hp4; have HO4 := Lib.hid (HOQ.out.trans ho4); clear hp4 ho4)
            | (go_at_call 41; (refine (Tryz.strconv_Itoa (fl.length : Int) (by omega) (by omega) w4 (HE.out.next HPP.out.below).pow10).mono ?_); rintro e w5 ⟨rfl, kk, os, rfl⟩; have hb5 := Lib.below_grow w4.heap.size w4 (Nat.le_refl _) kk os; generalize Sort.grow (w4.drewN kk) os = w5 at hb5; have HPQ := Lib.hid (HPP.out.next hb5); have HOQ := Lib.hid (HOO.out.trans (kept_below (bb := bb) hb5)); clear hb5)
            | (go_at_call 61; refine HRF.out.mono ?_; rintro e w4 ⟨z, rfl, hst⟩; have hb4 := hst.below HX.out; have HPP := Lib.hid (HP1.out.next hb4); have HOO := Lib.hid (HO.out.trans (kept_below (bb := bb) hb4)); clear hst hb4)
            | (go_at_call 62; refine HSz.out.mono ?_; rintro e w3 ⟨rfl, rfl⟩)
            | (go_at_call 53; (with_reducible refine HKI.out.mono ?_); rintro e w3 ⟨rfl, rfl⟩)
          go_roundw
          case rel => exact ⟨k + 1, by go_num, by omega, HP4, HO4⟩
          case measure => simp [intOf]; omega
    · obtain rfl : k = L.length := by omega
      have hkl1 : ¬ (L.length : Int) < (L.length : Int) := by omega
      rw [List.take_length] at HP1
      have HOF := Lib.hid (HK2.out.trans HO.out)
      go_wp2
      go_end0
      rw [HLQ.out]
      exact ⟨rfl, HP1.out, HOF.out⟩
end
end Go.Proofs.YtbecmcjibpamoaaGreatDoor
namespace Go.Proofs.YtbecmcjibpamoaaGreatDoor
open Go.RowKit IntWalk
section
variable {W0 w0 : World} {s : Fs} {lay : FId → Nat}
theorem print_all (hE : EnvT w0) (hF : FsIn W0 s lay w0) (hT : Tr s) (hW : s.Whole) {b : Nat} {rk : Int → Nat} (hR : Rk s b rk) (bb : Nat) : ∀ f, PrintsAt s lay rk w0 bb f
  | 0 => fun dir path out w hf => absurd hf (Nat.not_lt_zero _)
  | f + 1 => print_step hE hF hT hW hR bb f (print_all hE hF hT hW hR bb f)
set_option maxRecDepth 100000 in
set_option maxHeartbeats 1000000 in
theorem print_ft {F : Nat} {w : World} (hE : EnvT w) (h : FT W0 F s w) (hT : Tr s) {b : Nat} (hR : Ranked s b) (hr : s.fld Nd.kind 1 = 2) :
    Calls Tryz.prog 12 #[ptrTo F] w fun e w' => e = .returned (.string ⟨(s.printS 30 1 []).toArray⟩) ∧ Below w.heap.size w w' := by
  obtain ⟨lay, rfl, hfs, hgen⟩ := h
  obtain ⟨rk, hrk, h29⟩ := hR
  have hlen := print_len hfs.is.ok hT hgen.whole hrk 30 1 [] (by rw [h29]; simp)
  rw [h29] at hlen
  have hlen2 : (s.printS 30 1 []).length ≤ 140737488355328 := by omega
  have HW1 := Lib.hid ((Below.refl w.heap.size w).alloc (Nat.le_refl _) (.cells #[.pointer none, .slice none 0 0] 71))
  have HS1 := Lib.hid (show PrSt w w.heap.size [] (w.alloc (.cells #[.pointer none, .slice none 0 0] 71)) from ⟨HW1.out, .inl ⟨Nat.le_refl _, .slice none 0 0, r_alloc_at _ _, World.ownsRowF_nil _ _ _ _, by simp [Value.ownBlock]⟩⟩)
  have HPA := Lib.hid (print_all hE hfs hT hgen.whole hrk w.heap.size 30 1 [] [] (w.alloc (.cells #[.pointer none, .slice none 0 0] 71)) (by rw [h29]; decide) hr (by rw [h29]; decide) (by simpa using hlen2) HS1.out)
  clear hlen hE hfs hT hgen hrk hlen2 HW1 HS1
  generalize s.printS 30 1 [] = out at HPA ⊢
  rw [List.nil_append] at HPA
  unfold ptrTo at *
  have hemp : (ByteArray.empty : ByteArray) = ⟨([] : List UInt8).toArray⟩ := rfl
  go_enter Tryz.func12, Tryz.ntmps12
  go_wp2_with first
    | (go_at_call 29; (refine (Tryz.Builder_String_any_k w.heap.size w.heap.size out w2 HP2.out.bld HP2.out.below.size).mono ?_); rintro e w3 ⟨rfl, _, hb3, _⟩; have HB3 := Lib.hid (HP2.out.below.trans hb3); clear hb3)
    | (go_at_call 28; (refine HPA.out.mono ?_); rintro e w2 ⟨rfl, hp2, _⟩; have HP2 := Lib.hid hp2; clear hp2)
  go_ret
  exact ⟨rfl, HB3.out⟩
end
end Go.Proofs.YtbecmcjibpamoaaGreatDoor
namespace Go.Proofs.YtbecmcjibpamoaaGreatDoor
open Go.RowKit
theorem u_count : Zz.IsExtern Tryz.prog 179 Extern.BytealgCount.count :=
  ⟨_, Tryz.func179, by kernel_rfl, by kernel_rfl, by kernel_rfl, by kernel_rfl⟩
theorem u_index : Zz.IsExtern Tryz.prog 221 Extern.BytealgIndexByte.indexByte :=
  ⟨_, Tryz.func221, by kernel_rfl, by kernel_rfl, by kernel_rfl, by kernel_rfl⟩
theorem u_mixed : Tryz.prog.follows .mixedOrders = true := by kernel_rfl
def uRho : Nat → Value := fun _ => .string ⟨#[]⟩
theorem u_opq : Zz.Opq uRho := fun k => ⟨(fun _ h => by cases h), (fun _ h => by cases h)⟩
theorem u_hk (W : World) (base : Nat) : ∀ p ∈ ([(179, Zz.hCount), (221, Zz.hIndexByte)] : List (FuncId × (List Zz.AV → Zz.M Zz.AV))), (∀ args, Zz.Fr (p.2 args)) ∧ Zz.HookFn Tryz.prog uRho W base p.1 p.2 := by
  intro p hp
  rcases List.mem_cons.1 hp with rfl | hp
  · exact Zz.hCount_ok u_count
  · rcases List.mem_cons.1 hp with rfl | hp
    · exact Zz.hIndexByte_ok u_index
    · cases hp
theorem awake_any (W : World) : Calls Tryz.prog 5 #[] W fun e w' => e = .returned (.bool true) ∧ Below W.heap.size W w' :=
  Zz.exec_top (l := [(179, Zz.hCount), (221, Zz.hIndexByte)]) u_mixed u_opq W (u_hk W W.heap.size) 400 (args := []) (us := #[]) .nil (by kernel_rfl)
end Go.Proofs.YtbecmcjibpamoaaGreatDoor
