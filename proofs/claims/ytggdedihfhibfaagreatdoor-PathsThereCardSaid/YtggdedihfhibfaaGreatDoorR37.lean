/- Texts of one proof, packed: PlB -/
import Derived.Test.YtggdedihfhibfaaGreatDoorR35
import Derived.Test.YtggdedihfhibfaaGreatDoorIterL
import Derived.Maps.Own
import Derived.Sort.KeysCollected
set_option linter.unusedVariables false
set_option linter.unusedSimpArgs false
set_option linter.deprecated false
set_option linter.unnecessarySimpa false
/- names.List: the names in any directory, rising. -/
namespace Go.Proofs.YtggdedihfhibfaaGreatDoor
open Go.RowKit IntWalk Go.Maps Go.Sort Go.Shelf
set_option linter.unusedVariables false
set_option linter.unusedSimpArgs false

theorem leS_total (a b : List UInt8) : (leS a b || leS b a) = true := by
  have h : a ≤ b ∨ b ≤ a := Std.le_total
  simpa [leS] using h
theorem leS_trans (a b c : List UInt8) (h1 : leS a b = true) (h2 : leS b c = true) : leS a c = true := by
  simp only [leS, decide_eq_true_eq] at *; exact Std.le_trans h1 h2
theorem leS_anti {a b : List UInt8} (h1 : leS a b = true) (h2 : leS b a = true) : a = b := by
  simp only [leS, decide_eq_true_eq] at *; exact Std.le_antisymm h1 h2
theorem insS_perm (x : List UInt8) : ∀ l, (insS x l).Perm (x :: l)
  | [] => List.Perm.refl _
  | y :: l => by
    unfold insS
    split
    · exact List.Perm.refl _
    · exact ((insS_perm x l).cons y).trans (List.Perm.swap x y l)
theorem sortS_perm : ∀ l : List (List UInt8), (sortS l).Perm l
  | [] => List.Perm.refl _
  | x :: l => (insS_perm x (sortS l)).trans ((sortS_perm l).cons x)
theorem insS_pairwise (x : List UInt8) : ∀ l : List (List UInt8), l.Pairwise (fun a b => leS a b = true) → (insS x l).Pairwise (fun a b => leS a b = true)
  | [], _ => List.pairwise_singleton _ _
  | y :: l, h => by
    obtain ⟨h1, h2⟩ := List.pairwise_cons.1 h
    unfold insS
    split
    · rename_i hx
      refine List.pairwise_cons.2 ⟨fun z hz => ?_, h⟩
      rcases List.mem_cons.1 hz with rfl | hz
      · exact hx
      · exact leS_trans _ _ _ hx (h1 z hz)
    · rename_i hx
      refine List.pairwise_cons.2 ⟨fun z hz => ?_, insS_pairwise x l h2⟩
      rcases List.mem_cons.1 ((insS_perm x l).mem_iff.1 hz) with rfl | hz
      · have := leS_total z y
        rw [Bool.or_eq_true] at this
        exact this.resolve_left hx
      · exact h1 z hz
theorem sortS_pairwise : ∀ l : List (List UInt8), (sortS l).Pairwise (fun a b => leS a b = true)
  | [] => List.Pairwise.nil
  | x :: l => insS_pairwise x (sortS l) (sortS_pairwise l)
theorem merge_sortS (l : List (List UInt8)) : l.mergeSort (fun x y => decide (x ≤ y)) = sortS l :=
  List.Perm.eq_of_pairwise (le := fun a b => leS a b = true) (fun a b _ _ h1 h2 => leS_anti h1 h2) (List.pairwise_mergeSort leS_trans leS_total l) (sortS_pairwise l) ((List.mergeSort_perm l _).trans (sortS_perm l).symm)
theorem sortS_eq {l l' : List (List UInt8)} (h : l.Perm l') : sortS l = sortS l' :=
  List.Perm.eq_of_pairwise (le := fun a b => leS a b = true) (fun a b _ _ h1 h2 => leS_anti h1 h2) (sortS_pairwise l) (sortS_pairwise l') ((sortS_perm l).trans (h.trans (sortS_perm l').symm))
theorem sortS_id {l : List (List UInt8)} (h : l.Pairwise (fun a b => leS a b = true)) : sortS l = l :=
  List.Perm.eq_of_pairwise (le := fun a b => leS a b = true) (fun a b _ _ h1 h2 => leS_anti h1 h2) (sortS_pairwise l) h (sortS_perm l)

/-- what is asked of a tree whose names are looked at -/
structure Tr (s : Fs) : Prop where
  dir : ∀ i x, s.nd i = some x → x.kind = 2 → (s.dr i).isSome = true
  many : ∀ i d, s.dr i = some d → d.names.es.length ≤ 100
  name : ∀ i d, s.dr i = some d → ∀ e ∈ d.names.es, 0 < (nameOf e).length ∧ (nameOf e).length ≤ 32
def anyR : Value → Option (DataW Unit × List MemPlace) := fun _ => some (.lit (.bool false), [])
theorem nodup_map_on {α β : Type} {f : α → β} {l : List α} (h : ∀ a ∈ l, ∀ b ∈ l, f a = f b → a = b) (hl : l.Nodup) : (l.map f).Nodup :=
  List.pairwise_map.2 (List.Pairwise.imp_of_mem (fun ha hb hne e => hne (h _ ha _ hb e)) hl)
theorem own_names {d : Dr} {w : World} {b : Nat} (h10 : d.names.es.length ≤ 100) (hnm : ∀ e ∈ d.names.es, 0 < (nameOf e).length ∧ (nameOf e).length ≤ 32) (hok : NamesOk d.names) (hb : w.heap[b]? = some d.names.obj) :
    ∃ D0 : DataW Unit, w.ownsMap Tryz.prog 9 anyR b d.names.es.length D0 ∧ Maps.size D0 = d.names.es.length ∧ (strKeys D0).Perm (d.names.es.map nameOf) := by
  have hkey : ∀ e ∈ d.names.es, keyOf Tryz.prog 9 (entryOf e).key = some (.string (nameOf e)) := fun e he => by
    obtain ⟨t, i, e1, e2⟩ := hok.ints e he
    have hl := (hnm e he).2
    unfold nameOf at hl
    rw [e1] at hl
    unfold entryOf nameOf
    rw [e1]
    simp only [keyOf, Tryz.underlying9, mapKey, Key.val]
    rw [if_pos (by show t.length ≤ maxLen; simp only [maxLen]; dsimp only at hl; omega)]
  have hrg : ∀ e ∈ d.names.es, WideElems.rd (H := Unit) Tryz.prog 9 anyR (entryOf e) = some (.string (nameOf e), .lit (.bool false)) := fun e he => by
    unfold WideElems.rd
    rw [hkey e he]
    rfl
  have hmap : ((d.names.es.map entryOf).toArray.toList.map (WideElems.rg (H := Unit) Tryz.prog 9 anyR)) = d.names.es.map fun e => (Lit.string (nameOf e), DataW.lit (.bool false)) := by
    show (d.names.es.map entryOf).map _ = _
    rw [List.map_map]
    refine List.map_congr_left fun e he => ?_
    have := WideElems.rg_of (hrg e he)
    rw [Function.comp_apply]
    exact this
  have hp := WideShapes.sorted_perm ((d.names.es.map entryOf).toArray.toList.map (WideElems.rg (H := Unit) Tryz.prog 9 anyR))
  refine ⟨_, ⟨(d.names.es.map entryOf).toArray, d.names.clk, hb, ⟨by simp only [List.size_toArray, List.length_map, maxLen]; omega, ⟨fun x hx => ?_, ?_, ?_⟩, fun x hx => ?_⟩, by simp, rfl⟩, ?_, ?_⟩
  · obtain ⟨e, he, rfl⟩ := List.mem_map.1 hx
    exact hok.good.below (e.1, e.2.2) (List.mem_map.2 ⟨e, he, rfl⟩)
  · have := hok.good.births
    simp only [kb, List.map_map] at this
    simpa [entryOf, Function.comp_def] using this
  · have := hok.good.keys
    simp only [kb, List.map_map] at this
    have hk : ((d.names.es.map entryOf).toArray.toList.map (·.key)) = (d.names.es.map (·.1)).map Key.val := by simp [entryOf, Function.comp_def]
    rw [hk]
    refine nodup_map_on ?_ (by simpa [Function.comp_def] using this)
    intro a ha c hc e
    obtain ⟨x, hx, rfl⟩ := List.mem_map.1 ha
    obtain ⟨y, hy, rfl⟩ := List.mem_map.1 hc
    obtain ⟨t, _, e1, _⟩ := hok.ints x hx
    obtain ⟨t', _, e1', _⟩ := hok.ints y hy
    rw [e1, e1'] at e ⊢
    simp only [Key.val, Value.string.injEq] at e
    have : t = t' := by simpa using congrArg (fun z : ByteArray => z.data.toList) e
    rw [this]
  · obtain ⟨e, he, rfl⟩ := List.mem_map.1 hx
    exact ⟨_, hrg e he⟩
  · show (List.foldr DataW.insert [] _).length = _
    rw [hp.length_eq]
    simp
  · show ((List.foldr DataW.insert [] _).map fun p => strOf p.1).Perm _
    refine (hp.map _).trans ?_
    rw [hmap, List.map_map]
    exact List.Perm.of_eq (List.map_congr_left fun e _ => rfl)
/-- what maps.Keys says here -/
theorem keys_says (mb : Option Nat) (W : World) : Calls Tryz.prog 43 #[.map mb] W fun e w' => e = .returned (.func (.func 77) #[] #[.pointer (some ⟨W.heap.size, 0, none⟩)]) ∧ w' = W.alloc (.cells #[.map mb] 93) :=
  (callsIn_wide (n := 5)).1 (AnyZ.keys_in Tryz.keys43 Fence.wide 5 trivial rfl mb W)
theorem sorts_str (m : Nat) : AnyZ.SortsIn Tryz.prog Tryz.sorted42_ren Fence.wide m :=
  ⟨fun blk off cap ss W hH hblk hsz => callsIn_wide.2 (AnyM.slices_Sort_string Tryz.sort35 blk off cap ss W hH hblk hsz),
   fun p cap W => callsIn_wide.2 (AnyM.slices_Sort_string_none Tryz.sort35 p cap W)⟩
set_option maxHeartbeats 1000000 in
theorem sorted_says (b nn : Nat) (D0 : DataW Unit) (w : World) (hown : w.ownsMap Tryz.prog 9 anyR b nn D0) (hmax : Maps.size D0 ≤ 100) :
    Calls Tryz.prog 42 #[.func (.func 77) #[] #[.pointer (some ⟨w.heap.size, 0, none⟩)]] (w.alloc (.cells #[.map (some b)] 93)) fun e w' => ∃ (v : Value), e = .returned v ∧
      w'.ownsRow (w.alloc (.cells #[.map (some b)] 93)).heap.size 9 1 v (sortS (strKeys D0)).length ((sortS (strKeys D0)).map encStr) ∧ Below (w.alloc (.cells #[.map (some b)] 93)).heap.size (w.alloc (.cells #[.map (some b)] 93)) w' := by
  have hbl := hown.lt
  have hseq : SeqGives Fence.wide 2 Tryz.prog 77 #[.pointer (some ⟨w.heap.size, 0, none⟩)] encStr (fun ss => ss.Perm (strKeys D0)) (Maps.size D0) (w.alloc (.cells #[.map (some b)] 93)) :=
    AnyZ.keys_gives (ρ := Tryz.keys43_ren) { Tryz.keys43 with } Fence.wide _ trivial rfl (by omega) w.heap.size b nn D0 _ (by simp) (by simp) (by
      obtain ⟨es, clock, hb, Ft, hs, hD⟩ := hown
      exact ⟨es, clock, (Below.heap_alloc _ _ b hbl).trans hb, Ft, hs, hD⟩)
  have h := (callsIn_wide (n := 5)).1 (AnyZ.sorted_in Tryz.sorted42 Fence.wide 5 trivial trivial trivial trivial rfl (by omega) (sorts_str _) (enters_of Tryz.func35 (by kernel_rfl) rfl) 77 #[.pointer (some ⟨w.heap.size, 0, none⟩)] trivial (enters_of Tryz.func77 (by kernel_rfl) rfl) _ _ (by simp only [maxLen]; omega) (by omega) _ hseq)
  refine h.mono ?_
  rintro e w' ⟨v, ss, rfl, hp, hrow, hnil, hb⟩
  have he : ss.mergeSort (fun x y => decide (x ≤ y)) = sortS (strKeys D0) := (merge_sortS ss).trans (sortS_eq hp)
  refine ⟨v, rfl, ?_, hb⟩
  have hrow' := hrow
  rw [he] at hrow'
  rw [show (sortS (strKeys D0)).length = ss.length by rw [← he]; exact List.length_mergeSort ss]
  exact hrow'
theorem names_ok {s : Fs} (h : s.Ok) {i : Int} {d : Dr} (hd : s.dr i = some d) : NamesOk d.names := by
  obtain ⟨n, hn⟩ := dirE_mem hd
  exact h.names _ hn
/-- what List hands back -/
structure Listed (w w' : World) (L : List (List UInt8)) (v : Value) : Prop where
  below : Below w.heap.size w w'
  own : w'.ownsRow (w.heap.size + 1) 9 1 v L.length (L.map encStr)
theorem nlist_dir {s : Fs} {lay : FId → Nat} {w : World} (h : FsIs s lay w) (hT : Tr s) {i : Int} {d : Dr} (hk : s.fld Nd.kind i = 2) (hd : s.dr i = some d) :
    Calls Tryz.prog 16 #[ptrTo (lay .F), .int .i64 i] w fun e w' => ∃ v, e = .returned (.tuple #[v, .int .i64 0]) ∧ Listed w w' (sortS (d.names.es.map nameOf)) v := by
  have hM : w.heap[lay (.M i)]? = some d.names.obj := h.lies.at_ (.M i) _ (by simp [Fs.obj, hd])
  have hok : NamesOk d.names := names_ok h.ok hd
  obtain ⟨D0, hown, hsz, hperm⟩ := own_names (hT.many i d hd) (hT.name i d hd) hok hM
  have h10 := hT.many i d hd
  have HN := Lib.hid (nkind_any i w h)
  rw [hk] at HN
  have hl := dir_look h i
  rw [hd] at hl
  simp only [Option.map_some, Option.getD_some] at hl
  have e0 := h.e0 hd
  have c1 := h.f1
  have HK := Lib.hid (keys_says (some (lay (.M i))) w)
  have HSo := Lib.hid (sorted_says (lay (.M i)) _ D0 w hown (by omega))
  have HP := Lib.hid (sortS_eq hperm)
  clear h hT hM hok hown hperm hd hk
  unfold ptrTo at *
  go_enter Tryz.func16, Tryz.ntmps16
  go_wp2_with first
    | (go_at_call 41; refine HN.out.mono ?_; rintro e w' ⟨rfl, rfl⟩)
    | (go_at_call 43; refine HK.out.mono ?_; rintro e w' ⟨rfl, rfl⟩)
    | (go_at_call 42; refine HSo.out.mono ?_; rintro e w' ⟨v, rfl, hrow, hb⟩; have HR := Lib.hid hrow; have HB := Lib.hid hb; clear hrow hb)
  go_ret2
  refine ⟨v, rfl, ⟨((Below.refl _ w).alloc (Nat.le_refl _) _).trans (HB.out.mono (by simp)), ?_⟩⟩
  have := HR.out
  have e1 : (w.alloc (.cells #[.map (some (lay (.M i)))] 93)).heap.size = w.heap.size + 1 := by simp
  rw [HP.out, e1] at this
  exact this
/-- what is no directory has no names -/
theorem nlist_no {s : Fs} {lay : FId → Nat} {w : World} (h : FsIs s lay w) {i : Int} (hk : s.fld Nd.kind i ≠ 2) :
    Calls Tryz.prog 16 #[ptrTo (lay .F), .int .i64 i] w fun e w' => ∃ z : Int, e = .returned (.tuple #[.slice none 0 0, .int .i64 z]) ∧ w = w' := by
  have HN := Lib.hid (nkind_any i w h)
  generalize s.fld Nd.kind i = kk at *
  unfold ptrTo at *
  by_cases h0 : kk = 0
  · subst h0
    rw [if_pos rfl] at HN
    go_enter Tryz.func16, Tryz.ntmps16
    go_wp2_with first
      | (go_at_call 41; refine HN.out.mono ?_; rintro e w' ⟨rfl, rfl⟩)
    go_ret2
    exact ⟨_, rfl, rfl⟩
  · rw [if_neg h0] at HN
    have hk2 : (kk != 2) = true := by simpa using hk
    go_enter Tryz.func16, Tryz.ntmps16
    go_wp2_with first
      | (go_at_call 41; refine HN.out.mono ?_; rintro e w' ⟨rfl, rfl⟩)
    go_ret2
    exact ⟨_, rfl, rfl⟩
theorem nlist_any {s : Fs} {lay : FId → Nat} {w : World} (h : FsIs s lay w) (hT : Tr s) (i : Int) :
    Calls Tryz.prog 16 #[ptrTo (lay .F), .int .i64 i] w fun e w' => ∃ (v : Value) (z : Int), e = .returned (.tuple #[v, .int .i64 z]) ∧ Listed w w' (s.listS i) v := by
  by_cases hk : s.fld Nd.kind i = 2
  · have hk' := hk
    unfold Fs.fld at hk'
    cases hn : s.nd i with
    | none => rw [hn] at hk'; cases hk'
    | some x =>
      rw [hn] at hk'
      obtain ⟨d, hd⟩ := Option.isSome_iff_exists.1 (hT.dir i x hn hk')
      refine (nlist_dir h hT hk hd).mono ?_
      rintro e w' ⟨v, rfl, hl⟩
      refine ⟨v, 0, rfl, ?_⟩
      unfold Fs.listS
      rw [hn]
      dsimp only
      rw [if_pos hk', hd]
      exact hl
  · refine (nlist_no h hk).mono ?_
    rintro e w' ⟨z, rfl, rfl⟩
    refine ⟨_, z, rfl, Below.refl _ _, ?_⟩
    have : s.listS i = [] := by
      unfold Fs.listS
      unfold Fs.fld at hk
      cases hn : s.nd i with
      | none => rfl
      | some x =>
        rw [hn] at hk
        dsimp only at hk ⊢
        rw [if_neg hk]
    rw [this]
    exact World.ownsRow_nil _ _ _ _
theorem list_len {s : Fs} (hT : Tr s) (i : Int) : (s.listS i).length ≤ 100 ∧ ∀ x ∈ s.listS i, 0 < x.length ∧ x.length ≤ 32 := by
  unfold Fs.listS
  cases s.nd i with
  | none => exact ⟨by simp, fun x hx => by simp at hx⟩
  | some x =>
    dsimp only
    split
    · cases hd : s.dr i with
      | none => exact ⟨by simp, fun x hx => by simp at hx⟩
      | some d =>
        refine ⟨?_, fun t ht => ?_⟩
        · rw [(sortS_perm _).length_eq, List.length_map]; exact hT.many i d hd
        · obtain ⟨e, he, rfl⟩ := List.mem_map.1 ((sortS_perm _).mem_iff.1 ht)
          exact hT.name i d hd e he
    · exact ⟨by simp, fun x hx => by simp at hx⟩
end Go.Proofs.YtggdedihfhibfaaGreatDoor
