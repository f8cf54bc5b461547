/- Texts of one proof, packed: FeV, FeW, FeX -/
import Derived.Test.YtomjjedgmnkciaaGreatDoorP16
import Derived.Maps.Own
import Derived.Sort.KeysCollected
import Derived.Test.YtomjjedgmnkciaaGreatDoorIterL
set_option linter.unusedVariables false
set_option linter.unusedSimpArgs false
set_option linter.deprecated false
set_option linter.unnecessarySimpa false
/- names: a directory's names as a map that the kit's contracts speak of. -/
namespace Go.Proofs.YtomjjedgmnkciaaGreatDoor
open Go.RowKit IntWalk
set_option linter.unusedVariables false
set_option linter.unusedSimpArgs false

def nameOf (e : Key × Value × Nat) : List UInt8 := match e.1 with
  | .str t => t
  | _ => []
def anyR : Value → Option (DataW Unit × List MemPlace) := fun _ => some (.lit (.bool false), [])
theorem nodup_map_on {α β : Type} {f : α → β} {l : List α} (h : ∀ a ∈ l, ∀ b ∈ l, f a = f b → a = b) (hl : l.Nodup) : (l.map f).Nodup :=
  List.pairwise_map.2 (List.Pairwise.imp_of_mem (fun ha hb hne e => hne (h _ ha _ hb e)) hl)
theorem len9 {s : Fs} {d : Dr} (hlen : s.nodes.length = 9) (hn : NamesT s d) : d.names.es.length ≤ 10 := by
  have h1 : ((d.names.es.map blockOf).map Int.toNat).Nodup := by
    refine nodup_map_on ?_ hn.inj
    intro a ha b hb e
    obtain ⟨x, hx, rfl⟩ := List.mem_map.1 ha
    obtain ⟨y, hy, rfl⟩ := List.mem_map.1 hb
    obtain ⟨t, i, e1, e2, _, h2, _⟩ := hn.ent x hx
    obtain ⟨t', i', e1', e2', _, h2', _⟩ := hn.ent y hy
    have b1 : blockOf x = i := by unfold blockOf; rw [e2]
    have b2 : blockOf y = i' := by unfold blockOf; rw [e2']
    rw [b1, b2] at e ⊢
    omega
  have := nodup_sub h1 (m := List.range 10) (fun a ha => by
    obtain ⟨z, hz, rfl⟩ := List.mem_map.1 ha
    obtain ⟨x, hx, rfl⟩ := List.mem_map.1 hz
    obtain ⟨t, i, e1, e2, _, h2, h3⟩ := hn.ent x hx
    have b1 : blockOf x = i := by unfold blockOf; rw [e2]
    rw [b1]
    obtain ⟨y, hy⟩ := Option.isSome_iff_exists.1 h3
    have := (Fs.nd_slot hy).2.1
    rw [hlen] at this
    simp; omega)
  simpa using this
theorem own_names {s : Fs} {d : Dr} {w : World} {b : Nat} (hlen : s.nodes.length = 9) (hn : NamesT s d) (hok : NamesOk d.names) (hb : w.heap[b]? = some d.names.obj) :
    ∃ D0 : DataW Unit, w.ownsMap Tryz.prog 9 anyR b d.names.es.length D0 ∧ Maps.size D0 = d.names.es.length ∧ (strKeys D0).Perm (d.names.es.map nameOf) := by
  have h10 := len9 hlen hn
  have hkey : ∀ e ∈ d.names.es, keyOf Tryz.prog 9 (entryOf e).key = some (.string (nameOf e)) := fun e he => by
    obtain ⟨t, i, e1, e2, hg, _, _⟩ := hn.ent e he
    have hl := hg.2.2.2.2
    unfold entryOf nameOf
    rw [e1]
    simp only [keyOf, Tryz.underlying9, mapKey, Key.val]
    rw [if_pos (by show t.length ≤ maxLen; simp only [maxLen]; omega)]
  have hrg : ∀ e ∈ d.names.es, WideElems.rd (H := Unit) Tryz.prog 9 anyR (entryOf e) = some (.string (nameOf e), .lit (.bool false)) := fun e he => by
    unfold WideElems.rd
    rw [hkey e he]
    rfl
  have hmap : ((d.names.es.map entryOf).toArray.toList.map (WideElems.rg (H := Unit) Tryz.prog 9 anyR)) = d.names.es.map fun e => (Lit.string (nameOf e), DataW.lit (.bool false)) := by
    show (d.names.es.map entryOf).map _ = _
    rw [List.map_map]
    refine List.map_congr_left fun e he => ?_
    have := WideElems.rg_of (hrg e he)
    rw [Function.comp_apply]
    exact this
  have hp := WideShapes.sorted_perm ((d.names.es.map entryOf).toArray.toList.map (WideElems.rg (H := Unit) Tryz.prog 9 anyR))
  refine ⟨_, ⟨(d.names.es.map entryOf).toArray, d.names.clk, hb, ⟨by simp only [List.size_toArray, List.length_map, maxLen]; omega, ⟨fun x hx => ?_, ?_, ?_⟩, fun x hx => ?_⟩, by simp, rfl⟩, ?_, ?_⟩
  · obtain ⟨e, he, rfl⟩ := List.mem_map.1 hx
    exact hok.good.below (e.1, e.2.2) (List.mem_map.2 ⟨e, he, rfl⟩)
  · have := hok.good.births
    simp only [kb, List.map_map] at this
    simpa [entryOf, Function.comp_def] using this
  · have := hok.good.keys
    simp only [kb, List.map_map] at this
    have hk : ((d.names.es.map entryOf).toArray.toList.map (·.key)) = (d.names.es.map (·.1)).map Key.val := by simp [entryOf, Function.comp_def]
    rw [hk]
    refine nodup_map_on ?_ (by simpa [Function.comp_def] using this)
    intro a ha c hc e
    obtain ⟨x, hx, rfl⟩ := List.mem_map.1 ha
    obtain ⟨y, hy, rfl⟩ := List.mem_map.1 hc
    obtain ⟨t, _, e1, _⟩ := hn.ent x hx
    obtain ⟨t', _, e1', _⟩ := hn.ent y hy
    rw [e1, e1'] at e ⊢
    simp only [Key.val, Value.string.injEq] at e
    have : t = t' := by simpa using congrArg (fun z : ByteArray => z.data.toList) e
    rw [this]
  · obtain ⟨e, he, rfl⟩ := List.mem_map.1 hx
    exact ⟨_, hrg e he⟩
  · show (List.foldr DataW.insert [] _).length = _
    rw [hp.length_eq]
    simp
  · show ((List.foldr DataW.insert [] _).map fun p => strOf p.1).Perm _
    refine (hp.map _).trans ?_
    rw [hmap, List.map_map]
    exact List.Perm.of_eq (List.map_congr_left fun e _ => rfl)
end Go.Proofs.YtomjjedgmnkciaaGreatDoor
/- names: the names in the root, rising. -/
namespace Go.Proofs.YtomjjedgmnkciaaGreatDoor
open Go.RowKit IntWalk
set_option linter.unusedVariables false
set_option linter.unusedSimpArgs false

/-- what maps.Keys says here -/
def KeysSays : Prop := ∀ (mb : Option Nat) (W : World), Calls Tryz.prog 29 #[.map mb] W fun e w' => e = .returned (.func (.func 47) #[] #[.pointer (some ⟨W.heap.size, 0, none⟩)]) ∧ w' = W.alloc (.cells #[.map mb] 77)
/-- what slices.Sorted says of it -/
def SortedSays : Prop := ∀ (b nn : Nat) (D0 : DataW Unit) (w : World), w.ownsMap Tryz.prog 9 anyR b nn D0 → Maps.size D0 ≤ 100 →
  Calls Tryz.prog 28 #[.func (.func 47) #[] #[.pointer (some ⟨w.heap.size, 0, none⟩)]] (w.alloc (.cells #[.map (some b)] 77)) fun e w' => ∃ (v : Value) (ss : List (List UInt8)), e = .returned v ∧ ss.Perm (strKeys D0) ∧
    w'.ownsRow (w.alloc (.cells #[.map (some b)] 77)).heap.size 9 1 v ss.length (ss.map encStr) ∧ Below (w.alloc (.cells #[.map (some b)] 77)).heap.size (w.alloc (.cells #[.map (some b)] 77)) w'
structure Listed (w w' : World) (names : List (List UInt8)) (v : Value) : Prop where
  below : Below w.heap.size w w'
  own : ∃ ss : List (List UInt8), ss.Perm names ∧ w'.ownsRow (w.heap.size + 1) 9 1 v ss.length (ss.map encStr)
theorem nlist_any (hK : KeysSays) (hS : SortedSays) {s : Fs} {lay : FId → Nat} {us : Int → Nat} {w : World} (h : FsIs s lay w) (hT : Tidy s us) {d : Dr} (hd : s.dr 1 = some d) :
    Calls Tryz.prog 12 #[ptrTo (lay .F), .int .i64 1] w fun e w' => ∃ v, e = .returned (.tuple #[v, .int .i64 0]) ∧ Listed w w' (d.names.es.map nameOf) v := by
  obtain ⟨d0, b0, hds, hpar, hnm⟩ := hT.dir
  have hdd : d0 = d := by
    unfold Fs.dr at hd
    rw [hds] at hd
    cases hd; rfl
  subst hdd
  have hM : w.heap[lay (.M 1)]? = some d0.names.obj := h.lies.at_ (.M 1) _ (by simp [Fs.obj, hd])
  have hok : NamesOk d0.names := h.ok.names (1, d0, b0) (by rw [hds]; simp)
  obtain ⟨D0, hown, hsz, hperm⟩ := own_names hT.len hnm hok hM
  have h10 := len9 hT.len hnm
  have HN := Lib.hid (nkind_any 1 w h)
  rw [hT.kind1] at HN
  have hl := dir_look h 1
  rw [hd] at hl
  simp only [Option.map_some, Option.getD_some] at hl
  have e0 := h.e0 hd
  have c1 := h.f1
  have HK := Lib.hid (hK (some (lay (.M 1))) w)
  have HSo := Lib.hid (hS (lay (.M 1)) _ D0 w hown (by omega))
  have HP := Lib.hid hperm
  clear h hT hM hok hown hperm hd hds hnm
  unfold ptrTo at *
  go_enter Tryz.func12, Tryz.ntmps12
  go_wp2_with first
    | (go_at_call 27; refine HN.out.mono ?_; rintro e w' ⟨rfl, rfl⟩)
    | (go_at_call 29; refine HK.out.mono ?_; rintro e w' ⟨rfl, rfl⟩)
    | (go_at_call 28; refine HSo.out.mono ?_; rintro e w' ⟨v, ss, rfl, hp, hrow, hb⟩; have HR := Lib.hid hrow; have HB := Lib.hid hb; have HPP := Lib.hid hp; clear hrow hb hp)
  go_ret2
  refine ⟨v, rfl, ⟨((Below.refl _ w).alloc (Nat.le_refl _) _).trans (HB.out.mono (by simp)), ss, HPP.out.trans HP.out, ?_⟩⟩
  have := HR.out
  have e1 : (w.alloc (.cells #[.map (some (lay (.M 1)))] 77)).heap.size = w.heap.size + 1 := by simp
  rwa [e1] at this
end Go.Proofs.YtomjjedgmnkciaaGreatDoor
/- maps.Keys and slices.Sorted at a map from texts to numbers: the shelf's contracts, in the plain form. -/
namespace Go.Proofs.YtomjjedgmnkciaaGreatDoor
open Go.RowKit Go.Maps Go.Sort Go.Shelf
set_option linter.unusedVariables false
set_option linter.unusedSimpArgs false

theorem sorts28 (m : Nat) : AnyZ.SortsIn Tryz.prog Tryz.sorted28_ren Fence.wide m :=
  ⟨fun blk off cap ss W hH hblk hsz => callsIn_wide.2 (AnyM.slices_Sort_string Tryz.sort46 blk off cap ss W hH hblk hsz),
   fun p cap W => callsIn_wide.2 (AnyM.slices_Sort_string_none Tryz.sort46 p cap W)⟩
theorem keys_says : KeysSays := fun mb W => (callsIn_wide (n := 5)).1 (AnyZ.keys_in Tryz.keys29 Fence.wide 5 trivial rfl mb W)
set_option maxHeartbeats 1000000 in
theorem sorted_says : SortedSays := fun b nn D0 w hown hmax => by
  have hbl := hown.lt
  have hseq : SeqGives Fence.wide 2 Tryz.prog 47 #[.pointer (some ⟨w.heap.size, 0, none⟩)] encStr (fun ss => ss.Perm (strKeys D0)) (Maps.size D0) (w.alloc (.cells #[.map (some b)] 77)) :=
    AnyZ.keys_gives (ρ := Tryz.keys29_ren) { Tryz.keys29 with } Fence.wide _ trivial rfl (by omega) w.heap.size b nn D0 _ (by simp) (by simp) (by
      obtain ⟨es, clock, hb, Ft, hs, hD⟩ := hown
      exact ⟨es, clock, (Below.heap_alloc _ _ b hbl).trans hb, Ft, hs, hD⟩)
  have h := (callsIn_wide (n := 5)).1 (AnyZ.sorted_in Tryz.sorted28 Fence.wide 5 trivial trivial trivial trivial rfl (by omega) (sorts28 _) (enters_of Tryz.func46 (by kernel_rfl) rfl) 47 #[.pointer (some ⟨w.heap.size, 0, none⟩)] trivial (enters_of Tryz.func47 (by kernel_rfl) rfl) _ _ (by simp only [maxLen]; omega) (by omega) _ hseq)
  refine h.mono ?_
  rintro e w' ⟨v, ss, rfl, hp, hrow, hnil, hb⟩
  refine ⟨v, ss.mergeSort (fun x y => decide (x ≤ y)), rfl, (List.mergeSort_perm ss _).trans hp, ?_, hb⟩
  rw [List.length_mergeSort]
  exact hrow
end Go.Proofs.YtomjjedgmnkciaaGreatDoor
