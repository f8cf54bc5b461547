/- Texts of one proof, packed: GnG, GnH -/
import Derived.Test.YtggdedihfhibfaaGreatDoorR28
import Derived.Test.YtggdedihfhibfaaGreatDoorR32
set_option linter.unusedVariables false
set_option linter.unusedSimpArgs false
set_option linter.deprecated false
set_option linter.unnecessarySimpa false
/- The small tree that all of it begins with, and the document's. -/
namespace Go.Proofs.YtggdedihfhibfaaGreatDoor
open Go.RowKit IntWalk
set_option linter.unusedVariables false
set_option linter.unusedSimpArgs false

/-- a tree at the block F, in a world that began as W0 -/
def FT (W0 : World) (F : Nat) (s : Fs) (w : World) : Prop := ∃ lay, lay .F = F ∧ FsIn W0 s lay w ∧ Gen s
def beginS : Fs :=
  let s1 := (Fs.new0.mkdirS 1 [100]).2
  let s2 := (s1.slinkS 1 [100] [108]).2
  let s3 := (s2.slinkS 1 [120] [120]).2
  let r4 := s3.makeS 1 [102]
  let s5 := r4.2.2.nputS r4.1 [98, 10, 97, 10, 98, 10]
  let r6 := s5.makeS 1 [103]
  let s7 := r6.2.2.nputS r6.1 [111, 110, 101, 32, 116, 119, 111, 10, 116, 104, 114, 101, 101]
  let r8 := s7.makeS 1 [100, 47, 102]
  r8.2.2.nputS r8.1 [105, 110, 110, 101, 114, 10]
section
variable {W0 : World} {F : Nat} {s : Fs} {w : World}
theorem FT.step {lay lay' : FId → Nat} {s' : Fs} {w' : World} (hl : lay .F = F) (h : FsIn W0 s lay w) (hl' : lay' .F = lay .F) (hs : Step s lay w s' lay' w') (hG : Gen s') : FT W0 F s' w' :=
  ⟨lay', hl'.trans hl, h.step hs hG.whole, hG⟩
theorem ft_mkdir (h : FT W0 F s w) (hE : EnvG W0) (i : Int) (p : List UInt8) (hp : p.length ≤ 400) : Calls Tryz.prog 25 #[ptrTo F, .int .i64 i, .string ⟨p.toArray⟩] w fun e w' => (∃ c : Int, e = .returned (.int .i64 c)) ∧ FT W0 F (s.mkdirS i p).2 w' := by
  obtain ⟨lay, rfl, hf, hG⟩ := h
  exact (mkdir_any hE i p (by omega) hf hG).mono (by rintro e w' ⟨rfl, lay', hl, hs⟩; exact ⟨⟨_, rfl⟩, FT.step rfl hf hl hs (hG.mkdirS i p)⟩)
theorem ft_slink (h : FT W0 F s w) (hE : EnvG W0) (i : Int) (t p : List UInt8) (hp : p.length ≤ 400) : Calls Tryz.prog 23 #[ptrTo F, .int .i64 i, .string ⟨t.toArray⟩, .string ⟨p.toArray⟩] w fun e w' => (∃ c : Int, e = .returned (.int .i64 c)) ∧ FT W0 F (s.slinkS i t p).2 w' := by
  obtain ⟨lay, rfl, hf, hG⟩ := h
  exact (symlink_any hE i t p (by omega) hf hG).mono (by rintro e w' ⟨rfl, lay', hl, hs⟩; exact ⟨⟨_, rfl⟩, FT.step rfl hf hl hs (hG.slinkS i t p)⟩)
theorem ft_make (h : FT W0 F s w) (hE : EnvG W0) (i : Int) (p : List UInt8) (hp : p.length ≤ 400) : Calls Tryz.prog 27 #[ptrTo F, .int .i64 i, .string ⟨p.toArray⟩] w fun e w' => (∃ c : Int, e = .returned (.tuple #[.int .i64 (s.makeS i p).1, .int .i64 c])) ∧ FT W0 F (s.makeS i p).2.2 w' := by
  obtain ⟨lay, rfl, hf, hG⟩ := h
  exact (make_any hE i p (by omega) w hf).mono (by rintro e w' ⟨rfl, lay', hl, hs⟩; exact ⟨⟨_, rfl⟩, FT.step rfl hf hl hs (hG.makeS i p)⟩)
theorem ft_nput (h : FT W0 F s w) (i : Int) (t : List UInt8) (ht : t.length ≤ 400) : Calls Tryz.prog 53 #[ptrTo F, .int .i64 i, .int .i64 0, .string ⟨t.toArray⟩] w fun e w' => (∃ n c : Int, e = .returned (.tuple #[.int .i64 n, .int .i64 c])) ∧ FT W0 F (s.nputS i t) w' := by
  obtain ⟨lay, rfl, hf, hG⟩ := h
  exact (nput_any i t (by omega) hf.is hG.whole).mono (by rintro e w' ⟨he, hs⟩; exact ⟨he, FT.step rfl hf rfl hs (hG.nputS i t (by omega))⟩)
set_option maxRecDepth 100000 in
set_option maxHeartbeats 2000000 in
theorem begun_t (w : World) (hE : EnvG w) : Calls Tryz.prog 21 #[] w fun e w' => ∃ F, e = .returned (ptrTo F) ∧ FT w F beginS w' := by
  have HN := Lib.hid ((fnew_any w).mono (R' := fun e w' => ∃ F, e = .returned (.tuple #[ptrTo F, .int .i64 0]) ∧ FT w F Fs.new0 w') (by rintro e w' ⟨lay, he, h1, h2, h3⟩; exact ⟨lay .F, he, lay, rfl, ⟨h1, h2, h3, Gen.new0.whole⟩, Gen.new0⟩))
  unfold ptrTo at *
  go_enter Tryz.func21, Tryz.ntmps21
  go_wp2_with first
    | (go_at_call 52; (with_reducible refine HN.out.mono ?_); rintro e w1 ⟨F, rfl, h1⟩)
    | (go_at_call 25; (refine (ft_mkdir h1 hE 1 [100] (by simp)).mono ?_); rintro e w2 ⟨⟨c2, rfl⟩, h2⟩)
    | (go_at_call 23; (refine (ft_slink h2 hE 1 [100] [108] (by simp)).mono ?_); rintro e w3 ⟨⟨c3, rfl⟩, h3⟩; clear h2)
    | (go_at_call 23; (refine (ft_slink h3 hE 1 [120] [120] (by simp)).mono ?_); rintro e w4 ⟨⟨c4, rfl⟩, h4⟩)
    | (go_at_call 27; (refine (ft_make h4 hE 1 [102] (by simp)).mono ?_); rintro e w5 ⟨⟨c5, rfl⟩, h5⟩; clear h4)
    | (go_at_call 53; (refine (ft_nput h5 _ [98, 10, 97, 10, 98, 10] (by simp)).mono ?_); rintro e w6 ⟨⟨n6, c6, rfl⟩, h6⟩; clear h5)
    | (go_at_call 27; (refine (ft_make h6 hE 1 [103] (by simp)).mono ?_); rintro e w7 ⟨⟨c7, rfl⟩, h7⟩; clear h6)
    | (go_at_call 53; (refine (ft_nput h7 _ [111, 110, 101, 32, 116, 119, 111, 10, 116, 104, 114, 101, 101] (by simp)).mono ?_); rintro e w8 ⟨⟨n8, c8, rfl⟩, h8⟩; clear h7)
    | (go_at_call 27; (refine (ft_make h8 hE 1 [100, 47, 102] (by simp)).mono ?_); rintro e w9 ⟨⟨c9, rfl⟩, h9⟩; clear h8)
    | (go_at_call 53; (refine (ft_nput h9 _ [105, 110, 110, 101, 114, 10] (by simp)).mono ?_); rintro e w10 ⟨⟨n10, c10, rfl⟩, h10⟩; clear h9)
  go_ret
  exact ⟨F, rfl, h10⟩
end
end Go.Proofs.YtggdedihfhibfaaGreatDoor
/- Both trees, side by side. -/
namespace Go.Proofs.YtggdedihfhibfaaGreatDoor
open Go.RowKit IntWalk
set_option linter.unusedVariables false
set_option linter.unusedSimpArgs false

/-- the document's tree alone, in a world that began as W0 -/
def RT (W0 : World) (b : RB) (M : Nat) (w : World) : Prop := ∃ O, RIs 30 M b O w ∧ (∀ k, O k → W0.heap.size ≤ k) ∧ Below W0.heap.size W0 w
section
variable {W0 : World} {F : Nat} {s : Fs} {w w' : World} {b : RB} {M M' : Nat} {O O' : Nat → Prop}
theorem below_rstep (hb : Below W0.heap.size W0 w) (hO : ∀ k, O k → W0.heap.size ≤ k) (hs : RStep 30 M b O w M' O' w') : Below W0.heap.size W0 w' ∧ (∀ k, O' k → W0.heap.size ≤ k) :=
  ⟨⟨hs.turned.os.trans hb.os, hs.turned.tape.trans hb.tape, hs.turned.output.trans hb.output, Nat.le_trans hb.size hs.turned.size, fun k hk => (hs.turned.block k (Nat.lt_of_lt_of_le hk hb.size) (fun q => by have := hO k q; omega)).trans (hb.block k hk)⟩, fun k q => (hs.own k q).elim (hO k) (fun e => Nat.le_trans hb.size e)⟩
theorem RT.step (h : RIs 30 M b O w ∧ (∀ k, O k → W0.heap.size ≤ k) ∧ Below W0.heap.size W0 w) (hs : RStep 30 M b O w M' O' w') : RT W0 b M' w' := by
  obtain ⟨h1, h2, h3⟩ := h
  obtain ⟨q1, q2⟩ := below_rstep h3 h2 hs
  exact ⟨O', hs.is, q2, q1⟩
theorem rt_mkdir (h : RT W0 b M w) (hM : M ≤ 900) (i : Int) (p : List UInt8) (hp : p.length ≤ 400) : Calls Tryz.prog 26 #[ptrTo b.F, .int .i64 i, .string ⟨p.toArray⟩] w fun e w' => (∃ c : Int, e = .returned (.int .i64 c)) ∧ RT W0 b (M + 1) w' := by
  obtain ⟨O, h1, h2⟩ := h
  exact (rMkdir_any h1 hM i p hp).mono (by rintro e w' ⟨he, O', hs⟩; exact ⟨he, RT.step ⟨h1, h2⟩ hs⟩)
theorem rt_slink (h : RT W0 b M w) (hM : M ≤ 900) (i : Int) (t p : List UInt8) (ht : t.length ≤ 400) (hp : p.length ≤ 400) : Calls Tryz.prog 24 #[ptrTo b.F, .int .i64 i, .string ⟨t.toArray⟩, .string ⟨p.toArray⟩] w fun e w' => (∃ c : Int, e = .returned (.int .i64 c)) ∧ RT W0 b (M + 1) w' := by
  obtain ⟨O, h1, h2⟩ := h
  exact (rSymlink_any h1 hM i t p ht hp).mono (by rintro e w' ⟨he, O', hs⟩; exact ⟨he, RT.step ⟨h1, h2⟩ hs⟩)
theorem rt_make (h : RT W0 b M w) (hM : M ≤ 900) (i : Int) (p : List UInt8) (hp : p.length ≤ 400) : Calls Tryz.prog 28 #[ptrTo b.F, .int .i64 i, .string ⟨p.toArray⟩] w fun e w' => (∃ n c : Int, e = .returned (.tuple #[.int .i64 n, .int .i64 c])) ∧ RT W0 b (M + 1) w' := by
  obtain ⟨O, h1, h2⟩ := h
  exact (rMake_any h1 hM i p hp).mono (by rintro e w' ⟨he, O', hs⟩; exact ⟨he, RT.step ⟨h1, h2⟩ hs⟩)
theorem rt_put (h : RT W0 b M w) (i : Int) (t : List UInt8) (ht : t.length ≤ 400) : Calls Tryz.prog 55 #[ptrTo b.F, .int .i64 i, .int .i64 0, .string ⟨t.toArray⟩] w fun e w' => (∃ n c : Int, e = .returned (.tuple #[.int .i64 n, .int .i64 c])) ∧ RT W0 b M w' := by
  obtain ⟨O, h1, h2⟩ := h
  exact (rwrite_any h1 i t ht).mono (by rintro e w' ⟨he, hs⟩; exact ⟨he, RT.step ⟨h1, h2⟩ hs⟩)
set_option maxRecDepth 100000 in
set_option maxHeartbeats 2000000 in
theorem plain_t (w : World) : Calls Tryz.prog 22 #[] w fun e w' => ∃ b, e = .returned (ptrTo b.F) ∧ RT w b 6 w' := by
  have HN := Lib.hid ((rnew_any w).mono (R' := fun e w' => ∃ b : RB, e = .returned (.tuple #[ptrTo b.F, .int .i64 0]) ∧ RT w b 0 w') (by rintro e w' ⟨b, O, he, h1, h2, h3⟩; exact ⟨b, he, O, h1, h2, h3⟩))
  unfold ptrTo at *
  go_enter Tryz.func22, Tryz.ntmps22
  go_wp2_with first
    | (go_at_call 54; (with_reducible refine HN.out.mono ?_); rintro e w1 ⟨b, rfl, h1⟩)
    | (go_at_call 26; (refine (rt_mkdir h1 (by omega) 1 [100] (by simp)).mono ?_); rintro e w2 ⟨⟨c2, rfl⟩, h2⟩)
    | (go_at_call 24; (refine (rt_slink h2 (by omega) 1 [100] [108] (by simp) (by simp)).mono ?_); rintro e w3 ⟨⟨c3, rfl⟩, h3⟩; clear h2)
    | (go_at_call 24; (refine (rt_slink h3 (by omega) 1 [120] [120] (by simp) (by simp)).mono ?_); rintro e w4 ⟨⟨c4, rfl⟩, h4⟩)
    | (go_at_call 28; (refine (rt_make h4 (by omega) 1 [102] (by simp)).mono ?_); rintro e w5 ⟨⟨n5, c5, rfl⟩, h5⟩; clear h4)
    | (go_at_call 55; (refine (rt_put h5 _ [98, 10, 97, 10, 98, 10] (by simp)).mono ?_); rintro e w6 ⟨⟨n6, c6, rfl⟩, h6⟩; clear h5)
    | (go_at_call 28; (refine (rt_make h6 (by omega) 1 [103] (by simp)).mono ?_); rintro e w7 ⟨⟨n7, c7, rfl⟩, h7⟩; clear h6)
    | (go_at_call 55; (refine (rt_put h7 _ [111, 110, 101, 32, 116, 119, 111, 10, 116, 104, 114, 101, 101] (by simp)).mono ?_); rintro e w8 ⟨⟨n8, c8, rfl⟩, h8⟩; clear h7)
    | (go_at_call 28; (refine (rt_make h8 (by omega) 1 [100, 47, 102] (by simp)).mono ?_); rintro e w9 ⟨⟨n9, c9, rfl⟩, h9⟩; clear h8)
    | (go_at_call 55; (refine (rt_put h9 _ [105, 110, 110, 101, 114, 10] (by simp)).mono ?_); rintro e w10 ⟨⟨n10, c10, rfl⟩, h10⟩; clear h9)
  go_ret
  exact ⟨b, rfl, h10⟩
/-- both trees, in a world that began as W0 -/
def TwoT (W0 : World) (F : Nat) (s : Fs) (b : RB) (M : Nat) (w : World) : Prop := ∃ (lay : FId → Nat) (O : Nat → Prop), lay .F = F ∧ FsIn W0 s lay w ∧ Gen s ∧ RIs 30 M b O w ∧ (∀ k, O k → W0.heap.size ≤ k) ∧ ∀ k, O k → ¬ Owns (s.obj lay) lay k
theorem TwoT.join {w1 : World} (h : FT W0 F s w1) (hr : RT w1 b M w) : TwoT W0 F s b M w := by
  obtain ⟨lay, hl, hf, hG⟩ := h
  obtain ⟨O, h1, h2, h3⟩ := hr
  have hlt : ∀ k, Owns (s.obj lay) lay k → k < w1.heap.size := fun k hk => hf.is.lies.owns_lt hk
  refine ⟨lay, O, hl, ⟨⟨hf.is.lies.kept fun i hi => h3.block _ (hlt _ ⟨i, hi, rfl⟩), hf.is.ok⟩, hf.low, hf.below.trans (h3.mono hf.below.size), hf.whole⟩, hG, h1, fun k hk => Nat.le_trans hf.below.size (h2 k hk), fun k hk q => ?_⟩
  have := hlt k q
  have := h2 k hk
  omega
theorem TwoT.one (h : TwoT W0 F s b M w) : FT W0 F s w := by obtain ⟨lay, O, hl, hf, hG, _⟩ := h; exact ⟨lay, hl, hf, hG⟩
theorem two_fs {lay lay' : FId → Nat} {s' : Fs} (hl : lay .F = F) (hf : FsIn W0 s lay w) (hr : RIs 30 M b O w) (hO : ∀ k, O k → W0.heap.size ≤ k) (hd : ∀ k, O k → ¬ Owns (s.obj lay) lay k) (hl' : lay' .F = lay .F) (hs : Step s lay w s' lay' w') (hG : Gen s') : TwoT W0 F s' b M w' :=
  ⟨lay', O, hl'.trans hl, hf.step hs hG.whole, hG, hr.kept (fun k hk hlt => hs.turned.block k hlt (hd k hk)), hO, fun k hk q => (hs.own k q).elim (hd k hk) (fun e => by have := hr.own_lt k hk; omega)⟩
theorem two_ref {lay : FId → Nat} (hl : lay .F = F) (hf : FsIn W0 s lay w) (hG : Gen s) (hO : ∀ k, O k → W0.heap.size ≤ k) (hd : ∀ k, O k → ¬ Owns (s.obj lay) lay k) (hs : RStep 30 M b O w M' O' w') : TwoT W0 F s b M' w' := by
  obtain ⟨q1, q2⟩ := below_rstep hf.below hO hs
  refine ⟨lay, O', hl, ⟨⟨hf.is.lies.turned hs.turned (fun k hk q => hd k q hk), hf.is.ok⟩, hf.low, q1, hf.whole⟩, hG, hs.is, q2, fun k hk q => (hs.own k hk).elim (fun e => hd k e q) (fun e => by have := hf.is.lies.owns_lt q; omega)⟩
theorem two_mkdir (h : TwoT W0 F s b M w) (hE : EnvG W0) (i : Int) (p : List UInt8) (hp : p.length ≤ 400) : Calls Tryz.prog 25 #[ptrTo F, .int .i64 i, .string ⟨p.toArray⟩] w fun e w' => (∃ c : Int, e = .returned (.int .i64 c)) ∧ TwoT W0 F (s.mkdirS i p).2 b M w' := by
  obtain ⟨lay, O, rfl, hf, hG, hr, hO, hd⟩ := h
  exact (mkdir_any hE i p (by omega) hf hG).mono (by rintro e w' ⟨rfl, lay', hl, hs⟩; exact ⟨⟨_, rfl⟩, two_fs rfl hf hr hO hd hl hs (hG.mkdirS i p)⟩)
theorem two_slink (h : TwoT W0 F s b M w) (hE : EnvG W0) (i : Int) (t p : List UInt8) (hp : p.length ≤ 400) : Calls Tryz.prog 23 #[ptrTo F, .int .i64 i, .string ⟨t.toArray⟩, .string ⟨p.toArray⟩] w fun e w' => (∃ c : Int, e = .returned (.int .i64 c)) ∧ TwoT W0 F (s.slinkS i t p).2 b M w' := by
  obtain ⟨lay, O, rfl, hf, hG, hr, hO, hd⟩ := h
  exact (symlink_any hE i t p (by omega) hf hG).mono (by rintro e w' ⟨rfl, lay', hl, hs⟩; exact ⟨⟨_, rfl⟩, two_fs rfl hf hr hO hd hl hs (hG.slinkS i t p)⟩)
theorem two_make (h : TwoT W0 F s b M w) (hE : EnvG W0) (i : Int) (p : List UInt8) (hp : p.length ≤ 400) : Calls Tryz.prog 27 #[ptrTo F, .int .i64 i, .string ⟨p.toArray⟩] w fun e w' => (∃ n c : Int, e = .returned (.tuple #[.int .i64 n, .int .i64 c])) ∧ TwoT W0 F (s.makeS i p).2.2 b M w' := by
  obtain ⟨lay, O, rfl, hf, hG, hr, hO, hd⟩ := h
  exact (make_any hE i p (by omega) w hf).mono (by rintro e w' ⟨rfl, lay', hl, hs⟩; exact ⟨⟨_, _, rfl⟩, two_fs rfl hf hr hO hd hl hs (hG.makeS i p)⟩)
theorem two_rmkdir (h : TwoT W0 F s b M w) (hM : M ≤ 900) (i : Int) (p : List UInt8) (hp : p.length ≤ 400) : Calls Tryz.prog 26 #[ptrTo b.F, .int .i64 i, .string ⟨p.toArray⟩] w fun e w' => (∃ c : Int, e = .returned (.int .i64 c)) ∧ TwoT W0 F s b (M + 1) w' := by
  obtain ⟨lay, O, rfl, hf, hG, hr, hO, hd⟩ := h
  exact (rMkdir_any hr hM i p hp).mono (by rintro e w' ⟨he, O', hs⟩; exact ⟨he, two_ref rfl hf hG hO hd hs⟩)
theorem two_rslink (h : TwoT W0 F s b M w) (hM : M ≤ 900) (i : Int) (t p : List UInt8) (ht : t.length ≤ 400) (hp : p.length ≤ 400) : Calls Tryz.prog 24 #[ptrTo b.F, .int .i64 i, .string ⟨t.toArray⟩, .string ⟨p.toArray⟩] w fun e w' => (∃ c : Int, e = .returned (.int .i64 c)) ∧ TwoT W0 F s b (M + 1) w' := by
  obtain ⟨lay, O, rfl, hf, hG, hr, hO, hd⟩ := h
  exact (rSymlink_any hr hM i t p ht hp).mono (by rintro e w' ⟨he, O', hs⟩; exact ⟨he, two_ref rfl hf hG hO hd hs⟩)
theorem two_rmake (h : TwoT W0 F s b M w) (hM : M ≤ 900) (i : Int) (p : List UInt8) (hp : p.length ≤ 400) : Calls Tryz.prog 28 #[ptrTo b.F, .int .i64 i, .string ⟨p.toArray⟩] w fun e w' => (∃ n c : Int, e = .returned (.tuple #[.int .i64 n, .int .i64 c])) ∧ TwoT W0 F s b (M + 1) w' := by
  obtain ⟨lay, O, rfl, hf, hG, hr, hO, hd⟩ := h
  exact (rMake_any hr hM i p hp).mono (by rintro e w' ⟨he, O', hs⟩; exact ⟨he, two_ref rfl hf hG hO hd hs⟩)
theorem TwoT.drewN (h : TwoT W0 F s b M w) (n : Nat) : TwoT W0 F s b M (w.drewN n) := by
  obtain ⟨lay, O, hl, hf, hG, hr, hO, hd⟩ := h
  exact ⟨lay, O, hl, hf.drewN n, hG, hr.drewN n, hO, hd⟩
theorem TwoT.below (h : TwoT W0 F s b M w) : Below W0.heap.size W0 w := by obtain ⟨lay, O, hl, hf, _⟩ := h; exact hf.below
end
end Go.Proofs.YtggdedihfhibfaaGreatDoor
