/- UdAlgM UdAwk UdAlg UdTop: parts of the proof of TopDifferences, one text behind the other. No condition. -/
import Derived.Test.YtmmcjcaccicheaaGreatDoorT36
import Derived.Test.YtmmcjcaccicheaaGreatDoorT34
import Derived.Test.YtmmcjcaccicheaaGreatDoorT38
import Derived.Test.YtmmcjcaccicheaaGreatDoorT17
import Derived.Test.YtmmcjcaccicheaaGreatDoorT18
import Derived.Test.YtmmcjcaccicheaaGreatDoorT06
import Derived.Test.YtmmcjcaccicheaaGreatDoorT08
import Derived.Test.YtmmcjcaccicheaaGreatDoorT22
import Derived.Test.YtmmcjcaccicheaaGreatDoorT19
import Derived.Test.YtmmcjcaccicheaaGreatDoorT39
import Derived.Test.YtmmcjcaccicheaaGreatDoorT11
/- Hunks in memory that lead from one list to another; what the Myers and the patience algorithm find, as matches in memory. -/
namespace Go.Proofs.YtmmcjcaccicheaaGreatDoor
open Go.RowKit
theorem myers_hd (A B : Option Addr) (n c m d : Nat) (a b : Lns) (w : World) (ha : Strs w A n a) (hb : Strs w B m b) (hn : n ≤ 60) (hm : m ≤ 60) :
    ∀ w', Ext w w' → Calls Tryz.prog 25 #[.slice A n c, .slice B m d] w' fun r w'' => Ext w' w'' ∧ ∃ C ln lc, r = .returned (.slice C ln lc) ∧ ln ≤ lc ∧ Mts w'' C ln (diffV a b (dist a b)) := by
  intro w' hE
  have hd := dist_le a b
  have la := ha.1; have lb := hb.1
  refine (diff_any A B n c m d a b w' (ha.ext hE) (hb.ext hE) (by omega) (by omega) (dist a b) (by omega) (last_dist a b)).mono ?_
  rintro e w'' ⟨v, N, rfl, ho, hwf, hE2⟩
  obtain ⟨C, k, rfl, hk, hM⟩ := ownM_mts ho hwf
  exact ⟨hE2, C, _, k, rfl, hk, hM⟩
theorem patience_hd (A B : Option Addr) (n c m d : Nat) (a b : Lns) (w : World) (ha : Strs w A n a) (hb : Strs w B m b) (hn : n ≤ 60) (hm : m ≤ 60) (hnc : n ≤ c) (hmd : m ≤ d) :
    ∀ w', Ext w w' → Calls Tryz.prog 26 #[.slice A n c, .slice B m d] w' fun r w'' => Ext w' w'' ∧ ∃ C ln lc, r = .returned (.slice C ln lc) ∧ ln ≤ lc ∧ Mts w'' C ln (pdV (a.length + 1) a b) := by
  intro w' hE
  refine (pdiff_any A B n c m d a b w' (ha.ext hE) (hb.ext hE) (by omega) (by omega) hnc hmd).mono ?_
  rintro e w'' ⟨v, rfl, ho, hB, hE2⟩
  obtain ⟨C, k, rfl, hk, hM⟩ := ownM_mts ho (hB.wf (by omega))
  exact ⟨hE2, C, _, k, rfl, hk, hM⟩
theorem hksG_short : ∀ (L : List Sg) (x : Nat) (h : Hp), h ∈ hksG x L → h.old.length ≤ (oldG L).length ∧ h.new.length ≤ (newG L).length
  | [], _, _, h => by simp [hksG] at h
  | s :: r, x, h, hh => by
    simp only [hksG, List.mem_cons] at hh
    simp only [oldG, newG, List.length_append]
    rcases hh with rfl | hh
    · exact ⟨by simp only; omega, by simp only; omega⟩
    · have := hksG_short r _ h hh
      omega
/-- A hunk list in memory that leads from a to b. -/
structure LeadM (W : World) (C : Option Addr) (k e : Nat) (L : List Sg) (t a b : Lns) : Prop where
  ke : k ≤ e
  e0 : e ≤ maxLen
  k0 : k ≤ 100
  h : Hps W C k (hksG 0 L)
  ok : okG L
  a : a = oldG L ++ t
  b : b = newG L ++ t
theorem LeadM.ext {W W' : World} {C : Option Addr} {k e : Nat} {L : List Sg} {t a b : Lns} (h : LeadM W C k e L t a b) (x : Ext W W') : LeadM W' C k e L t a b := ⟨h.ke, h.e0, h.k0, h.h.ext x, h.ok, h.a, h.b⟩
theorem lead_of {W : World} {base : Nat} {v : Value} {va : List Value} {L : List Sg} {t a b : Lns} (hM : HMem base v va va (hksG 0 L) (hls (hksG 0 L)) W) (hok : okG L) (ha : a = oldG L ++ t) (hb : b = newG L ++ t) (hla : a.length ≤ 40) (hlb : b.length ≤ 40) (hsa : ∀ s ∈ a, s.size ≤ 100000) (hsb : ∀ s ∈ b, s.size ≤ 100000) :
    ∃ C k e, v = .slice C k e ∧ LeadM W C k e L t a b := by
  have la := congrArg List.length ha; have lb := congrArg List.length hb
  simp only [List.length_append] at la lb
  have hg := okG_len L hok
  obtain ⟨C, e, hv, h1, h2, h3⟩ := hM.hps (fun x hx => by
    have hx2 := hksG_mem L 0 x hx
    have hl := hksG_short L 0 x hx
    refine ⟨⟨by unfold Reach; omega, fun s hs => ?_⟩, by unfold Reach; omega, fun s hs => ?_⟩
    · have := hsa s (by rw [ha]; simp [hx2.1 s hs]); unfold Reach; omega
    · have := hsb s (by rw [hb]; simp [hx2.2 s hs]); unfold Reach; omega)
  exact ⟨C, _, e, hv, h1, h2, by rw [hksG_len]; omega, h3, hok, ha, hb⟩
theorem ainv_any (C : Option Addr) (k e : Nat) (L : List Sg) (t a b : Lns) (w : World) (h : LeadM w C k e L t a b) (hla : a.length ≤ 40) (hlb : b.length ≤ 40) (hsa : ∀ s ∈ a, s.size ≤ 100000) (hsb : ∀ s ∈ b, s.size ≤ 100000) :
    Calls Tryz.prog 11 #[.slice C k e] w fun r w' => Ext w w' ∧ ∃ C' k' e', r = .returned (.tuple #[.slice C' k' e', .int .i64 0]) ∧ LeadM w' C' k' e' (swG L) t b a := by
  have la := congrArg List.length h.a; have lb := congrArg List.length h.b
  simp only [List.length_append] at la lb
  refine (invert_any C k e L w h.h h.ok (by have := h.k0; omega) (by omega) (by omega)).mono ?_
  rintro r w' ⟨hE, v, va, rfl, hM⟩
  obtain ⟨C', k', e', rfl, hl⟩ := lead_of hM (okG_sw L h.ok) (t := t) (a := b) (b := a) (by rw [oldG_sw]; exact h.b) (by rw [newG_sw]; exact h.a) hlb hla hsb hsa
  exact ⟨hE, C', k', e', rfl, hl⟩
theorem alead_any (A B C : Option Addr) (n c m d k e : Nat) (L : List Sg) (t a b : Lns) (cx : Nat) (w : World) (ha : Strs w A n a) (hb : Strs w B m b) (h : LeadM w C k e L t a b) (hn : n ≤ 40) (hm : m ≤ 40) (hnc : n ≤ c) (hc0 : c ≤ maxLen) (hmd : m ≤ d) (hcx : cx ≤ 100)
    (hsa : ∀ s ∈ a, (10 : UInt8) ∉ s.data.toList ∧ s.size ≤ 100000) (hsb : ∀ s ∈ b, (10 : UInt8) ∉ s.data.toList ∧ s.size ≤ 100000) (hmx : Mx w) :
    Calls Tryz.prog 12 #[.slice A n c, .slice B m d, .slice C k e, .int .i64 cx] w fun r w' => r = .returned (.bool true) ∧ Ext w w' := by
  obtain ⟨h1, h2, h3, h4, h5, rfl, rfl⟩ := h
  exact lead_any A B C n c m d k e L t cx w ha hb h4 h5 hn hm hnc hc0 hmd h3 h1 h2 hcx hsa hsb hmx
theorem asize_any (C : Option Addr) (k e : Nat) (L : List Sg) (t a b : Lns) (w : World) (h : LeadM w C k e L t a b) (hla : a.length ≤ 40) (hlb : b.length ≤ 40) :
    Calls Tryz.prog 13 #[.slice C k e] w fun r w' => r = .returned (.int .i64 (sizeG L)) ∧ Ext w w' := by
  have la := congrArg List.length h.a; have lb := congrArg List.length h.b
  simp only [List.length_append] at la lb
  have := size_any C k e (hksG 0 L) w h.h (by have := h.k0; omega) (fun x hx => by have := hksG_short L 0 x hx; omega)
  rwa [size_hks] at this
end Go.Proofs.YtmmcjcaccicheaaGreatDoor
/- top14Awake answers true. -/
namespace Go.Proofs.YtmmcjcaccicheaaGreatDoor
open Go.RowKit
abbrev qA : ByteArray := ⟨#[97]⟩
abbrev qB : ByteArray := ⟨#[98]⟩
abbrev qC : ByteArray := ⟨#[99]⟩
abbrev qX : ByteArray := ⟨#[120]⟩
abbrev awP : Lns := [qA, qB, qC]
abbrev awQ : Lns := [qA, qX, qC]
abbrev awM : List Mt := [⟨0, 0, 1⟩, ⟨2, 2, 1⟩]
abbrev awG : List Sg := [⟨[qA], [qB], [qX]⟩]
abbrev awB : List GB := [([], [⟨.ctx, qA⟩, ⟨.del, qB⟩, ⟨.add, qX⟩, ⟨.ctx, qC⟩])]
abbrev awS : ByteArray := ⟨#[64, 64, 32, 45, 49, 44, 51, 32, 43, 49, 44, 51, 32, 64, 64, 10, 32, 97, 10, 45, 98, 10, 43, 120, 10, 32, 99, 10]⟩
theorem aw_ms : diffV awP awQ (dist awP awQ) = awM := by decide +kernel
theorem aw_of : ofV awP awQ 0 0 (awM ++ [⟨(awP.length : Int), (awQ.length : Int), 0⟩]) = hksG 0 awG := by rfl
theorem aw_blk : blksV (oldG awG ++ [qC]) 1 0 (grpV 1 [] (hksG 0 awG)) = bksS 0 0 awB := by rfl
theorem aw_txt : mkS (fmtL (bksS 0 0 awB)) = awS := by kernel_rfl
theorem aw_sz {l : Lns} (h : l.all (fun s => decide (s.size ≤ 1)) = true) : ∀ s ∈ l, s.size ≤ Reach := fun s hs => by
  have := List.all_eq_true.1 h s hs
  have h1 : s.size ≤ 1 := by simpa using this
  unfold Reach; omega
theorem aw_ok : okS awB := by
  refine ⟨?_, ?_, trivial⟩ <;> simp [chg]
/-- The hunks of the example. -/
theorem aw_diff (A B : Option Addr) (w : World) (ha : Strs w A 3 awP) (hb : Strs w B 3 awQ) :
    Calls Tryz.prog 10 #[.slice A 3 3, .slice B 3 3, .int .i64 1] w fun r w' => Ext w w' ∧ ∃ C k e, r = .returned (.tuple #[.slice C k e, .int .i64 0]) ∧ LeadM w' C k e awG [qC] awP awQ := by
  have hv : checkV awP awQ (-1) (-1) awM = 0 := by have := (diff_ok awP awQ).1; rwa [aw_ms] at this
  have hd := myers_hd A B 3 3 3 3 awP awQ w ha hb (by omega) (by omega)
  rw [aw_ms] at hd
  refine (hdiff_gen A B 3 3 3 3 1 25 awP awQ w ha hb (by omega) (by omega) (by omega) (by omega) (.inl ⟨rfl, rfl⟩) awM hd (by decide) hv).mono ?_
  rintro r w' ⟨hE, v, va, rfl, hM⟩
  rw [aw_of] at hM
  obtain ⟨C, k, e, rfl, hl⟩ := lead_of (L := awG) (t := [qC]) (a := awP) (b := awQ) hM ⟨by decide, by simp, trivial⟩ rfl rfl (by decide) (by decide) (fun s hs => by have := List.all_eq_true.1 (show awP.all (fun s => decide (s.size ≤ 100000)) = true by decide) s hs; simpa using this) (fun s hs => by have := List.all_eq_true.1 (show awQ.all (fun s => decide (s.size ≤ 100000)) = true by decide) s hs; simpa using this)
  exact ⟨hE, C, k, e, rfl, hl⟩
theorem aw_fits : Fits (bksS 0 0 awB) := fits_of (by decide) (by decide) (fun s hs => by
    have := List.all_eq_true.1 (show (oldS awB).all (fun s => decide ((10 : UInt8) ∉ s.data.toList ∧ s.size ≤ 100000)) = true by decide) s hs; exact of_decide_eq_true this) (fun s hs => by
    have := List.all_eq_true.1 (show (newS awB).all (fun s => decide ((10 : UInt8) ∉ s.data.toList ∧ s.size ≤ 100000)) = true by decide) s hs; exact of_decide_eq_true this) aw_ok
theorem aw_okk : okKs 0 (-1) (bksS 0 0 awB) := by
  have h := okKs_of awB 0 0 (-1) aw_ok (by decide) (by decide) (by decide) (.inl (by decide))
  rwa [show ((0 : Nat) : Int) - ((0 : Nat) : Int) = 0 from rfl] at h
set_option maxRecDepth 100000 in
set_option maxHeartbeats 8000000 in
theorem awake_any (w : World) : Calls Tryz.prog 6 #[] w fun e w' => e = .returned (.bool true) ∧ Ext w w' := by
  have hsp : Strs ((w.alloc (.cells (awP.map Value.string).toArray 9)).alloc (.cells (awQ.map Value.string).toArray 9)) (some ⟨w.heap.size, 0, none⟩) 3 awP := Strs.of_blk (ss := awP) ((Blk.new w _ rfl).alloc _) rfl (aw_sz rfl)
  have hsq : Strs ((w.alloc (.cells (awP.map Value.string).toArray 9)).alloc (.cells (awQ.map Value.string).toArray 9)) (some ⟨w.heap.size + 1, 0, none⟩) 3 awQ := Strs.of_blk (ss := awQ) (Blk.new (w.alloc _) _ (by simp)) rfl (aw_sz rfl)
  have SP := Lib.hid hsp; have SQ := Lib.hid hsq; clear hsp hsq
  go_enter Tryz.func6, Tryz.ntmps6
  go_wp2_with fail
  refine (aw_diff _ _ _ SP.out SQ.out).mono ?_
  rintro r w1 ⟨hE1, C, k, e, rfl, hl⟩
  have SP1 := Lib.hid (SP.out.ext hE1); have SQ1 := Lib.hid (SQ.out.ext hE1)
  have HE1 := Lib.hid ((((Ext.refl w).alloc _).alloc _).trans hE1)
  have hk0 := hl.k0; have hke := hl.ke; have he0 := hl.e0
  have HL := Lib.hid hl
  clear hl hE1 SP SQ
  have hbl := blocks_any (some ⟨w.heap.size, 0, none⟩) C 3 3 k e awG [qC] 1 w1 SP1.out HL.out.h HL.out.ok (by omega) (by omega) (by decide) (by omega) hke he0 (by omega) (by decide) (fun s hs => by have := aw_sz (l := oldG awG ++ [qC]) rfl s hs; have h2 := List.all_eq_true.1 (show (oldG awG ++ [qC]).all (fun s => decide (s.size ≤ 100000)) = true by decide) s hs; simpa using h2) (fun s hs => by have h2 := List.all_eq_true.1 (show (newG awG).all (fun s => decide (s.size ≤ 100000)) = true by decide) s hs; simpa using h2)
  rw [aw_blk] at hbl
  have HBL := Lib.hid hbl
  clear hbl
  go_wp2_with fail
  refine HBL.out.mono ?_
  rintro r w2 ⟨hE2, C2, k2, e2, rfl, hk2, he2, hB2⟩
  have hlen2 : k2 = 1 := by have := hB2.len; simpa [bksS_len] using this.symm
  subst hlen2
  have HE2 := Lib.hid (HE1.out.trans hE2); have SP2 := Lib.hid (SP1.out.ext hE2); have SQ2 := Lib.hid (SQ1.out.ext hE2); have HB2 := Lib.hid hB2
  clear hE2 hB2 HBL
  go_wp2_with fail
  have hfm := format_any C2 1 e2 (bksS 0 0 awB) w2 HB2.out (by omega) hk2 he2 aw_okk aw_fits.fit aw_fits.len
  rw [aw_txt] at hfm
  refine hfm.mono ?_
  rintro r w3 ⟨rfl, hE3⟩
  have HE3 := Lib.hid (HE2.out.trans hE3); have SP3 := Lib.hid (SP2.out.ext hE3); have SQ3 := Lib.hid (SQ2.out.ext hE3); have HB3 := Lib.hid (HB2.out.ext hE3)
  clear hE3 hfm
  have hap := apply_any (some ⟨w.heap.size, 0, none⟩) C2 3 3 1 e2 awB [] w3 SP3.out HB3.out (by omega) (by omega) (by decide) (by omega) hk2 he2 aw_okk aw_fits.fit (by decide) (fun s hs => aw_sz (l := newS awB) rfl s hs)
  have HAP := Lib.hid hap
  clear hap
  go_wp2_with fail
  refine HAP.out.mono ?_
  rintro r w4 ⟨hE4, v4, pA, pc, rfl, ho4⟩
  obtain ⟨A4, c4, hv4, hc4, hS4⟩ := own_strs ho4 (fun s hs => aw_sz (l := newS awB ++ []) rfl s hs)
  replace hv4 : v4 = .slice A4 3 c4 := hv4
  replace hS4 : Strs w4 A4 3 awQ := hS4
  subst hv4
  have q1 := same04_any A4 (some ⟨w.heap.size + 1, 0, none⟩) 3 3 c4 3 _ _ w4 hS4 (SQ3.out.ext hE4) (by decide) (by decide)
  rw [decide_eq_true rfl] at q1
  have Q1 := Lib.hid q1; have HE4 := Lib.hid (HE3.out.trans hE4)
  clear q1 hE4 hS4 ho4 HAP
  go_wp2_with fail
  refine Q1.out.mono ?_
  rintro r w5 ⟨rfl, hE5⟩
  have HE5 := Lib.hid (HE4.out.trans hE5)
  clear hE5
  go_wp2_with fail
  go_ret
  exact ⟨rfl, HE5.out⟩
end Go.Proofs.YtmmcjcaccicheaaGreatDoor
/- What the three algorithms find, as hunks: the contract of hunks.Diff for the course of the law. -/
namespace Go.Proofs.YtmmcjcaccicheaaGreatDoor
open Go.RowKit
theorem sizes_wf {a b : Lns} {ms : List Mt} (h : checkV a b (-1) (-1) ms = 0) (ha : a.length ≤ 1000) (hb : b.length ≤ 1000) : (∀ m ∈ ms, m.wf) ∧ ms.length ≤ a.length := by
  have hs := check_sizes ms (-1) (-1) h (by show (-1 : Int).toNat ≤ _; simp)
  refine ⟨fun m hm => ?_, by have := hs.1; omega⟩
  have := hs.2 m hm
  exact mt_wf_small (by omega) (by omega) (by omega)
theorem histogram_hd (A B : Option Addr) (n c m d : Nat) (a b : Lns) (w : World) (ha : Strs w A n a) (hb : Strs w B m b) (hn : n ≤ 60) (hm : m ≤ 60) (hnc : n ≤ c) (hmd : m ≤ d) :
    ∀ w', Ext w w' → Calls Tryz.prog 27 #[.slice A n c, .slice B m d] w' fun r w'' => Ext w' w'' ∧ ∃ C ln lc, r = .returned (.slice C ln lc) ∧ ln ≤ lc ∧ Mts w'' C ln (hdiffV (a.length + 1) a b) := by
  intro w' hE
  have la := ha.1; have lb := hb.1
  have hv := hdiff_ok (a.length + 1) a b (by omega) (by omega)
  refine (hdiff_any (a.length + 1) A B n c m d a b w' (by omega) (ha.ext hE) (hb.ext hE) hn hm hnc hmd).mono ?_
  rintro e w'' ⟨v, rfl, ho, hE2⟩
  obtain ⟨C, k, rfl, hk, hM⟩ := ownM_mts ho (sizes_wf hv (by omega) (by omega)).1
  exact ⟨hE2, C, _, k, rfl, hk, hM⟩
theorem adiff_any (A B : Option Addr) (n c m d al : Nat) (a b : Lns) (w : World) (ha : Strs w A n a) (hb : Strs w B m b) (hn : n ≤ 40) (hm : m ≤ 40) (hnc : n ≤ c) (hmd : m ≤ d) (hal : al = 1 ∨ al = 2 ∨ al = 3) (hsa : ∀ s ∈ a, s.size ≤ 100000) (hsb : ∀ s ∈ b, s.size ≤ 100000) :
    Calls Tryz.prog 10 #[.slice A n c, .slice B m d, .int .i64 al] w fun r w' => Ext w w' ∧ ∃ C k e L t, r = .returned (.tuple #[.slice C k e, .int .i64 0]) ∧ LeadM w' C k e L t a b ∧ dist a b ≤ sizeG L ∧ (al = 1 → sizeG L = dist a b) := by
  have la := ha.1; have lb := hb.1
  have fin : ∀ (ms : List Mt), checkV a b (-1) (-1) ms = 0 → (al = 1 → (a.length : Int) + b.length - 2 * keptV ms = dist a b) → ∀ (f : Nat), (al = 1 ∧ f = 25 ∨ al = 2 ∧ f = 26 ∨ al = 3 ∧ f = 27) → (∀ w', Ext w w' → Calls Tryz.prog f #[.slice A n c, .slice B m d] w' fun r w'' => Ext w' w'' ∧ ∃ C ln lc, r = .returned (.slice C ln lc) ∧ ln ≤ lc ∧ Mts w'' C ln ms) →
      Calls Tryz.prog 10 #[.slice A n c, .slice B m d, .int .i64 al] w fun r w' => Ext w w' ∧ ∃ C k e L t, r = .returned (.tuple #[.slice C k e, .int .i64 0]) ∧ LeadM w' C k e L t a b ∧ dist a b ≤ sizeG L ∧ (al = 1 → sizeG L = dist a b) := by
    intro ms hv h1 f hf hd
    have hsz := sizes_wf hv (by omega) (by omega)
    refine (hdiff_gen A B n c m d al f a b w ha hb (by omega) (by omega) hnc hmd hf ms hd (by omega) hv).mono ?_
    rintro r w' ⟨hE, v, va, rfl, hM⟩
    obtain ⟨L, t, e1, e2, e3, e4, e5⟩ := of_law hv
    rw [e1] at hM
    obtain ⟨C, k, e, rfl, hl⟩ := lead_of hM e4 e2 e3 (by omega) (by omega) hsa hsb
    have hst := check_steps hv
    exact ⟨hE, C, k, e, L, t, rfl, hl, by omega, fun h => by have := h1 h; omega⟩
  rcases hal with rfl | rfl | rfl
  · exact fin _ (diff_ok a b).1 (fun _ => (diff_ok a b).2) _ (.inl ⟨rfl, rfl⟩) (myers_hd A B n c m d a b w ha hb (by omega) (by omega))
  · exact fin _ (pd_ok _ a b) (fun h => by cases h) _ (.inr (.inl ⟨rfl, rfl⟩)) (patience_hd A B n c m d a b w ha hb (by omega) (by omega) hnc hmd)
  · exact fin _ (hdiff_ok (a.length + 1) a b (by omega) (by omega)) (fun h => by cases h) _ (.inr (.inr ⟨rfl, rfl⟩)) (histogram_hd A B n c m d a b w ha hb (by omega) (by omega) hnc hmd)
end Go.Proofs.YtmmcjcaccicheaaGreatDoor
/- TopDifferences, walked. -/
namespace Go.Proofs.YtmmcjcaccicheaaGreatDoor
open Go.RowKit
theorem remt_fin : ∀ n : Fin 256, Int.tmod (wrap64 (n.val : Int)) 101 = ((n.val % 101 : Nat) : Int) := by decide +kernel
theorem remt_byte (x : UInt8) : Int.tmod (wrap64 (x.toNat : Int)) 101 = ((x.toNat % 101 : Nat) : Int) := remt_fin ⟨x.toNat, x.toNat_lt⟩
theorem wrap_fin : ∀ n : Fin 256, wrap64 (n.val : Int) = (n.val : Int) := by decide +kernel
theorem wrap_byte (x : UInt8) : wrap64 (x.toNat : Int) = (x.toNat : Int) := wrap_fin ⟨x.toNat, x.toNat_lt⟩
theorem tabs_wf {a b : Lns} {n : Nat} (ha : a.length ≤ 1000) (hn : n ≤ 1000) : ∀ t ∈ tabsV a b n, (∀ x ∈ t, (Lit.int .i64 x).wf = true) ∧ t.length ≤ n := by
  intro t ht
  obtain ⟨d, hd, rfl⟩ := List.mem_map.1 ht
  rw [List.mem_range] at hd
  refine ⟨fun x hx => ?_, by rw [tabV_len]; omega⟩
  have := tabV_small a b d ha (by omega) x hx
  simp only [Lit.wf, IntKind.min, IntKind.max, IntKind.signed, IntKind.bits, Bool.and_eq_true, decide_eq_true_eq]
  constructor <;> simp <;> omega
set_option maxRecDepth 100000 in
set_option maxHeartbeats 8000000 in
theorem top_walk (s t : ByteArray) (x : UInt8) (w : World) (hmx : Mx w) :
    Calls Tryz.prog 3 #[.string s, .string t, .int .u8 (x.toNat : Int)] w fun e w' => e = .returned (.bool true) ∧ Ext w w' := by
  have HMX := Lib.hid hmx; clear hmx
  go_enter Tryz.func3, Tryz.ntmps3
  go_wp2_with fail
  refine (split_any s _).mono ?_
  rintro r w1 ⟨hE1, A, n, c, a, e1, rfl, hnc, hc0, hn, hA, hsa⟩
  have HE1 := Lib.hid hE1; have HA := Lib.hid hA; have HSA := Lib.hid hsa; clear hE1 hA hsa
  go_wp2_with fail
  refine (split_any t _).mono ?_
  rintro r w2 ⟨hE2, B, m, d, b, e2, rfl, hmd, hd0, hm, hB, hsb⟩
  have HE2 := Lib.hid (HE1.out.trans hE2); have HA2 := Lib.hid (HA.out.ext hE2); have HB := Lib.hid hB; have HSB := Lib.hid hsb; clear hE2 hB hsb HE1 HA
  cases q1 : (e1 != 0) with
  | true =>
    go_wp2_with fail
    refine (awake_any _).mono ?_
    rintro r w3 ⟨rfl, hE3⟩
    go_wp2_with fail
    go_ret
    exact ⟨rfl, HE2.out.trans hE3⟩
  | false =>
  cases q2 : (e2 != 0) with
  | true =>
    go_wp2_with fail
    refine (awake_any _).mono ?_
    rintro r w3 ⟨rfl, hE3⟩
    go_wp2_with fail
    go_ret
    exact ⟨rfl, HE2.out.trans hE3⟩
  | false =>
  have hg1 := great04_any A n c a w2 HA2.out (by unfold Reach; omega)
  have hg2 := great04_any B m d b w2 HB.out (by unfold Reach; omega)
  cases g1 : great04 a with
  | true =>
    rw [g1] at hg1
    clear hg2
    go_wp2_with fail
    refine hg1.mono ?_
    rintro r w3 ⟨rfl, rfl⟩
    go_wp2_with fail
    refine (awake_any _).mono ?_
    rintro r w3 ⟨rfl, hE3⟩
    go_wp2_with fail
    go_ret
    exact ⟨rfl, HE2.out.trans hE3⟩
  | false =>
  rw [g1] at hg1
  cases g2 : great04 b with
  | true =>
    rw [g2] at hg2
    go_wp2_with fail
    refine hg1.mono ?_
    rintro r w3 ⟨rfl, rfl⟩
    go_wp2_with fail
    refine hg2.mono ?_
    rintro r w3 ⟨rfl, rfl⟩
    go_wp2_with fail
    refine (awake_any _).mono ?_
    rintro r w3 ⟨rfl, hE3⟩
    go_wp2_with fail
    go_ret
    exact ⟨rfl, HE2.out.trans hE3⟩
  | false =>
  rw [g2] at hg2
  have hna : n ≤ 40 := by
    have h1 := HA2.out.1
    unfold great04 at g1
    simp only [Bool.or_eq_false_iff, decide_eq_false_iff_not] at g1
    omega
  have hmb : m ≤ 40 := by
    have h1 := HB.out.1
    unfold great04 at g2
    simp only [Bool.or_eq_false_iff, decide_eq_false_iff_not] at g2
    omega
  have hD := dist_le a b
  have hla := HA2.out.1; have hlb := HB.out.1
  obtain ⟨cx, hcx⟩ : ∃ cx : Nat, x.toNat % 101 = cx := ⟨_, rfl⟩
  have hcx0 : cx ≤ 100 := by omega
  have hr1 := wrap_byte x
  have hr := remt_byte x
  rw [hr1] at hr
  rw [hcx] at hr
  clear g1 g2 hcx
  obtain ⟨X, hX⟩ : ∃ X : Int, (x.toNat : Int) = X := ⟨_, rfl⟩
  rw [hX] at hr hr1 ⊢
  clear hX
  go_wp2_with fail
  refine hg1.mono ?_
  rintro r w3 ⟨rfl, rfl⟩
  go_wp2_with fail
  refine hg2.mono ?_
  rintro r w3 ⟨rfl, rfl⟩
  clear hg1 hg2
  go_wp2_with fail
  refine (distance_any A B n c m d a b w2 HA2.out HB.out (by omega) (by omega) (dist a b) (by omega) (last_dist a b)).mono ?_
  rintro r w3 ⟨rfl, hE3⟩
  have HE3 := Lib.hid (HE2.out.trans hE3); have HA3 := Lib.hid (HA2.out.ext hE3); have HB3 := Lib.hid (HB.out.ext hE3)
  clear hE3
  have hcert := certificate_any A B n c m d a b w3 HA3.out HB3.out (by omega) (by omega) (dist a b) (by omega) (last_dist a b)
  have hct := cert_tabs a b
  have htw := tabs_wf (a := a) (b := b) (n := dist a b) (by omega) (by omega)
  have hnz : 0 ≤ dist a b := Nat.zero_le _
  have HCT := Lib.hid hct; have HTW := Lib.hid htw; have HCE := Lib.hid hcert
  clear hct htw hcert
  obtain ⟨D, hDD⟩ : ∃ D, dist a b = D := ⟨_, rfl⟩
  rw [hDD] at HCT HTW HCE hD ⊢
  have HDD := Lib.hid hDD
  clear hDD
  go_wp2_with fail
  refine HCE.out.mono ?_
  rintro r w4 ⟨g, cc, L, rfl, hR, hL, hE4⟩
  have hcf := certify_any A B (some ⟨g, 0, none⟩) n c m d D cc a b L w4 (HA3.out.ext hE4) (HB3.out.ext hE4) (by omega) (by omega) hR (by omega) (fun s hs x hx => (HTW.out s.t (by rw [← hL]; exact List.mem_map_of_mem hs)).1 x hx) (fun s hs => by
    have h1 := (HTW.out s.t (by rw [← hL]; exact List.mem_map_of_mem hs)).2
    have h2 := (hR.2.1 s hs).2.1
    omega)
  rw [hL, HCT.out] at hcf
  have HCF := Lib.hid hcf; have HE4 := Lib.hid (HE3.out.trans hE4); have HA4 := Lib.hid (HA3.out.ext hE4); have HB4 := Lib.hid (HB3.out.ext hE4)
  clear hcf hE4 hR hL
  go_wp2_with fail
  refine HCF.out.mono ?_
  rintro r w5 ⟨rfl, hE5⟩
  have HE5 := Lib.hid (HE4.out.trans hE5); have HA5 := Lib.hid (HA4.out.ext hE5); have HB5 := Lib.hid (HB4.out.ext hE5)
  clear hE5 HE2 HE3 HE4 HA2 HA3 HA4 HB HB3 HB4 HCE HCF HCT HTW
  go_wp2_with fail
  go_loopw [13] (fun i wr => ∃ k : Nat, 1 ≤ k ∧ k ≤ 4 ∧ i = .int .i64 k ∧ Ext w5 wr) (fun i _ => 4 - (intOf i).toNat)
  case atStart => exact ⟨1, by omega, by omega, rfl, Ext.refl _⟩
  case round =>
    obtain ⟨k, hk1, hk4, rfl, hE⟩ := hrel
    have HE := Lib.hid hE; clear hE
    by_cases hlt : k ≤ 3
    · have hsa : ∀ s ∈ a, s.size ≤ 100000 := fun s hs => (HSA.out s hs).2
      have hsb : ∀ s ∈ b, s.size ≤ 100000 := fun s hs => (HSB.out s hs).2
      have had := adiff_any A B n c m d k a b wr (HA5.out.ext HE.out) (HB5.out.ext HE.out) hna hmb hnc hmd (by omega) hsa hsb
      have HAD := Lib.hid had; have SA := Lib.hid hsa; have SB := Lib.hid hsb
      clear had hsa hsb
      go_wp2_with fail
      refine HAD.out.mono ?_
      rintro r w6 ⟨hE6, C, kk, ee, L, t, rfl, hl, hs1, hs2⟩
      rw [HDD.out] at hs1 hs2
      have HE6 := Lib.hid (HE.out.trans hE6); have HL := Lib.hid hl; have S2 := Lib.hid hs2
      clear hE6 hl hs2 HAD
      go_wp2_with fail
      refine (ainv_any C kk ee L t a b w6 HL.out (by omega) (by omega) SA.out SB.out).mono ?_
      rintro r w7 ⟨hE7, C', k', e', rfl, hl'⟩
      have HE7 := Lib.hid (HE6.out.trans hE7); have HL7 := Lib.hid (HL.out.ext hE7); have HV7 := Lib.hid hl'
      clear hE7 hl'
      go_wp2_with fail
      refine (alead_any A B C n c m d kk ee L t a b cx w7 (HA5.out.ext HE7.out) (HB5.out.ext HE7.out) HL7.out hna hmb hnc hc0 hmd hcx0 HSA.out HSB.out (HMX.out.ext (HE5.out.trans HE7.out))).mono ?_
      rintro r w8 ⟨rfl, hE8⟩
      have HE8 := Lib.hid (HE7.out.trans hE8); have HL8 := Lib.hid (HL7.out.ext hE8); have HV8 := Lib.hid (HV7.out.ext hE8)
      clear hE8
      go_wp2_with fail
      refine (alead_any B A C' m d n c k' e' (swG L) t b a cx w8 (HB5.out.ext HE8.out) (HA5.out.ext HE8.out) HV8.out hmb hna hmd hd0 hnc hcx0 HSB.out HSA.out (HMX.out.ext (HE5.out.trans HE8.out))).mono ?_
      rintro r w9 ⟨rfl, hE9⟩
      have HE9 := Lib.hid (HE8.out.trans hE9); have HL9 := Lib.hid (HL8.out.ext hE9)
      clear hE9
      go_wp2_with fail
      refine (asize_any C kk ee L t a b w9 HL9.out (by omega) (by omega)).mono ?_
      rintro r w10 ⟨rfl, hE10⟩
      have HE10 := Lib.hid (HE9.out.trans hE10)
      clear hE10
      obtain ⟨z, hz⟩ : ∃ z, sizeG L = z := ⟨_, rfl⟩
      rw [hz] at hs1 S2 ⊢
      clear hz
      have z1 : ¬ ((z : Int) < (D : Int)) := by omega
      by_cases hk : k = 1
      · have e1 : (((k : Nat) : Int) == 1) = true := by subst hk; rfl
        have e2 : ((z : Int) != (D : Int)) = false := by have := S2.out hk; subst this; simp
        go_wp2_with fail
        go_roundw
        case rel => exact ⟨k + 1, by omega, by omega, by go_num, HE10.out⟩
        case measure => simp [intOf]; omega
      · have e1 : (((k : Nat) : Int) == 1) = false := by rw [beq_eq_false_iff_ne]; omega
        go_wp2_with fail
        go_roundw
        case rel => exact ⟨k + 1, by omega, by omega, by go_num, HE10.out⟩
        case measure => simp [intOf]; omega
    · go_wp2_with fail
      refine (awake_any _).mono ?_
      rintro r w6 ⟨rfl, hE6⟩
      go_wp2_with fail
      go_ret
      exact ⟨rfl, (HE5.out.trans HE.out).trans hE6⟩
end Go.Proofs.YtmmcjcaccicheaaGreatDoor
