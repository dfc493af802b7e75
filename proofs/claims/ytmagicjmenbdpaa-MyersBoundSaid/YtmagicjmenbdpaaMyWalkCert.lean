/- MyersCertify, MyersCertificate, MyersBound: the walks. -/
import Derived.Test.YtmagicjmenbdpaaMyWalks
import Derived.Test.YtmagicjmenbdpaaMyRefCert
import Derived.Test.YtmagicjmenbdpaaMyCertLaws
namespace Go.Proofs.Ytmagicjmenbdpaa
open Go.RowKit

theorem long_small {L : List TB} (h : longV L = false) : L.length ≤ 26 ∧ ∀ s ∈ L, s.n ≤ 27 := by
  unfold longV at h
  simp only [Bool.or_eq_false_iff, decide_eq_false_iff_not, List.any_eq_false, decide_eq_true_eq] at h
  exact ⟨by omega, fun s hs => by have := h.2 s hs; omega⟩
theorem certify_is {A B C : Option Addr} {n c m cd ln lc : Nat} {a b : Lns} {L : List TB} {r : Bool} {w : World} (h : certV a b [] 0 (L.map (·.t)) = r) (ha : Strs w A n a) (hb : Strs w B m b) (hn : n ≤ 100) (hm : m ≤ 100)
    (hl : RTBs w C ln L) (hln : ln ≤ 100) (hwf : ∀ s ∈ L, ∀ x ∈ s.t, (Lit.int .i64 x).wf = true) (hsn : ∀ s ∈ L, s.n ≤ 300) :
    Calls Try.prog 28 #[.slice A n c, .slice B m cd, .slice C ln lc] w fun e w' => e = .returned (.bool r) ∧ Ext w w' := by
  subst h; exact certify_any A B C n c m cd ln lc a b L w ha hb hn hm hl hln hwf hsn

set_option maxRecDepth 100000 in
set_option maxHeartbeats 8000000 in
theorem certify_walk {A : Option Addr} {n c : Nat} {a : Lns} {B : Option Addr} {m d : Nat} {b : Lns} {E : Option Addr} {tn tc : Nat} {T : List TB} (w : World) (ha : Strs w A n a) (hac : n ≤ c) (han : n ≤ Reach) (hb : Strs w B m b) (hbc : m ≤ d) (hbn : m ≤ Reach) (htn : tn ≤ Reach) (hT : RTBs w E tn T ∧ ∀ s ∈ T, ∀ x ∈ s.t, (Lit.int .i64 x).wf = true) :
    Calls Try.prog 9 #[.slice A n c, .slice B m d, .slice E tn tc] w (Good w) := by
  have HA := Lib.hid ha; have HB := Lib.hid hb; have HT := Lib.hid hT.1; have HTW := Lib.hid hT.2; clear ha hb hT
  have HG := Lib.hid (rss2 (c := c) (d := d) HA.out han HB.out hbn)
  by_cases hg : ([(⟨A, n, c, a⟩ : SS), ⟨B, m, d, b⟩].any fun s => great03 s.l) = true
  · have HGR := Lib.hid hg; clear hg
    go_enter Try.func9, Try.ntmps9
    go_wp2_with fail
    refine (great_new (L := [(⟨A, n, c, a⟩ : SS), ⟨B, m, d, b⟩]) rfl HGR.out HG.out (by simp)).mono ?_
    rintro e w1 ⟨rfl, hE⟩
    have HE := Lib.hid hE; clear hE
    go_wp2_with fail
    refine (awake_any _).mono ?_
    rintro e w9 ⟨rfl, hE⟩
    have HE9 := Lib.hid (HE.out.trans hE); clear hE
    go_wp2_with fail
    go_ret
    exact ⟨rfl, HE9.out⟩
  have hg' : ([(⟨A, n, c, a⟩ : SS), ⟨B, m, d, b⟩].any fun s => great03 s.l) = false := by simpa using hg
  have h1 : n ≤ 12 := by rw [← HA.out.1]; exact great03_len (by simp at hg'; exact hg'.1)
  have h2 : m ≤ 12 := by rw [← HB.out.1]; exact great03_len (by simp at hg'; exact hg'.2)
  have HGR := Lib.hid hg'; clear hg hg'
  cases hlg : longV T with
  | true =>
    have HLG := Lib.hid hlg; clear hlg
    go_enter Try.func9, Try.ntmps9
    go_wp2_with fail
    refine (great_new (L := [(⟨A, n, c, a⟩ : SS), ⟨B, m, d, b⟩]) rfl HGR.out HG.out (by simp)).mono ?_
    rintro e w1 ⟨rfl, hE⟩
    have HE := Lib.hid hE; clear hE
    go_wp2_with fail
    refine (long_is HLG.out (HT.out.ext HE.out) htn).mono ?_
    rintro e w2 ⟨rfl, rfl⟩
    go_wp2_with fail
    refine (awake_any _).mono ?_
    rintro e w9 ⟨rfl, hE⟩
    have HE9 := Lib.hid (HE.out.trans hE); clear hE
    go_wp2_with fail
    go_ret
    exact ⟨rfl, HE9.out⟩
  | false =>
    obtain ⟨hl1, hl2⟩ := long_small hlg
    rw [HT.out.1] at hl1
    have HLG := Lib.hid hlg; have HL2 := Lib.hid hl2; clear hlg hl2
    go_enter Try.func9, Try.ntmps9
    go_wp2_with fail
    refine (great_new (L := [(⟨A, n, c, a⟩ : SS), ⟨B, m, d, b⟩]) rfl HGR.out HG.out (by simp)).mono ?_
    rintro e w1 ⟨rfl, hE⟩
    have HE := Lib.hid hE; clear hE
    go_wp2_with fail
    refine (long_is HLG.out (HT.out.ext HE.out) htn).mono ?_
    rintro e w2 ⟨rfl, rfl⟩
    go_wp2_with fail
    refine (certify_any A B E n c m d tn tc a b T _ (HA.out.ext HE.out) (HB.out.ext HE.out) (by omega) (by omega) (HT.out.ext HE.out) (by omega) HTW.out (fun s hs => by have := HL2.out s hs; omega)).mono ?_
    rintro e w3 ⟨rfl, hE⟩
    have HE2 := Lib.hid (HE.out.trans hE); clear hE
    go_wp2_with fail
    refine (rcertify_any A B E n c m d tn tc a b T _ (HA.out.ext HE2.out) (HB.out.ext HE2.out) (by omega) (by omega) (HT.out.ext HE2.out) (by omega) HTW.out (fun s hs => by have := HL2.out s hs; omega)).mono ?_
    rintro e w4 ⟨rfl, hE⟩
    have HE3 := Lib.hid (HE2.out.trans hE); clear hE
    go_wp2_with fail
    refine (awake_any _).mono ?_
    rintro e w9 ⟨rfl, hE⟩
    have HE9 := Lib.hid (HE3.out.trans hE); clear hE
    go_wp2_with fail
    go_ret
    exact ⟨rfl, HE9.out⟩

set_option maxRecDepth 100000 in
set_option maxHeartbeats 8000000 in
theorem certificate_walk {A : Option Addr} {n c : Nat} {a : Lns} {B : Option Addr} {m d : Nat} {b : Lns}  (w : World) (ha : Strs w A n a) (hac : n ≤ c) (han : n ≤ Reach) (hb : Strs w B m b) (hbc : m ≤ d) (hbn : m ≤ Reach)  :
    Calls Try.prog 10 #[.slice A n c, .slice B m d] w (Good w) := by
  have HA := Lib.hid ha; have HB := Lib.hid hb; clear ha hb 
  have HG := Lib.hid (rss2 (c := c) (d := d) HA.out han HB.out hbn)
  by_cases hg : ([(⟨A, n, c, a⟩ : SS), ⟨B, m, d, b⟩].any fun s => great03 s.l) = true
  · have HGR := Lib.hid hg; clear hg
    go_enter Try.func10, Try.ntmps10
    go_wp2_with fail
    refine (great_new (L := [(⟨A, n, c, a⟩ : SS), ⟨B, m, d, b⟩]) rfl HGR.out HG.out (by simp)).mono ?_
    rintro e w1 ⟨rfl, hE⟩
    have HE := Lib.hid hE; clear hE
    go_wp2_with fail
    refine (awake_any _).mono ?_
    rintro e w9 ⟨rfl, hE⟩
    have HE9 := Lib.hid (HE.out.trans hE); clear hE
    go_wp2_with fail
    go_ret
    exact ⟨rfl, HE9.out⟩
  have hg' : ([(⟨A, n, c, a⟩ : SS), ⟨B, m, d, b⟩].any fun s => great03 s.l) = false := by simpa using hg
  have h1 : n ≤ 12 := by rw [← HA.out.1]; exact great03_len (by simp at hg'; exact hg'.1)
  have h2 : m ≤ 12 := by rw [← HB.out.1]; exact great03_len (by simp at hg'; exact hg'.2)
  have HGR := Lib.hid hg'; clear hg hg'
  have hla := HA.out.1; have hlb := HB.out.1
  have hD : dist a b ≤ 24 := by have := dist_le a b; omega
  have HLA := Lib.hid hla; have HLB := Lib.hid hlb; clear hla hlb
  go_enter Try.func10, Try.ntmps10
  go_wp2_with fail
  refine (great_new (L := [(⟨A, n, c, a⟩ : SS), ⟨B, m, d, b⟩]) rfl HGR.out HG.out (by simp)).mono ?_
  rintro e w1 ⟨rfl, hE⟩
  have HE := Lib.hid hE; clear hE
  go_wp2_with fail
  refine (certificate_any A B n c m d a b _ (HA.out.ext HE.out) (HB.out.ext HE.out) (by omega) (by omega) (dist a b) (by omega) (last_dist a b)).mono ?_
  rintro e w2 ⟨g7, c7, T, rfl, hL7, hT7, hE⟩
  have hwf : ∀ s ∈ T, ∀ x ∈ s.t, (Lit.int .i64 x).wf = true := by
    intro s hs x hx
    have h1 : s.t ∈ tabsV a b (dist a b) := by rw [← hT7]; exact List.mem_map.2 ⟨s, hs, rfl⟩
    obtain ⟨d', hd', he⟩ := List.mem_map.1 h1
    have := List.mem_range.1 hd'
    rw [← he] at hx
    have hb := tabV_bound a b d' x hx
    have := HLA.out
    exact WalkArith.wf_i64 ⟨by omega, by omega⟩
  have hsn : ∀ s ∈ T, s.n ≤ 300 := by
    intro s hs
    have h1 : s.t ∈ tabsV a b (dist a b) := by rw [← hT7]; exact List.mem_map.2 ⟨s, hs, rfl⟩
    obtain ⟨d', hd', he⟩ := List.mem_map.1 h1
    have := List.mem_range.1 hd'
    have hlen := tabV_len a b d'
    have := (hL7.2.1 s hs).2.1
    rw [← he, hlen] at this
    omega
  have HE2 := Lib.hid (HE.out.trans hE); have HL7 := Lib.hid hL7; have HT7 := Lib.hid hT7; have HWF := Lib.hid hwf; have HSN := Lib.hid hsn; clear hE hL7 hT7 hwf hsn
  go_wp2_with fail
  refine (certify_is (r := true) (by rw [HT7.out]; exact cert_tabs a b) (HA.out.ext HE2.out) (HB.out.ext HE2.out) (by omega) (by omega) HL7.out (by omega) HWF.out HSN.out).mono ?_
  rintro e w3 ⟨rfl, hE⟩
  have HE3 := Lib.hid (HE2.out.trans hE); clear hE
  go_wp2_with fail
  refine (distance_any A B n c m d a b _ (HA.out.ext HE3.out) (HB.out.ext HE3.out) (by omega) (by omega) (dist a b) (by have := dist_le a b; have := HA.out.1; have := HB.out.1; omega) (last_dist a b)).mono ?_
  rintro e w4 ⟨rfl, hE⟩
  have HE4 := Lib.hid (HE3.out.trans hE); clear hE
  go_wp2_with fail
  refine (awake_any _).mono ?_
  rintro e w9 ⟨rfl, hE⟩
  have HE9 := Lib.hid (HE4.out.trans hE); clear hE
  go_wp2_with fail
  go_ret
  exact ⟨rfl, HE9.out⟩

set_option maxRecDepth 100000 in
set_option maxHeartbeats 8000000 in
theorem bound_walk {A : Option Addr} {n c : Nat} {a : Lns} {B : Option Addr} {m d : Nat} {b : Lns} {E : Option Addr} {tn tc : Nat} {T : List TB} {D : Option Addr} {ln lc : Nat} {l : List Mt} (w : World) (ha : Strs w A n a) (hac : n ≤ c) (han : n ≤ Reach) (hb : Strs w B m b) (hbc : m ≤ d) (hbn : m ≤ Reach) (htn : tn ≤ Reach) (hT : RTBs w E tn T ∧ ∀ s ∈ T, ∀ x ∈ s.t, (Lit.int .i64 x).wf = true) (hln : ln ≤ Reach) (hl : Mts w D ln l) :
    Calls Try.prog 11 #[.slice A n c, .slice B m d, .slice E tn tc, .slice D ln lc] w (Good w) := by
  have HA := Lib.hid ha; have HB := Lib.hid hb; have HT := Lib.hid hT.1; have HTW := Lib.hid hT.2; have HL := Lib.hid hl; clear ha hb hT hl
  have HG := Lib.hid (rss2 (c := c) (d := d) HA.out han HB.out hbn)
  by_cases hg : ([(⟨A, n, c, a⟩ : SS), ⟨B, m, d, b⟩].any fun s => great03 s.l) = true
  · have HGR := Lib.hid hg; clear hg
    go_enter Try.func11, Try.ntmps11
    go_wp2_with fail
    refine (great_new (L := [(⟨A, n, c, a⟩ : SS), ⟨B, m, d, b⟩]) rfl HGR.out HG.out (by simp)).mono ?_
    rintro e w1 ⟨rfl, hE⟩
    have HE := Lib.hid hE; clear hE
    go_wp2_with fail
    refine (awake_any _).mono ?_
    rintro e w9 ⟨rfl, hE⟩
    have HE9 := Lib.hid (HE.out.trans hE); clear hE
    go_wp2_with fail
    go_ret
    exact ⟨rfl, HE9.out⟩
  have hg' : ([(⟨A, n, c, a⟩ : SS), ⟨B, m, d, b⟩].any fun s => great03 s.l) = false := by simpa using hg
  have h1 : n ≤ 12 := by rw [← HA.out.1]; exact great03_len (by simp at hg'; exact hg'.1)
  have h2 : m ≤ 12 := by rw [← HB.out.1]; exact great03_len (by simp at hg'; exact hg'.2)
  have HGR := Lib.hid hg'; clear hg hg'
  unfold Reach at hln
  cases hlg : longV T with
  | true =>
    have HLG := Lib.hid hlg; clear hlg
    go_enter Try.func11, Try.ntmps11
    go_wp2_with fail
    refine (great_new (L := [(⟨A, n, c, a⟩ : SS), ⟨B, m, d, b⟩]) rfl HGR.out HG.out (by simp)).mono ?_
    rintro e w1 ⟨rfl, hE⟩
    have HE := Lib.hid hE; clear hE
    go_wp2_with fail
    refine (long_is HLG.out (HT.out.ext HE.out) htn).mono ?_
    rintro e w2 ⟨rfl, rfl⟩
    go_wp2_with fail
    refine (awake_any _).mono ?_
    rintro e w9 ⟨rfl, hE⟩
    have HE9 := Lib.hid (HE.out.trans hE); clear hE
    go_wp2_with fail
    go_ret
    exact ⟨rfl, HE9.out⟩
  | false =>
    obtain ⟨hl1, hl2⟩ := long_small hlg
    rw [HT.out.1] at hl1
    have HLG := Lib.hid hlg; have HL2 := Lib.hid hl2; clear hlg hl2
    by_cases h10 : 10 < ln
    case pos =>
      go_enter Try.func11, Try.ntmps11
      go_wp2_with fail
      refine (great_new (L := [(⟨A, n, c, a⟩ : SS), ⟨B, m, d, b⟩]) rfl HGR.out HG.out (by simp)).mono ?_
      rintro e w1 ⟨rfl, hE⟩
      have HE := Lib.hid hE; clear hE
      go_wp2_with fail
      refine (long_is HLG.out (HT.out.ext HE.out) htn).mono ?_
      rintro e w2 ⟨rfl, rfl⟩
      go_wp2_with fail
      refine (awake_any _).mono ?_
      rintro e w9 ⟨rfl, hE⟩
      have HE9 := Lib.hid (HE.out.trans hE); clear hE
      go_wp2_with fail
      go_ret
      exact ⟨rfl, HE9.out⟩
    by_cases hch : checkV a b (-1) (-1) l = 0
    case neg =>
      have hch' : (checkV a b (-1) (-1) l != 0) = true := by simpa using hch
      clear hch
      go_enter Try.func11, Try.ntmps11
      go_wp2_with fail
      refine (great_new (L := [(⟨A, n, c, a⟩ : SS), ⟨B, m, d, b⟩]) rfl HGR.out HG.out (by simp)).mono ?_
      rintro e w1 ⟨rfl, hE⟩
      have HE := Lib.hid hE; clear hE
      go_wp2_with fail
      refine (long_is HLG.out (HT.out.ext HE.out) htn).mono ?_
      rintro e w2 ⟨rfl, rfl⟩
      go_wp2_with fail
      refine (refCheck_any A B D n c m d ln lc a b l _ (HA.out.ext HE.out) (HB.out.ext HE.out) (HL.out.ext HE.out) (by omega) (by omega) (by omega)).mono ?_
      rintro e w3 ⟨rfl, hE⟩
      have HE2 := Lib.hid (HE.out.trans hE); clear hE
      go_wp2_with fail
      refine (awake_any _).mono ?_
      rintro e w9 ⟨rfl, hE⟩
      have HE9 := Lib.hid (HE2.out.trans hE); clear hE
      go_wp2_with fail
      go_ret
      exact ⟨rfl, HE9.out⟩
    have hla := HA.out.1; have hlb := HB.out.1
    have hst := check_steps hch
    have hsm := check_small _ _ _ hch
    rw [hla, hlb] at hst
    have hkb : 0 ≤ keptV l ∧ keptV l ≤ 10000 := by
      have := keptV_bound (l := l) (fun m hm => by have := hsm m hm; omega) l.length
      rw [List.take_length] at this
      have := HL.out.1
      omega
    obtain ⟨hk1, hk2⟩ := hkb
    have hdl := dist_le a b
    have HCH := Lib.hid hch; have HST := Lib.hid hst; have HSM := Lib.hid hsm; have HLA := Lib.hid hla; have HLB := Lib.hid hlb; have HDL := Lib.hid hdl
    clear hch hst hsm hla hlb hdl
    cases hce : certV a b [] 0 (T.map (·.t)) with
    | false =>
      have HCE := Lib.hid hce; clear hce
      go_enter Try.func11, Try.ntmps11
      go_wp2_with fail
      refine (great_new (L := [(⟨A, n, c, a⟩ : SS), ⟨B, m, d, b⟩]) rfl HGR.out HG.out (by simp)).mono ?_
      rintro e w1 ⟨rfl, hE⟩
      have HE := Lib.hid hE; clear hE
      go_wp2_with fail
      refine (long_is HLG.out (HT.out.ext HE.out) htn).mono ?_
      rintro e w2 ⟨rfl, rfl⟩
      go_wp2_with fail
      refine (refCheck_is HCH.out (HA.out.ext HE.out) (HB.out.ext HE.out) (HL.out.ext HE.out) (by omega) (by omega) (by omega)).mono ?_
      rintro e w3 ⟨rfl, hE⟩
      have HE2 := Lib.hid (HE.out.trans hE); clear hE
      go_wp2_with fail
      refine (certify_is HCE.out (HA.out.ext HE2.out) (HB.out.ext HE2.out) (by omega) (by omega) (HT.out.ext HE2.out) (by omega) HTW.out (fun s hs => by have := HL2.out s hs; omega)).mono ?_
      rintro e w4 ⟨rfl, hE⟩
      have HE3 := Lib.hid (HE2.out.trans hE); clear hE
      go_wp2_with fail
      refine (awake_any _).mono ?_
      rintro e w9 ⟨rfl, hE⟩
      have HE9 := Lib.hid (HE3.out.trans hE); clear hE
      go_wp2_with fail
      go_ret
      exact ⟨rfl, HE9.out⟩
    | true =>
      have hcb := cert_bound hce
      rw [List.length_map, HT.out.1] at hcb
      have HCE := Lib.hid hce; have HCB := Lib.hid hcb; clear hce hcb
      go_enter Try.func11, Try.ntmps11
      go_wp2_with fail
      refine (great_new (L := [(⟨A, n, c, a⟩ : SS), ⟨B, m, d, b⟩]) rfl HGR.out HG.out (by simp)).mono ?_
      rintro e w1 ⟨rfl, hE⟩
      have HE := Lib.hid hE; clear hE
      go_wp2_with fail
      refine (long_is HLG.out (HT.out.ext HE.out) htn).mono ?_
      rintro e w2 ⟨rfl, rfl⟩
      go_wp2_with fail
      refine (refCheck_is HCH.out (HA.out.ext HE.out) (HB.out.ext HE.out) (HL.out.ext HE.out) (by omega) (by omega) (by omega)).mono ?_
      rintro e w3 ⟨rfl, hE⟩
      have HE2 := Lib.hid (HE.out.trans hE); clear hE
      go_wp2_with fail
      refine (certify_is HCE.out (HA.out.ext HE2.out) (HB.out.ext HE2.out) (by omega) (by omega) (HT.out.ext HE2.out) (by omega) HTW.out (fun s hs => by have := HL2.out s hs; omega)).mono ?_
      rintro e w4 ⟨rfl, hE⟩
      have HE3 := Lib.hid (HE2.out.trans hE); clear hE
      go_wp2_with fail
      have hge : decide ((tn : Int) ≤ (n : Int) + m - 2 * keptV l) = true := yd (by have := HST.out; have := HCB.out; omega)
      refine (kept_any _ _ _ _ _ (HL.out.ext HE3.out) (by omega) (fun m hm => by have := HSM.out m hm; have := HLA.out; omega)).mono ?_
      rintro e w4 ⟨rfl, rfl⟩
      go_wp2_with fail
      refine (distance_any A B n c m d a b _ (HA.out.ext HE3.out) (HB.out.ext HE3.out) (by omega) (by omega) (dist a b) (by have := dist_le a b; have := HA.out.1; have := HB.out.1; omega) (last_dist a b)).mono ?_
      rintro e w5 ⟨rfl, hE⟩
      have HE4 := Lib.hid (HE3.out.trans hE); clear hE
      have hge2 : decide (tn ≤ dist a b) = true := yd HCB.out
      go_wp2_with fail
      refine (awake_any _).mono ?_
      rintro e w9 ⟨rfl, hE⟩
      have HE9 := Lib.hid (HE4.out.trans hE); clear hE
      go_wp2_with fail
      go_ret
      exact ⟨rfl, HE9.out⟩
end Go.Proofs.Ytmagicjmenbdpaa
