/- The walk of HunkcommuteSequences: it returns true, and adds new memory at most. -/
import Derived.Test.YtilogolnoifigaaAll
import Derived.Test.YtilogolnoifigaaSame
namespace Go.Proofs.Ytilogolnoifigaa
open Go.RowKit

/-! ### Plain laws -/
theorem passV_all {P : Hk → Prop} (hP : ∀ {a b y x : Hk}, commuteV a b = some (y, x) → P a → P b → P y ∧ P x) : ∀ (s : List Hk) {h h' : Hk} {x : List Hk}, passV s h = some (h', x) → (∀ z ∈ s, P z) → P h → P h' ∧ ∀ z ∈ x, P z
  | [], h, h', x, k, hs, hh => by
    simp only [passV] at k
    cases k
    exact ⟨hh, by simp⟩
  | s :: t, h, h', x, k, hs, hh => by
    obtain ⟨h1, t1, s1, e3, e4, rfl⟩ := passV_cons k
    obtain ⟨k1, k2⟩ := passV_all hP t e3 (fun y hy => hs y (List.mem_cons_of_mem _ hy)) hh
    obtain ⟨k3, k4⟩ := hP e4 (hs s (List.mem_cons_self ..)) k1
    refine ⟨k3, fun z hz => ?_⟩
    rcases List.mem_cons.1 hz with rfl | hz
    · exact k4
    · exact k2 z hz
theorem allV_all {P : Hk → Prop} (hP : ∀ {a b y x : Hk}, commuteV a b = some (y, x) → P a → P b → P y ∧ P x) : ∀ (b : List Hk) {s y x : List Hk}, allV s b = some (y, x) → (∀ z ∈ s, P z) → (∀ z ∈ b, P z) → (∀ z ∈ y, P z) ∧ ∀ z ∈ x, P z
  | [], s, y, x, k, hs, hb => by
    simp only [allV] at k
    cases k
    exact ⟨by simp, hs⟩
  | h :: r, s, y, x, k, hs, hb => by
    obtain ⟨h', s1, o, e1, e2, rfl⟩ := allV_cons k
    obtain ⟨k1, k2⟩ := passV_all hP s e1 hs (hb h (List.mem_cons_self ..))
    obtain ⟨k3, k4⟩ := allV_all hP r e2 k2 (fun y hy => hb y (List.mem_cons_of_mem _ hy))
    refine ⟨fun z hz => ?_, k4⟩
    rcases List.mem_cons.1 hz with rfl | hz
    · exact k1
    · exact k3 z hz
theorem nl_keep {a b y x : Hk} (h : commuteV a b = some (y, x)) (ha : a.nl ≤ 40) (hb : b.nl ≤ 40) : y.nl ≤ 40 ∧ x.nl ≤ 40 := by
  obtain ⟨k1, k2⟩ := commuteV_like h
  rw [(like_len k1).2, (like_len k2).2]
  exact ⟨hb, ha⟩
theorem allT_some {a b y x : List Hk} (h : allT a b = some (y, x)) : allV a b = some (y, x) ∧ AllOk a ∧ AllOk b := by
  unfold allT at h
  split at h
  · rename_i h1
    have := List.all_eq_true.1 h1
    exact ⟨h, fun z hz => this z (List.mem_append_left _ hz), fun z hz => this z (List.mem_append_right _ hz)⟩
  · cases h
theorem allT_twice {a b y x : List Hk} (h : allT a b = some (y, x)) : allT y x = some (a, b) := by
  obtain ⟨h1, h2, h3⟩ := allT_some h
  obtain ⟨k1, k2⟩ := allV_ok b h1 h2 h3
  unfold allT
  rw [if_pos, all_twice a h1]
  rw [List.all_eq_true]
  intro z hz
  rcases List.mem_append.1 hz with hz | hz
  · exact k1 z hz
  · exact k2 z hz
theorem Rel.app {w : World} : ∀ {a b : List Hk} {xs ys : List AH}, Rel w a xs → Rel w b ys → Rel w (a ++ b) (xs ++ ys)
  | [], _, [], _, _, k => k
  | _ :: _, _, _ :: _, _, h, k => ⟨h.1, Rel.app h.2 k⟩
  | [], _, _ :: _, _, h, _ => h.elim
  | _ :: _, _, [], _, h, _ => h.elim
theorem rel_nl {w : World} : ∀ {a : List Hk} {xs : List AH}, Rel w a xs → (∀ z ∈ a, z.nl ≤ 40) → ∀ x ∈ xs, x.new.length ≤ 40
  | [], [], _, _, x, hx => by simp at hx
  | z :: t, y :: r, h, k, x, hx => by
    rcases List.mem_cons.1 hx with rfl | hx
    · rw [h.1.2.2.2.1]; exact k z (List.mem_cons_self ..)
    · exact rel_nl h.2 (fun u hu => k u (List.mem_cons_of_mem _ hu)) x hx
  | [], _ :: _, h, _, _, _ => h.elim
  | _ :: _, [], h, _, _, _ => h.elim
theorem nl_rel {w : World} : ∀ {a : List Hk} {xs : List AH}, Rel w a xs → (∀ x ∈ xs, x.new.length ≤ 40) → ∀ z ∈ a, z.nl ≤ 40
  | [], [], _, _, z, hz => by simp at hz
  | z :: t, y :: r, h, k, u, hu => by
    rcases List.mem_cons.1 hu with rfl | hu
    · rw [← h.1.2.2.2.1]; exact k y (List.mem_cons_self ..)
    · exact nl_rel h.2 (fun x hx => k x (List.mem_cons_of_mem _ hx)) u hu
  | [], _ :: _, h, _, _, _ => h.elim
  | _ :: _, [], h, _, _, _ => h.elim
theorem RHS.rel {w : World} {s : HS} (r : RHS w s) : Rel w s.hs s.xs := Rel.of (by rw [r.2.2.1, r.2.1.1]) r.2.2.2
theorem rhs_of {w : World} {A : Option Addr} {n c : Nat} {hs : List Hk} {xs : List AH} (h : Hks w A n hs) (hn : n ≤ Reach) (k : Rel w hs xs) : RHS w ⟨A, n, c, hs, xs⟩ := ⟨hn, h, by show xs.length = n; rw [k.len, h.1], k.get⟩
theorem great08_no {l : List AH} (h : great08 l = false) : l.length ≤ 12 ∧ ∀ x ∈ l, x.new.length ≤ 40 := by
  unfold great08 at h
  simp only [Bool.or_eq_false_iff, decide_eq_false_iff_not, List.any_eq_false] at h
  obtain ⟨h1, h2, h3⟩ := h
  refine ⟨by omega, fun x hx => ?_⟩
  have := h1 x hx
  simp only [Bool.or_eq_true, not_or, Bool.not_eq_true] at this
  exact great04_len this.2

/-! ### Contracts as the walk wants them -/
theorem all_none {hs gs : List Hk} {A : Option Addr} {n c : Nat} {B : Option Addr} {m d : Nat} (w : World) (hh : Hks w A n hs) (hg : Hks w B m gs) (hn : n ≤ 500) (hm : m ≤ 500) (hnc : n ≤ c) (ht : allT hs gs = none) :
    Calls Try.prog 21 #[.slice A n c, .slice B m d] w fun e w' => Ext w w' ∧ e = .returned (.tuple #[.slice none 0 0, .slice none 0 0, .bool false]) := by
  have := all_any A n c B m d w hh hg hn hm hnc
  rw [ht] at this; exact this
theorem all_some {hs gs y x : List Hk} {A : Option Addr} {n c : Nat} {B : Option Addr} {m d : Nat} (w : World) (hh : Hks w A n hs) (hg : Hks w B m gs) (hn : n ≤ 500) (hm : m ≤ 500) (hnc : n ≤ c) (ht : allT hs gs = some (y, x)) :
    Calls Try.prog 21 #[.slice A n c, .slice B m d] w fun e w' => Ext w w' ∧ ∃ Y cy X cx, m ≤ cy ∧ n ≤ cx ∧ Hks w' Y m y ∧ Hks w' X n x ∧ e = .returned (.tuple #[.slice Y m cy, .slice X n cx, .bool true]) := by
  have := all_any A n c B m d w hh hg hn hm hnc
  rw [ht] at this; exact this
theorem follow_none {ls : List ByteArray} {A : Option Addr} {n c : Nat} (s : HS) (w : World) (hl : Strs w A n ls) (hnc : n ≤ c) (hn : n ≤ 1000) (hs : RHS w s) (hsn : s.n ≤ 1000) (hnl : ∀ x ∈ s.xs, x.new.length ≤ 40) (hf : followV ls s.xs = none) :
    Calls Try.prog 19 #[.slice A n c, .slice s.a s.n s.c] w fun e w' => Ext w w' ∧ e = .returned (.tuple #[.slice none 0 0, .bool false]) := by
  have := follow_any A n c s w hl hnc hn hs hsn (fun x hx => Nat.le_trans (hnl x hx) (by decide))
  rw [hf] at this; exact this
theorem follow_some {ls ss : List ByteArray} {A : Option Addr} {n c : Nat} (s : HS) (w : World) (hl : Strs w A n ls) (hnc : n ≤ c) (hn : n ≤ 1000) (hs : RHS w s) (hsn : s.n ≤ 1000) (hnl : ∀ x ∈ s.xs, x.new.length ≤ 40) (hf : followV ls s.xs = some ss) :
    Calls Try.prog 19 #[.slice A n c, .slice s.a s.n s.c] w fun e w' => Ext w w' ∧ ∃ B c, ss.length ≤ c ∧ ss.length ≤ 2000000 ∧ Strs w' B ss.length ss ∧ e = .returned (.tuple #[.slice B ss.length c, .bool true]) := by
  have := follow_any A n c s w hl hnc hn hs hsn (fun x hx => Nat.le_trans (hnl x hx) (by decide))
  rw [hf] at this; exact this
theorem concat_is {hs gs : List Hk} {A B : Option Addr} {n c m d g : Nat} (w : World) (hg' : g = w.heap.size) (hh : Hks w A n hs) (hg : Hks w B m gs) (hn : n ≤ 1000) (hm : m ≤ 1000) :
    Calls Try.prog 23 #[.slice (some ⟨g, 0, none⟩) 2 2] (w.alloc (objT A B n c m d)) fun e w' => Ext w w' ∧ ∃ V cv, n + m ≤ cv ∧ Hks w' V (n + m) (hs ++ gs) ∧ e = .returned (.slice V (n + m) cv) := by
  subst hg'
  refine (concat_two A B n c m d _ _ (Blk.new w _ rfl) (hh.ext ((Ext.refl w).alloc _)) (hg.ext ((Ext.refl w).alloc _)) hn hm).mono ?_
  rintro e w' ⟨h1, v, rfl, ho⟩
  obtain ⟨V, cv, rfl, hc, hk⟩ := own_hks ho (by
    intro x hx
    rcases List.mem_append.1 hx with hx | hx
    · exact hh.2.1 x hx
    · exact hg.2.1 x hx)
  exact ⟨((Ext.refl w).alloc _).trans h1, V, cv, hc, hk, rfl⟩
theorem great_two (B : Option Addr) (m d : Nat) (s1 s2 : HS) (w : World) (hm : m ≤ Reach) (h1 : RHS w s1) (h2 : RHS w s2) (g : Nat) (hg : g = w.heap.size) :
    ∃ r : Bool, (r = false → m ≤ 30 ∧ great08 s1.xs = false ∧ great08 s2.xs = false) ∧ Calls Try.prog 10 #[.slice B m d, .slice (some ⟨g, 0, none⟩) 2 2] (w.alloc (objT s1.a s2.a s1.n s1.c s2.n s2.c)) fun e w' => e = .returned (.bool r) ∧ Ext w w' := by
  subst hg
  have hE := (Ext.refl w).alloc (objT s1.a s2.a s1.n s1.c s2.n s2.c)
  have h3 := rhss_blk (L := [s1, s2]) (Blk.new w (objT s1.a s2.a s1.n s1.c s2.n s2.c) rfl) (by show 2 ≤ Reach; decide) (by
    intro s hs
    rcases List.mem_cons.1 hs with rfl | hs
    · exact h1.ext hE
    · obtain rfl := List.mem_singleton.1 hs; exact h2.ext hE)
  refine ⟨_, fun hr => ?_, (great_any B m d _ 2 2 _ _ hm h3).mono fun e w' ⟨he, hx⟩ => ⟨he, hE.trans hx⟩⟩
  simp only [Bool.or_eq_false_iff, decide_eq_false_iff_not, List.any_cons, List.any_nil] at hr
  exact ⟨by omega, hr.2.1, hr.2.2.1⟩

set_option maxRecDepth 100000 in
set_option maxHeartbeats 4000000 in
theorem seq_walk {A : Option Addr} {n c : Nat} {ls : List ByteArray} {s1 s2 : HS} (w : World) (hl : Strs w A n ls) (hnc : n ≤ c) (hn : n ≤ Reach) (r1 : RHS w s1) (c1 : s1.n ≤ s1.c) (r2 : RHS w s2) (_c2 : s2.n ≤ s2.c) :
    Calls Try.prog 9 #[.slice A n c, .slice s1.a s1.n s1.c, .slice s2.a s2.n s2.c] w fun e w' => e = .returned (.bool true) ∧ Ext w w' := by
  have HL := Lib.hid hl; have R1 := Lib.hid r1; have R2 := Lib.hid r2; clear hl r1 r2
  obtain ⟨G, hgr, hG⟩ := great_two A n c s1 s2 w hn R1.out R2.out w.heap.size rfl
  have HG := Lib.hid hG; have HGR := Lib.hid hgr; clear hG hgr
  go_enter Try.func9, Try.ntmps9
  go_wp2_with fail
  refine HG.out.mono ?_
  rintro e w1 ⟨rfl, hE⟩
  have HE := Lib.hid hE; clear hE
  cases G
  case true =>
    go_wp2_with fail
    refine (awake_any _).mono ?_
    rintro e w2 ⟨rfl, hE⟩
    have HE2 := Lib.hid (HE.out.trans hE); clear hE
    go_wp2_with fail
    go_ret
    exact ⟨rfl, HE2.out⟩
  obtain ⟨g0, g1, g2⟩ := HGR.out rfl
  obtain ⟨l1, n1⟩ := great08_no g1
  obtain ⟨l2, n2⟩ := great08_no g2
  rw [R1.out.2.2.1] at l1
  rw [R2.out.2.2.1] at l2
  have N1 := Lib.hid n1; have N2 := Lib.hid n2; clear n1 n2 g1 g2
  go_wp2_with fail
  cases ht : allT s1.hs s2.hs with
  | none =>
    have HT := Lib.hid ht; clear ht
    refine (all_none _ (R1.out.2.1.ext HE.out) (R2.out.2.1.ext HE.out) (by omega) (by omega) c1 HT.out).mono ?_
    rintro e w2 ⟨hE, rfl⟩
    have HE2 := Lib.hid (HE.out.trans hE); clear hE
    go_wp2_with fail
    refine (awake_any _).mono ?_
    rintro e w3 ⟨rfl, hE⟩
    have HE3 := Lib.hid (HE2.out.trans hE); clear hE
    go_wp2_with fail
    go_ret
    exact ⟨rfl, HE3.out⟩
  | some r =>
    obtain ⟨y, x⟩ := r
    have HT := Lib.hid ht; clear ht
    refine (all_some _ (R1.out.2.1.ext HE.out) (R2.out.2.1.ext HE.out) (by omega) (by omega) c1 HT.out).mono ?_
    rintro e w2 ⟨hE, Y, cy, X, cx, hcy, hcx, hy, hx, rfl⟩
    have HE2 := Lib.hid (HE.out.trans hE); have HY := Lib.hid hy; have HX := Lib.hid hx; clear hE hy hx
    go_wp2_with fail
    refine (all_some _ HY.out HX.out (by omega) (by omega) hcy (allT_twice HT.out)).mono ?_
    rintro e w3 ⟨hE, C, cc, D, cd, hcc, hcd, hc, hd, rfl⟩
    have HE3 := Lib.hid (HE2.out.trans hE); have HY3 := Lib.hid (HY.out.ext hE); have HX3 := Lib.hid (HX.out.ext hE); have HC := Lib.hid hc; have HD := Lib.hid hd; clear hE hc hd
    have RC := Lib.hid (rhs_of (c := cc) HC.out R1.out.1 (R1.out.rel.ext HE3.out))
    have RD := Lib.hid (rhs_of (c := cd) HD.out R2.out.1 (R2.out.rel.ext HE3.out))
    go_wp2_with fail
    refine (same08_yes _ RC.out (R1.out.ext HE3.out) rfl).mono ?_
    rintro e w4 ⟨rfl, hE⟩
    have HE4 := Lib.hid (HE3.out.trans hE); have E34 := Lib.hid hE; clear hE
    go_wp2_with fail
    refine (same08_yes _ (RD.out.ext E34.out) (R2.out.ext HE4.out) rfl).mono ?_
    rintro e w5 ⟨rfl, hE⟩
    have HE5 := Lib.hid (HE4.out.trans hE); have E35 := Lib.hid (E34.out.trans hE); clear hE
    go_wp2_with fail
    refine (concat_is _ rfl (R1.out.2.1.ext HE5.out) (R2.out.2.1.ext HE5.out) (by omega) (by omega)).mono ?_
    rintro e w6 ⟨hE, V, cv, hcv, hV, rfl⟩
    have HE6 := Lib.hid (HE5.out.trans hE); have E36 := Lib.hid (E35.out.trans hE); clear hE
    have RV := Lib.hid (rhs_of (c := cv) hV (by unfold Reach; omega) ((R1.out.rel.ext HE6.out).app (R2.out.rel.ext HE6.out))); clear hV
    have hNV : ∀ z ∈ s1.xs ++ s2.xs, z.new.length ≤ 40 := by
      intro z hz
      rcases List.mem_append.1 hz with hz | hz
      · exact N1.out z hz
      · exact N2.out z hz
    have NV := Lib.hid hNV; clear hNV
    go_wp2_with fail
    cases hf : followV ls (s1.xs ++ s2.xs) with
    | none =>
      have HF := Lib.hid hf; clear hf
      refine (follow_none _ _ (HL.out.ext HE6.out) hnc (by omega) RV.out (by simp only; omega) NV.out HF.out).mono ?_
      rintro e w7 ⟨hE, rfl⟩
      have HE7 := Lib.hid (HE6.out.trans hE); clear hE
      go_wp2_with fail
      refine (awake_any _).mono ?_
      rintro e w8 ⟨rfl, hE⟩
      have HE8 := Lib.hid (HE7.out.trans hE); clear hE
      go_wp2_with fail
      go_ret
      exact ⟨rfl, HE8.out⟩
    | some l2 =>
      have HF := Lib.hid hf; clear hf
      refine (follow_some _ _ (HL.out.ext HE6.out) hnc (by omega) RV.out (by simp only; omega) NV.out HF.out).mono ?_
      rintro e w7 ⟨hE, B, d, hld, hl2, hS, rfl⟩
      have HE7 := Lib.hid (HE6.out.trans hE); have E37 := Lib.hid (E36.out.trans hE); have HS := Lib.hid hS; clear hE hS
      go_wp2_with fail
      refine (concat_is _ rfl (HY3.out.ext E37.out) (HX3.out.ext E37.out) (by omega) (by omega)).mono ?_
      rintro e w8 ⟨hE, U, cu, hcu, hU, rfl⟩
      have HE8 := Lib.hid (HE7.out.trans hE); have HS8 := Lib.hid (HS.out.ext hE); clear hE
      obtain ⟨os, xs', k1, k2, k3⟩ := all_effect s2.hs (allT_some HT.out).1 (R1.out.rel.ext HE8.out) (R2.out.rel.ext HE8.out) HF.out
      have hnl := allV_all (P := fun h => h.nl ≤ 40) (fun h ha hb => nl_keep h ha hb) s2.hs (allT_some HT.out).1 (nl_rel R1.out.rel N1.out) (nl_rel R2.out.rel N2.out)
      have hNU : ∀ z ∈ os ++ xs', z.new.length ≤ 40 := by
        intro z hz
        rcases List.mem_append.1 hz with hz | hz
        · exact rel_nl k1 hnl.1 z hz
        · exact rel_nl k2 hnl.2 z hz
      have RU := Lib.hid (rhs_of (c := cu) hU (by unfold Reach; omega) (k1.app k2)); have NU := Lib.hid hNU; have HF2 := Lib.hid k3; clear hU k1 k2 k3 hnl hNU
      go_wp2_with fail
      refine (follow_some _ _ (HL.out.ext HE8.out) hnc (by omega) RU.out (by simp only; omega) NU.out HF2.out).mono ?_
      rintro e w9 ⟨hE, B', d', hld', hl2', hS', rfl⟩
      have HE9 := Lib.hid (HE8.out.trans hE); have HS9 := Lib.hid (HS8.out.ext hE); have HS' := Lib.hid hS'; clear hE hS'
      go_wp2_with fail
      refine (equal_is (r := true) _ HS'.out HS9.out (by unfold Reach; omega) (by unfold Reach; omega) (by simp)).mono ?_
      rintro e w10 ⟨rfl, hE⟩
      have HE10 := Lib.hid (HE9.out.trans hE); clear hE
      go_wp2_with fail
      refine (awake_any _).mono ?_
      rintro e w11 ⟨rfl, hE⟩
      have HE11 := Lib.hid (HE10.out.trans hE); clear hE
      go_wp2_with fail
      go_ret
      exact ⟨rfl, HE11.out⟩
end Go.Proofs.Ytilogolnoifigaa
