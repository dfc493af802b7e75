/- UdLed UdSiz UdSpP UdSpI: parts of the proof of TopDifferences, one text behind the other. No condition. -/
import Derived.Test.YtmmcjcaccicheaaGreatDoorT36
import Derived.Test.YtmmcjcaccicheaaGreatDoorT37
import Derived.Test.YtmmcjcaccicheaaGreatDoorT30
import Derived.Test.YtmmcjcaccicheaaGreatDoorT32
import Derived.Test.YtmmcjcaccicheaaGreatDoorT03
import Derived.Test.YtmmcjcaccicheaaGreatDoorT34
import Derived.Test.YtmmcjcaccicheaaGreatDoorT24
import Derived.Test.YtmmcjcaccicheaaGreatDoorT26
import Derived.Lib.IndexLaws
import Derived.Test.YtmmcjcaccicheaaGreatDoorT31
/- top14Lead says yes. -/
namespace Go.Proofs.YtmmcjcaccicheaaGreatDoor
open Go.RowKit
theorem okG_len : ∀ (l : List Sg), okG l → l.length ≤ (oldG l).length + (newG l).length
  | [], _ => by simp [oldG]
  | s :: r, h => by
    have := okG_len r h.2.2
    have := h.1
    simp only [oldG, newG, List.length_append, List.length_cons]; omega
set_option maxRecDepth 100000 in
set_option maxHeartbeats 8000000 in
theorem lead_any (A B C : Option Addr) (n c m d k e : Nat) (L : List Sg) (t : Lns) (cx : Nat) (w : World) (ha : Strs w A n (oldG L ++ t)) (hb : Strs w B m (newG L ++ t)) (hh : Hps w C k (hksG 0 L)) (hok : okG L) (hn : n ≤ 40) (hm : m ≤ 40) (hnc : n ≤ c) (hc0 : c ≤ maxLen) (_hmd : m ≤ d) (hk : k ≤ 100) (hke : k ≤ e) (he0 : e ≤ maxLen) (hcx : cx ≤ 100)
    (hsa : ∀ s ∈ oldG L ++ t, (10 : UInt8) ∉ s.data.toList ∧ s.size ≤ 100000) (hsb : ∀ s ∈ newG L ++ t, (10 : UInt8) ∉ s.data.toList ∧ s.size ≤ 100000) (hmx : Mx w) :
    Calls Tryz.prog 12 #[.slice A n c, .slice B m d, .slice C k e, .int .i64 cx] w fun r w' => r = .returned (.bool true) ∧ Ext w w' := by
  have hla := ha.len; have hlb := hb.len
  rw [List.length_append] at hla hlb
  obtain ⟨L', t', g1, g2, g3, g4⟩ := blks_law cx L t hok
  have l2 := congrArg List.length g2; have l3 := congrArg List.length g3
  simp only [List.length_append] at l2 l3
  have hfit := fits_of (L := L') (by omega) (by omega) (fun s hs => hsa s (by rw [g2]; simp [hs])) (fun s hs => hsb s (by rw [g3]; simp [hs])) g4
  have hokk := okKs_of L' 0 0 (-1) g4 (by omega) (by omega) (by omega) (.inl (by omega))
  rw [show ((0 : Nat) : Int) - ((0 : Nat) : Int) = 0 from rfl] at hokk
  obtain ⟨segs, t'', s1, s2, s3, s4⟩ := hunks_law g4 t'
  have hbl := blocks_any A C n c k e L t cx w ha hh hok (by omega) hnc hc0 (by omega) hke he0 hcx (by omega) (fun s hs => (hsa s hs).2) (fun s hs => (hsb s (by simp [hs])).2)
  rw [g1] at hbl
  have HA := Lib.hid ha; have HB := Lib.hid hb; have HFIT := Lib.hid hfit; have HOKK := Lib.hid hokk; have HMX := Lib.hid hmx; have G2 := Lib.hid g2; have G3 := Lib.hid g3; have S1 := Lib.hid s1; have S2 := Lib.hid s2; have S3 := Lib.hid s3; have S4 := Lib.hid s4; have L2 := Lib.hid l2; have L3 := Lib.hid l3; have HLA := Lib.hid hla; have HLB := Lib.hid hlb; have HSA := Lib.hid hsa; have HSB := Lib.hid hsb
  obtain ⟨xs, hxs⟩ : ∃ xs, bksS 0 0 L' = xs := ⟨_, rfl⟩
  have HXS := Lib.hid hxs
  rw [hxs] at hbl HFIT HOKK S1
  clear ha hb hfit hokk hmx g1 g2 g3 s1 s2 s3 s4 l2 l3 hla hlb hsa hsb hok hh g4 hxs
  go_enter Tryz.func12, Tryz.ntmps12
  go_wp2_with fail
  refine hbl.mono ?_
  rintro r w1 ⟨hE1, C1, k1, e1, rfl, hk1, he1, hB1⟩
  have hlen1 : k1 ≤ 1000 := by have h1 := hB1.len; have := HFIT.out.n; omega
  have HE1 := Lib.hid hE1; have HB1 := Lib.hid hB1; have HL1 := Lib.hid hB1.len; clear hE1 hB1 hbl
  go_wp2_with fail
  refine (format_any C1 k1 e1 xs w1 HB1.out (by omega) hk1 he1 HOKK.out HFIT.out.fit HFIT.out.len).mono ?_
  rintro r w2 ⟨rfl, hE2⟩
  have HE2 := Lib.hid (HE1.out.trans hE2); clear hE2
  obtain ⟨txt, htxt⟩ : ∃ s, mkS (fmtL xs) = s := ⟨_, rfl⟩
  rw [htxt]
  have HTX := Lib.hid htxt; clear htxt
  go_wp2_with fail
  refine (parse_any xs w2 HFIT.out.tk HFIT.out.len (by have := HFIT.out.few; omega) HFIT.out.fit HOKK.out (HMX.out.ext HE2.out) txt HTX.out.symm).mono ?_
  rintro r w3 ⟨hE3, C2, k2, e2, rfl, hk2, he2, hB2⟩
  have hlen2 : k2 = k1 := by rw [← hB2.len, HL1.out]
  subst hlen2
  have HE3 := Lib.hid (HE2.out.trans hE3); have HB2 := Lib.hid hB2; clear hE3 hB2
  have hap := apply_any A C2 n c k2 e2 L' t' w3 (by rw [← G2.out]; exact HA.out.ext HE3.out) (by rw [HXS.out]; exact HB2.out) (by omega) hnc hc0 (by omega) hk2 he2 (by rw [HXS.out]; exact HOKK.out) (by rw [HXS.out]; exact HFIT.out.fit) (by have := L3.out; have := HLB.out; omega) (fun s hs => by have := (HSB.out s (by rw [G3.out]; simp [hs])).2; unfold Reach; omega)
  rw [← G3.out] at hap
  go_wp2_with fail
  refine hap.mono ?_
  rintro r w4 ⟨hE4, v4, pA, pc, rfl, ho4⟩
  obtain ⟨A4, c4, hv4, hc4, hS4⟩ := own_strs ho4 (fun s hs => by have := (HSB.out s hs).2; unfold Reach; omega)
  have hm4 : (newG L ++ t).length = m := HB.out.1
  rw [hm4] at hv4 hS4 hc4
  subst hv4
  have HE4 := Lib.hid (HE3.out.trans hE4); have HS4 := Lib.hid hS4; have HB4 := Lib.hid (HB2.out.ext hE4); clear hap hE4 ho4 hS4 hm4
  go_wp2_with fail
  refine (hunks_any C2 k2 e2 xs w4 HB4.out (by omega) hk2 he2 HOKK.out HFIT.out.fit (by have := HFIT.out.few; omega)).mono ?_
  rintro r w5 ⟨hE5, v5, va, rfl, hM5, hN5⟩
  rw [S1.out] at hM5 hN5
  have hao : oldG L ++ t = oldG segs ++ t'' := G2.out.trans S2.out
  have hbo : newG L ++ t = newG segs ++ t'' := G3.out.trans S3.out
  have la := congrArg List.length hao; have lb := congrArg List.length hbo
  simp only [List.length_append] at la lb
  have hla := HLA.out; have hlb := HLB.out
  have hgl := okG_len segs S4.out
  obtain ⟨A5, c5, hv5, hk5, hc5, hp5⟩ := hM5.hps (fun x hx => by
    have h1 := hksG_mem segs 0 x hx
    have h2 := hN5.2 x hx
    refine ⟨⟨by unfold Reach; omega, fun s hs => ?_⟩, by unfold Reach; omega, fun s hs => ?_⟩
    · have := (HSA.out s (by rw [hao]; simp [h1.1 s hs])).2; unfold Reach; omega
    · have := (HSB.out s (by rw [hbo]; simp [h1.2 s hs])).2; unfold Reach; omega)
  rw [hksG_len] at hv5 hk5 hp5
  subst hv5
  have HE5 := Lib.hid (HE4.out.trans hE5)
  have hha := happly_any A A5 n c segs.length c5 segs t'' w5 (by rw [← hao]; exact HA.out.ext HE5.out) hp5 (by omega) hnc hc0 (by omega) S4.out (by omega) (fun s hs => by have := (HSB.out s (by rw [hbo]; simp [hs])).2; unfold Reach; omega)
  rw [← hbo] at hha
  have HS5 := Lib.hid (HS4.out.ext hE5)
  clear hM5 hN5 hE5 hao hbo la lb hla hlb hgl hp5
  go_wp2_with fail
  refine hha.mono ?_
  rintro r w6 ⟨hE6, v6, rfl, ho6⟩
  obtain ⟨A6, c6, hv6, hc6, hS6⟩ := own_strs ho6 (fun s hs => by have := (HSB.out s hs).2; unfold Reach; omega)
  have hm6 : (newG L ++ t).length = m := HB.out.1
  rw [hm6] at hv6 hS6 hc6
  subst hv6
  have HE6 := Lib.hid (HE5.out.trans hE6)
  have q1 := same04_any A4 B m m c4 d _ _ w6 (HS5.out.ext hE6) (HB.out.ext HE6.out) (by unfold Reach; omega) (by unfold Reach; omega)
  rw [decide_eq_true rfl] at q1
  have HS6 := Lib.hid hS6
  clear hha hE6 ho6 hS6 hm6
  go_wp2_with fail
  refine q1.mono ?_
  rintro r w7 ⟨rfl, hE7⟩
  have HE7 := Lib.hid (HE6.out.trans hE7)
  have q2 := same04_any A6 B m m c6 d _ _ w7 (HS6.out.ext hE7) (HB.out.ext HE7.out) (by unfold Reach; omega) (by unfold Reach; omega)
  rw [decide_eq_true rfl] at q2
  clear q1 hE7
  go_wp2_with fail
  refine q2.mono ?_
  rintro r w8 ⟨rfl, hE8⟩
  have HE8 := Lib.hid (HE7.out.trans hE8)
  clear q2 hE8
  go_wp2_with fail
  go_ret
  exact ⟨rfl, HE8.out⟩
end Go.Proofs.YtmmcjcaccicheaaGreatDoor
/- The contract of top14Size. -/
namespace Go.Proofs.YtmmcjcaccicheaaGreatDoor
open Go.RowKit
theorem sizeH_snoc (h : Hp) : ∀ l : List Hp, sizeH (l ++ [h]) = sizeH l + (h.old.length + h.new.length)
  | [] => by simp [sizeH]
  | x :: l => by simp only [List.cons_append, sizeH, sizeH_snoc h l]; omega
set_option maxRecDepth 100000 in
set_option maxHeartbeats 4000000 in
theorem size_any (A : Option Addr) (n c : Nat) (hs : List Hp) (w : World) (hh : Hps w A n hs) (hn : n ≤ 1000) (hl : ∀ h ∈ hs, h.old.length ≤ 1000 ∧ h.new.length ≤ 1000) :
    Calls Tryz.prog 13 #[.slice A n c] w fun e w' => e = .returned (.int .i64 (sizeH hs)) ∧ Ext w w' := by
  have HH := Lib.hid hh; have HL := Lib.hid hl; have HN := Lib.hid hh.len; clear hh hl
  go_enter Tryz.func13, Tryz.ntmps13
  go_wp2_with fail
  go_loopw [3, 8] (fun v i wr => ∃ k : Nat, k ≤ n ∧ i = .int .i64 k ∧ v = .int .i64 (sizeH (hs.take k)) ∧ sizeH (hs.take k) ≤ 2000 * k ∧ Ext w wr) (fun _ i _ => n - (intOf i).toNat)
  case atStart => exact ⟨0, by omega, rfl, rfl, by simp [sizeH], Ext.refl _⟩
  case round =>
    obtain ⟨k, hk, rfl, rfl, hb, hE⟩ := hrel
    have HE := Lib.hid hE; clear hE
    by_cases hlt : k < n
    · obtain ⟨b, off, m, x, rfl, hb1, hx, hr, c0, c1, c2⟩ := HH.out.get hlt
      replace c0 := HE.out.cell c0; replace c1 := HE.out.cell c1; replace c2 := HE.out.cell c2
      obtain ⟨at_, oa, ol, oc, na, nl, nc⟩ := m
      have h1 := HL.out x (mem_of_get hx)
      have h2 : ol = x.old.length := hr.old.1.symm
      have h3 : nl = x.new.length := hr.new.1.symm
      have hs2 : sizeH (hs.take (k + 1)) = sizeH (hs.take k) + (ol + nl) := by rw [take_succ_of hx, sizeH_snoc, h2, h3]
      have hol : ol ≤ 1000 := by omega
      have hnl : nl ≤ 1000 := by omega
      have HS2 := Lib.hid hs2
      dsimp only at c0 c1 c2
      clear hx hr h1 h2 h3 hs2
      go_wp2_with fail
      go_roundw
      case rel => exact ⟨k + 1, by omega, by go_num, by rw [HS2.out]; exact congrArg (Value.int .i64) (by omega), by rw [HS2.out]; omega, HE.out.alloc _⟩
      case measure => simp [intOf]; omega
    · have htt : hs.take k = hs := List.take_of_length_le (by rw [HN.out]; omega)
      rw [htt]
      clear htt
      go_wp2_with fail
      go_ret
      exact ⟨rfl, HE.out⟩
end Go.Proofs.YtmmcjcaccicheaaGreatDoor
/- The lines of a text: plain. -/
namespace Go.Proofs.YtmmcjcaccicheaaGreatDoor
def splF : Nat → ByteArray → List ByteArray
  | 0, _ => []
  | k + 1, s => if Lib.indexByte s.data.toList 10 < 0 then [] else s.extract 0 (Lib.indexByte s.data.toList 10).toNat :: splF k (s.extract ((Lib.indexByte s.data.toList 10).toNat + 1) s.size)
theorem index_at {s : ByteArray} {o : Nat} (h : Lib.indexByte s.data.toList 10 = o) : o < s.size ∧ (10 : UInt8) ∉ (s.extract 0 o).data.toList := by
  obtain ⟨h1, h2⟩ := Lib.indexByte_some h
  have h3 := (List.getElem?_eq_some_iff.1 h1).1
  rw [Array.length_toList] at h3
  refine ⟨h3, fun hm => ?_⟩
  rw [ByteArray.data_extract, Array.toList_extract] at hm
  simp only [List.extract_eq_take_drop, Nat.sub_zero, List.drop_zero] at hm
  obtain ⟨k, hk⟩ := List.getElem?_of_mem hm
  have hko : k < o := by
    have := (List.getElem?_eq_some_iff.1 hk).1
    rw [List.length_take] at this; omega
  rw [List.getElem?_take_of_lt hko] at hk
  exact h2 k hko hk
theorem splF_no : ∀ (k : Nat) (s : ByteArray), ∀ x ∈ splF k s, (10 : UInt8) ∉ x.data.toList ∧ x.size ≤ s.size
  | 0, _, x, h => by simp [splF] at h
  | k + 1, s, x, h => by
    rw [splF] at h
    split at h
    · simp at h
    · rename_i hn
      obtain ⟨o, ho⟩ : ∃ o : Nat, Lib.indexByte s.data.toList 10 = o := ⟨(Lib.indexByte s.data.toList 10).toNat, by omega⟩
      rw [ho, Int.toNat_natCast] at h
      have hi := index_at ho
      rcases List.mem_cons.1 h with rfl | h
      · exact ⟨hi.2, by rw [ByteArray.size_extract]; omega⟩
      · have := splF_no k _ x h
        rw [ByteArray.size_extract] at this
        exact ⟨this.1, by omega⟩
end Go.Proofs.YtmmcjcaccicheaaGreatDoor
/- The iterator of the lines of a text (package lines). -/
namespace Go.Proofs.YtmmcjcaccicheaaGreatDoor
open Go.RowKit
attribute [local go_sem] Oper.semAt_some
def EncS (x : ByteArray) (vs : Array Value) (_S : Nat → Prop) (_W : World) : Prop := vs = #[.string x]
structure PreS (q : Nat) (s : ByteArray) (S : Nat → Prop) (W : World) : Prop where
  box : Blk W q (.cells #[.string s] 9)
  nq : ¬ S q
theorem PreS.ext {q : Nat} {s : ByteArray} {S : Nat → Prop} {W W' : World} (h : PreS q s S W) (e : Ext W W') : PreS q s S W' := ⟨h.box.ext e, h.nq⟩
theorem PreS.next {q : Nat} {s : ByteArray} {S S' : Nat → Prop} {W W' : World} (h : PreS q s S W) (k : Lv S W W') (hS : ∀ g, S' g → S g ∨ W.heap.size ≤ g) : PreS q s S' W' :=
  ⟨h.box.lv k h.nq, fun x => (hS _ x).elim h.nq (by have := h.box.lt; omega)⟩
theorem PreS.put {q : Nat} {s s' : ByteArray} {S : Nat → Prop} {W : World} (h : PreS q s S W) : PreS q s' S (W.setCell ⟨q, 0, none⟩ (.string s')) := ⟨h.box.put 0 _, h.nq⟩
set_option maxRecDepth 100000 in
set_option maxHeartbeats 4000000 in
theorem split_iter (s0 : ByteArray) (N : Nat) (hN : s0.size < N) (hs : s0.size ≤ 100000) (q : Nat) :
    Iter Tryz.prog 36 #[.pointer (some ⟨q, 0, none⟩)] EncS (splF N s0) (fun g => g = q) (PreS q s0) := by
  intro ly J Jx S W hP hSz hJ hJx hY h0
  have HP := Lib.hid hP; have HJ := Lib.hid hJ; have HJX := Lib.hid hJx; have HY := Lib.hid hY; have H0 := Lib.hid h0; have HZ := Lib.hid hSz; clear hP hSz hJ hJx hY h0
  refine callsIn_wide.2 ?_
  simp only [List.append_toArray, List.cons_append, List.nil_append]
  go_enter Tryz.func36, Tryz.ntmps36
  go_wp2_with fail
  go_loopw [] (fun wr => ∃ (k : Nat) (r : ByteArray) (pre : List ByteArray) (S' : Nat → Prop), splF N s0 = pre ++ splF k r ∧ r.size < k ∧ r.size ≤ 100000 ∧ J pre S' wr ∧ PreS q r S' wr ∧ (∀ h, S' h → h < wr.heap.size)) (fun w => match w.cell? ⟨q, 0, none⟩ with | some (.string s) => s.size + 1 | _ => 0)
  case atStart => exact ⟨N, s0, [], S, rfl, hN, hs, H0.out, HP.out, HZ.out⟩
  case round =>
    obtain ⟨k, r, pre, S1, hg, hk, hr, hJ1, hP1, hZ1⟩ := hrel
    have HG := Lib.hid hg; have HJ1 := Lib.hid hJ1; have HP1 := Lib.hid hP1; have HZ1 := Lib.hid hZ1; clear hg hJ1 hP1 hZ1
    have cq : wr.cell? ⟨q, 0, none⟩ = some (.string r) := HP1.out.box.cell 0
    obtain ⟨k, rfl⟩ : ∃ k', k = k' + 1 := ⟨k - 1, by omega⟩
    go_wp2_with fail
    refine (sh_strings_IndexByte r 10 wr).mono ?_
    rintro e w1 ⟨rfl, hw1⟩
    subst hw1
    rw [show ((10 : Int).toNat.toUInt8 : UInt8) = 10 from rfl]
    by_cases hneg : Lib.indexByte r.data.toList 10 < 0
    · have hsp : splF (k + 1) r = [] := by rw [splF, if_pos hneg]
      have hJ9 := HJ1.out
      have hpre : pre = splF N s0 := by rw [HG.out, hsp, List.append_nil]
      rw [hpre] at hJ9
      obtain ⟨ix, hix⟩ : ∃ ix, Lib.indexByte r.data.toList 10 = ix := ⟨_, rfl⟩
      rw [hix] at hneg ⊢
      clear hix hsp hpre
      have HJ9 := Lib.hid hJ9; clear hJ9
      go_wp2_with fail
      refine bodyPost_ret (results_none rfl _ _ _) rfl ?_
      exact ⟨⟨_, rfl⟩, .inl ⟨_, HJ9.out⟩⟩
    · obtain ⟨o, ho⟩ : ∃ o : Nat, Lib.indexByte r.data.toList 10 = o := ⟨(Lib.indexByte r.data.toList 10).toNat, by omega⟩
      have hio := index_at ho
      have hsp : splF N s0 = pre ++ [r.extract 0 o] ++ splF k (r.extract (o + 1) r.size) := by rw [HG.out, splF, if_neg hneg, ho, Int.toNat_natCast]; simp
      rw [ho] at hneg ⊢
      have HSP := Lib.hid hsp
      have hpx : pre ++ [r.extract 0 o] <+: splF N s0 := ⟨_, hsp.symm⟩
      have hR := HY.out pre (r.extract 0 o) #[.string (r.extract 0 o)] S1 w1 HJ1.out hpx rfl
      have HR1 := Lib.hid hR; have HPX := Lib.hid hpx
      have hos : o < r.size := hio.1
      clear hsp hR hpx ho hio hneg
      obtain ⟨fn, tmps, assign, body, hy, hRR⟩ := HR1.out
      rename ∀ a w, Code.wp Tryz.prog (((Code.region 1 _ _).seq _).seq _) _ a w → _ => hK3
      have HK3 := Lib.hid hK3; clear hK3
      go_wp2_with fail
      refine HK3.out _ _ ?_
      clear HK3
      refine wp_of_In ?_
      gi_wp2
      refine ⟨rfl, hRR.mono ?_⟩
      rintro e W6 ⟨S3, hv2, hs2, hz2, (⟨rfl, hJ2⟩ | ⟨rfl, hJx2⟩)⟩
      case inr =>
        clear hy hRR
        have HX := Lib.hid hJx2; clear hv2 hs2 hz2 hJx2
        gi_wp2
        go_wp2_with fail
        refine bodyPost_ret (results_none rfl _ _ _) rfl ?_
        exact ⟨⟨_, rfl⟩, .inr ⟨_, _, HPX.out, HX.out⟩⟩
      case inl =>
        have HP6 := Lib.hid (HP1.out.next hv2 hs2); have HZ6 := Lib.hid hz2
        have HJ6 := Lib.hid hJ2
        clear hy hRR hv2 hs2 hz2 hJ2 HR1
        have d0 : W6.cell? ⟨q, 0, none⟩ = some (.string r) := HP6.out.box.cell 0
        have f0 := HP6.out.box.free 0
        gi_wp2
        have hP7 : PreS q (r.extract (o + 1) r.size) S3 (W6.setCell ⟨q, 0, none⟩ (.string (r.extract (o + 1) r.size))) := HP6.out.put
        have l7 : Lv (fun g => g = q) W6 (W6.setCell ⟨q, 0, none⟩ (.string (r.extract (o + 1) r.size))) := (Lv.refl (fun g => g = q) W6).setCell (p := ⟨q, 0, none⟩) (fun _ => rfl) _
        have hJ7 := HJ.out _ _ _ _ HJ6.out l7
        have hZ7 : ∀ h, S3 h → h < (W6.setCell ⟨q, 0, none⟩ (.string (r.extract (o + 1) r.size))).heap.size := fun h hh => Nat.lt_of_lt_of_le (HZ6.out h hh) l7.size
        have HP7 := Lib.hid hP7; have HJ7 := Lib.hid hJ7; have HZ7 := Lib.hid hZ7
        clear hP7 hJ7 hZ7 l7 d0 f0
        go_wp2_with fail
        have hsz : (r.extract (o + 1) r.size).size = r.size - (o + 1) := by rw [ByteArray.size_extract]; omega
        refine ⟨⟨k, _, pre ++ [r.extract 0 o], S3, HSP.out, by omega, by omega, HJ7.out, HP7.out, HZ7.out⟩, ?_⟩
        have z1 : (W6.setCell ⟨q, 0, none⟩ (.string (r.extract (o + 1) r.size))).cell? ⟨q, 0, none⟩ = some (.string (r.extract (o + 1) r.size)) := HP7.out.box.cell 0
        have z2 : w1.cell? ⟨q, 0, none⟩ = some (.string r) := HP1.out.box.cell 0
        simp only [z1, z2, hsz]
        omega
end Go.Proofs.YtmmcjcaccicheaaGreatDoor
