/- The program's HMAC. No condition. -/
import Derived.Test.YtmmcjcaccicheaaTfSum
import Derived.Test.YtmmcjcaccicheaaTfShelf
import Derived.Deep.RegionWith
import Derived.Deep.DeepCutAuto
namespace Go.Proofs.Ytmmcjcaccicheaa
open Go.RowKit
theorem repeat_zero : ∀ c, Lib.repeatL [(0 : UInt8)] c = List.replicate c 0
  | 0 => rfl
  | c + 1 => by
    rw [List.replicate_succ, ← repeat_zero c]; rfl
theorem zeros_rep (c : Nat) (hc : c ≤ 64) (w : World) : Calls Try.prog 52 #[.string ⟨#[0]⟩, .int .i64 c] w fun e w' => e = .returned (.string (bst (List.replicate c 0))) ∧ Ext w w' := by
  refine (sh_strings_Repeat ⟨#[0]⟩ c w (by omega) (by show 1 * c ≤ _; omega)).mono ?_
  rintro e w' ⟨rfl, hE⟩
  refine ⟨?_, hE⟩
  rw [show (⟨#[0]⟩ : ByteArray).data.toList = [0] from rfl, repeat_zero, bst_mk]
theorem zeros_rep_q (k : Int) (c : Nat) (hk : k = c) (hc : c ≤ 64) (w : World) : Calls Try.prog 52 #[.string ⟨#[0]⟩, .int .i64 k] w fun e w' => e = .returned (.string (bst (List.replicate c 0))) ∧ Ext w w' := by
  subst hk; exact zeros_rep c hc w
/-- The bytes masked, the rest as before. -/
def mixM (x : UInt8) (l : Bs) (i : Nat) : Bs := (l.take i).map (· ^^^ x) ++ l.drop i
theorem mixM_zero (x : UInt8) (l : Bs) : mixM x l 0 = l := by unfold mixM; simp
theorem mixM_full {x : UInt8} {l : Bs} {n : Nat} (h : l.length = n) : mixM x l n = maskV x l := by unfold mixM maskV; subst h; simp
theorem mixM_len {x : UInt8} {l : Bs} {i : Nat} (hi : i ≤ l.length) : (mixM x l i).length = l.length := by unfold mixM; simp; omega
theorem mixM_get {x : UInt8} {l : Bs} {i : Nat} {y : UInt8} (hi : i ≤ l.length) (h : (mixM x l i)[i]? = some y) : l[i]? = some y := by
  have hl : ((l.take i).map (· ^^^ x)).length = i := by simp; omega
  unfold mixM at h
  rw [List.getElem?_append_right (by omega), hl, Nat.sub_self, List.getElem?_drop, Nat.add_zero] at h
  exact h
theorem mixM_set {x : UInt8} {l : Bs} {i : Nat} {y : UInt8} (h : l[i]? = some y) : (mixM x l i).set i (y ^^^ x) = mixM x l (i + 1) := by
  have hi : i < l.length := (List.getElem?_eq_some_iff.1 h).1
  have hl : ((l.take i).map (· ^^^ x)).length = i := by simp; omega
  unfold mixM
  rw [List.set_append_right _ _ (by omega), hl, Nat.sub_self, List.drop_eq_getElem_cons hi, List.set_cons_zero, List.take_add_one, h]
  simp
set_option maxRecDepth 10000 in
set_option maxHeartbeats 4000000 in
/-- The closure that masks the key. -/
theorem masked_is (l : Bs) (hl : l.length = 64) (x : UInt8) (k : Int) (hk : k = ub x) (gk : Nat) (w : World) (hb : Blk w gk (.cells #[.string (bst l)] 9 (0, 0))) :
    Calls Try.prog 53 #[.int .u8 k, .pointer (some ⟨gk, 0, none⟩)] w fun e w' => e = .returned (.string (bst (maskV x l))) ∧ Ext w w' := by
  subst hk
  have c0 : w.cell? ⟨gk, 0, none⟩ = some (.string (bst l)) := hb.cell 0
  obtain ⟨v1, W1, hcv, hrow⟩ := brow_conv (bst l) l (bst_list l) (by rw [hl]; simp only [maxLen]; omega) w w (Ext.refl w)
  obtain ⟨g, cap, rfl, -, -, hcap, -, -⟩ := hrow.cells
  rw [hl] at hcap hcv hrow
  have HL := Lib.hid hl; have HR := Lib.hid hrow; clear hl hrow
  go_enter Try.func53, Try.ntmps53
  go_wp2_with fail
  clear hcv c0
  go_loopw [10] (fun v10 wq => ∃ i : Nat, i ≤ 64 ∧ v10 = .int .i64 i ∧ BRow w wq (.slice (some ⟨g, 0, none⟩) 64 cap) (mixM x l i)) (fun v10 _ => 64 - (intOf v10).toNat)
  case atStart => exact ⟨0, by omega, rfl, by rw [mixM_zero]; exact HR.out⟩
  case round =>
    clear HR
    obtain ⟨i, hi, rfl, hrow⟩ := hrel
    have HR := Lib.hid hrow; clear hrow
    by_cases h : i < 64
    · as_aux_lemma =>
        obtain ⟨-, ⟨y, cy, hy⟩, fy⟩ := HR.out.set (i := i) (by rw [mixM_len (by rw [HL.out]; omega), HL.out]; exact h) 0
        have hyl := mixM_get (by rw [HL.out]; omega) hy
        have hset := (HR.out.set (i := i) (by rw [mixM_len (by rw [HL.out]; omega), HL.out]; exact h) (y ^^^ x)).1
        rw [mixM_set hyl] at hset
        have HS := Lib.hid hset
        clear hset hyl hy
        have h1 : (0 : Int) ≤ i := Int.natCast_nonneg _
        have h2 : (i : Int) < 64 := by omega
        unfold bv at cy
        go_wp2_with fail
        exact ⟨⟨i + 1, by omega, by go_num, HS.out⟩, by simp [intOf]; omega⟩
    · obtain rfl : i = 64 := by omega
      have hr := HR.out
      rw [mixM_full HL.out] at hr
      have hml : (maskV x l).length = 64 := by unfold maskV; rw [List.length_map, HL.out]
      obtain ⟨g', cap', he, -, -, -, -, hcells⟩ := hr.cells
      rw [hml] at he
      cases he
      have hcv := string_back wr g 0 cap (maskV x l) hml (fun j z hj => by rw [Nat.zero_add]; exact hcells j z hj)
      rw [bst_mk] at hcv
      have HR2 := Lib.hid hr
      clear hr hml hcells
      go_wp2_with fail
      go_ret
      exact ⟨rfl, HR2.out.ext⟩
/-- The key before the zeros. -/
def shortV (k : Bs) : Bs := if 64 < k.length then sumV k else k
theorem keyV_is (k : Bs) : keyV k = shortV k ++ List.replicate (64 - (shortV k).length) 0 := rfl
theorem shortV_len (k : Bs) : (shortV k).length ≤ 64 := by
  unfold shortV
  split
  · show 32 ≤ 64; omega
  · omega
theorem keyV_len (k : Bs) : (keyV k).length = 64 := by
  rw [keyV_is, List.length_append, List.length_replicate]
  have := shortV_len k; omega
set_option maxRecDepth 100000 in
set_option maxHeartbeats 8000000 in
theorem hmac_is (k s : Bs) (hk : k.length < 134217728) (hs : s.length < 134217728) (w : World) : Calls Try.prog 37 #[.string (bst k), .string (bst s)] w fun e w' => e = .returned (dv (hmacV k s)) ∧ Ext w w' := by
  obtain ⟨gk, hgk⟩ : ∃ g, w.heap.size = g := ⟨_, rfl⟩
  have b0 : Blk ((w.alloc (.cells #[.string (bst k)] 9)).alloc (.cells ZDg 34)) gk (.cells #[.string (bst k)] 9) := hgk ▸ (Blk.new w (.cells #[.string (bst k)] 9) rfl).alloc (.cells ZDg 34)
  have a0 := Arr.new (w.alloc (.cells #[.string (bst k)] 9)) ZDg 34
  rw [World.size_alloc, hgk] at a0
  have e0 : Ext w ((w.alloc (.cells #[.string (bst k)] 9)).alloc (.cells ZDg 34)) := ((Ext.refl w).alloc _).alloc _
  obtain ⟨W1, hW1⟩ : ∃ W, (w.alloc (.cells #[.string (bst k)] 9)).alloc (.cells ZDg 34) = W := ⟨_, rfl⟩
  rw [hW1] at b0 a0 e0
  have B0 := Lib.hid b0; have A0 := Lib.hid a0; have E0 := Lib.hid e0; have HG := Lib.hid hgk
  have c0 : W1.cell? ⟨gk, 0, none⟩ = some (.string (bst k)) := b0.cell 0
  have f0 : W1.frozen? ⟨gk, 0, none⟩ = false := b0.free 0
  clear b0 a0 e0
  go_enter Try.func37, Try.ntmps37
  go_upto_if 10 with fail
  go_cut [] (fun wx => Blk wx gk (.cells #[.string (bst (shortV k))] 9) ∧ Arr wx (gk + 1) 34 ZDg.toList ∧ Ext w wx)
  case first =>
    by_cases h : 64 < k.length
    · have hsh : shortV k = sumV k := if_pos h
      have HSH := Lib.hid hsh; clear hsh
      have h1 : (64 : Int) < k.length := by omega
      go_wp2_with fail
      refine (sum_is k (by omega) _).mono ?_
      rintro e w3 ⟨rfl, hE3⟩
      obtain ⟨W4, hst, a5, e5, s5⟩ := new_dg w3 (sumV k) rfl
      obtain ⟨g5, hg5⟩ : ∃ g, w3.heap.size = g := ⟨_, rfl⟩
      rw [hg5] at hst a5
      have hcv := dg_string a5 (sumV_len k) 32
      have b4 := B0.out.ext (hE3.trans e5)
      have d0 : W4.cell? ⟨gk, 0, none⟩ = some (.string (bst k)) := b4.cell 0
      have d1 : W4.frozen? ⟨gk, 0, none⟩ = false := b4.free 0
      have A4 := Lib.hid (A0.out.ext (hE3.trans e5)); have B4 := Lib.hid b4; have E4 := Lib.hid (E0.out.trans (hE3.trans e5))
      clear b4 a5 e5 hE3
      go_wp2_with fail
      go_meet
      refine ⟨by rw [HSH.out]; exact B4.out.put 0 _, A4.out.setFar (k := gk) (i := 0) (by omega) _, E4.out.setCell (p := ⟨gk, 0, none⟩) (Nat.le_of_eq HG.out) _⟩
    · have hsh : shortV k = k := if_neg h
      have HSH := Lib.hid hsh; clear hsh
      have h1 : ¬ ((64 : Int) < k.length) := by omega
      go_wp2_with fail
      go_meet
      exact ⟨by rw [HSH.out]; exact B0.out, A0.out, E0.out⟩
  case rest =>
    obtain ⟨b1, a1, e1⟩ := hcut
    have c0 : wc.cell? ⟨gk, 0, none⟩ = some (.string (bst (shortV k))) := b1.cell 0
    have f0 : wc.frozen? ⟨gk, 0, none⟩ = false := b1.free 0
    obtain ⟨S, hS⟩ : ∃ S, shortV k = S := ⟨_, rfl⟩
    have hSl : S.length ≤ 64 := by rw [← hS]; exact shortV_len k
    have hK : keyV k = S ++ List.replicate (64 - S.length) 0 := by rw [← hS]; exact keyV_is k
    rw [hS] at c0 b1
    have B1 := Lib.hid b1; have A1 := Lib.hid a1; have E1 := Lib.hid e1; have HK := Lib.hid hK
    clear b1 a1 e1 hS hK hgk hW1 B0 A0 E0
    obtain ⟨n, hn⟩ : ∃ n, S.length = n := ⟨_, rfl⟩
    rw [hn] at hSl HK
    have hr : (List.replicate (64 - n) (0 : UInt8)).length = 64 - n := by simp
    have w1 : IntKind.i64.wrap (64 - (n : Int)) = 64 - n := wrap_i _
    go_upto_region 4 with fail
    go_cut [] (fun wx => Blk wx gk (.cells #[.string (bst (keyV k))] 9) ∧ Arr wx (gk + 1) 34 ZDg.toList ∧ Ext w wx)
    case first =>
      go_region_with (go_at_call 52; refine (zeros_rep_q _ (64 - n) (by omega) (by omega) _).mono ?_; rintro e w' ⟨rfl, hE⟩; have d0 : w'.cell? ⟨gk, 0, none⟩ = some (.string (bst S)) := hE.cell c0; have d1 : w'.frozen? ⟨gk, 0, none⟩ = false := (hE.frozen (p := ⟨gk, 0, none⟩) B1.out.lt).trans f0; have HEW := Lib.hid hE; clear hE)
      all_goals
        go_wp2_with fail
        go_meet
        have hx : Ext wc w' := ((Ext.refl wc).drew).trans HEW.out
        have hb := (B1.out.ext hx).put 0 (.string (bst (S ++ List.replicate (64 - n) 0)))
        refine ⟨by rw [HK.out]; exact hb, (A1.out.ext hx).setFar (k := gk) (i := 0) (by omega) _, (E1.out.trans hx).setCell (p := ⟨gk, 0, none⟩) (Nat.le_of_eq HG.out) _⟩
    case rest =>
      clear hr w1 hSl hn HK c0 f0 B1 A1 E1
      obtain ⟨b1, a1, e1⟩ := hcut
      obtain ⟨K, hK⟩ : ∃ K, keyV k = K := ⟨_, rfl⟩
      have hKl : K.length = 64 := by rw [← hK]; exact keyV_len k
      rw [hK] at b1
      have B1 := Lib.hid b1; have A1 := Lib.hid a1; have E1 := Lib.hid e1; have HK := Lib.hid hK; have HKL := Lib.hid hKl
      clear b1 a1 e1 hK hKl
      obtain ⟨wd, hwd⟩ : ∃ W, W = wc := ⟨_, rfl⟩
      subst hwd
      have hmf : ∀ (fn : Fn) (first cap : Array Value) (w : World), (Instr.makeFunc fn first cap).run Try.prog w = .ok (.func fn first cap) w := fun _ _ _ _ => rfl
      have hm1 : (maskV 0x36 K).length = 64 := by unfold maskV; rw [List.length_map, HKL.out]
      have hm2 : (maskV 0x5c K).length = 64 := by unfold maskV; rw [List.length_map, HKL.out]
      go_upto_region 6 with fail
      go_wp2_with fail
      refine (masked_is K HKL.out 0x36 54 rfl gk wd B1.out).mono ?_
      rintro e w2 ⟨rfl, hE2⟩
      go_wp2_with fail
      refine (sum_is (maskV 0x36 K ++ s) (by rw [List.length_append, hm1]; omega) w2).mono ?_
      rintro e w3 ⟨rfl, hE3⟩
      obtain ⟨I, hI⟩ : ∃ I, sumV (maskV 0x36 K ++ s) = I := ⟨_, rfl⟩
      have hIl : I.length = 32 := by rw [← hI]; rfl
      have hfin : hmacV k s = sumV (maskV 0x5c K ++ I) := by unfold hmacV; rw [HK.out, hI]
      rw [hI]
      obtain ⟨W4, hst, a7, e4, s4⟩ := new_dg w3 I hIl
      have hx := (hE2.trans hE3).trans e4
      have B4 := Lib.hid (B1.out.ext hx); have A4 := Lib.hid (A1.out.ext hx); have E4 := Lib.hid (E1.out.trans hx)
      obtain ⟨g7, hg7⟩ : ∃ g, w3.heap.size = g := ⟨_, rfl⟩
      rw [hg7] at hst a7
      have A7 := Lib.hid a7; have HIL := Lib.hid hIl; have HFIN := Lib.hid hfin
      have c7 := dg_string a7 hIl 32
      clear hE2 hE3 e4 s4 hx a7 hI hIl hfin B1 A1 E1 HK
      go_upto_region 7 with fail
      clear hg7 hst
      have hIl := HIL.out
      have c9 := dg_string (A7.out.ext (Ext.refl W4).drew) hIl 32
      go_region_with (first
        | (go_at_call 53; refine (masked_is K HKL.out 0x5c 92 rfl gk _ (B4.out.ext (Ext.refl _).drew)).mono ?_; rintro e w5 ⟨rfl, hE5⟩; have c8 := dg_string (A7.out.ext ((Ext.refl W4).drew.trans hE5)) HIL.out 32; have HE5 := Lib.hid hE5; clear hE5)
        | (go_at_call 36; refine (sum_is (maskV 0x5c K ++ I) (by rw [List.length_append, hm2, HIL.out]; omega) _).mono ?_; rintro e w6 ⟨rfl, hE6⟩; obtain ⟨W7, hs7, t7, x7, -, -⟩ := put_dg (A4.out.ext (((Ext.refl W4).drew.trans HE5.out).trans hE6)) zdg_len (sumV (maskV 0x5c K ++ I)) rfl; have EX := Lib.hid (x7 w (E4.out.trans (((Ext.refl W4).drew.trans HE5.out).trans hE6)) (by rw [HG.out]; omega)); have TT := Lib.hid t7; clear x7 t7 hE6))
      all_goals
        go_wp2_with fail
        exact ret_cell (A := ⟨gk + 1, 0, none⟩) rfl rfl (dg_ret TT.out rfl) rfl ⟨by rw [HFIN.out], EX.out⟩
end Go.Proofs.Ytmmcjcaccicheaa
