/- Contract: the reference's Parse. -/
import Derived.Test.YtmmppfopokbcfaaTkRPart
import Derived.Test.YtmmppfopokbcfaaTkParse
import Derived.Test.YtmmppfopokbcfaaTkRRef
namespace Go.Proofs.Ytmmppfopokbcfaa
open Go.RowKit

theorem two_is {s : ByteArray} {a : Nat} (h : a + 2 ≤ s.size) (p : Bs) (hp : p.length = 2) : ((s.extract a (a + 2)).toList == p) = decide (p <+: s.data.toList.drop a) := by
  rw [ByteArray.toList_eq, ext_mk, show a + 2 - a = 2 by omega, Bool.eq_iff_iff, beq_iff_eq, decide_eq_true_eq, List.prefix_iff_eq_take, hp]
  exact ⟨fun h => h.symm, fun h => h.symm⟩
theorem opn_is (q : Bs) : (opn q = 1 ∧ [91, 45] <+: q ∧ ¬ [123, 43] <+: q) ∨ (opn q = 2 ∧ ¬ [91, 45] <+: q ∧ [123, 43] <+: q) ∨ (opn q = 0 ∧ ¬ [91, 45] <+: q ∧ ¬ [123, 43] <+: q) := by
  by_cases h1 : [91, 45] <+: q
  · refine .inl ⟨by rw [opn, if_pos h1], h1, ?_⟩
    intro h2
    obtain ⟨x, rfl⟩ := h1
    obtain ⟨y, h3⟩ := h2
    cases h3
  · by_cases h2 : [123, 43] <+: q
    · exact .inr (.inl ⟨by rw [opn, if_neg h1, if_pos h2], h1, h2⟩)
    · exact .inr (.inr ⟨by rw [opn, if_neg h1, if_neg h2], h1, h2⟩)
theorem part_is {s : ByteArray} {a n e : Nat} {x : Int} {t : Bs} {w : World} (hp : partL (s.data.toList.drop a) = (t, n)) (hx : x = (a : Nat)) (he : a + n = e) (ha : a ≤ s.size) (hs : s.size ≤ 80000) :
    Calls Try.prog 56 #[.string s, .int .i64 x] w fun r w' => r = .returned (.tuple #[.string (mkS t), .int .i64 (e : Nat)]) ∧ Ext w w' := by
  subst hx
  refine (part_any s a w ha hs).mono ?_
  rintro r w' ⟨rfl, hE⟩
  rw [hp]
  exact ⟨by rw [← he]; simp, hE⟩
theorem rG_zero {s : Bs} (h : s ≠ []) (h0 : opn s = 0) {t : Bs} {n : Nat} (hp : partL s = (t, n)) : rG s = if n = 0 then none else (rG (s.drop n)).map fun l => ⟨0, mkS t⟩ :: l := by
  rw [rG_step, if_neg h, if_pos h0, hp]
theorem rG_open {s : Bs} (h0 : opn s ≠ 0) {t : Bs} {n : Nat} (hp : partL (s.drop 2) = (t, n)) : rG s = if t = [] ∨ (s.drop 2).drop n = [] ∨ ((s.drop 2).drop n).head? ≠ some (closec (opn s)) ∨ (s.drop 2)[n - 1]? ≠ some (endc (opn s)) then none else (rG (((s.drop 2).drop n).drop 1)).map fun l => ⟨opn s, mkS t.dropLast⟩ :: l := by
  have h : s ≠ [] := by rintro rfl; exact h0 rfl
  rw [rG_step, if_neg h, if_neg h0, hp]
theorem rparse_none {s : ByteArray} (h : rG s.data.toList = none) : rparseV s = none := by unfold rparseV; rw [h]; rfl
set_option maxRecDepth 100000 in
set_option maxHeartbeats 16000000 in
theorem rparse_any (s : ByteArray) (w : World) (hs : s.size ≤ 10000) :
    Calls Try.prog 29 #[.string s] w fun e w' => Ext w w' ∧
      ((rparseV s = none ∧ ∃ A c, e = .returned (.tuple #[.slice A 0 c, .int .i64 3])) ∨
       ∃ l A c, rparseV s = some l ∧ e = .returned (.tuple #[.slice A l.length c, .int .i64 0]) ∧ l.length ≤ c ∧ Pcs w' A l.length l) := by
  obtain ⟨inf, i1, i2, i3, i4⟩ := info_of infoPc
  have I1 := Lib.hid i1; have I2 := Lib.hid i2; have I3 := Lib.hid i3; have I4 := Lib.hid i4; clear i1 i2 i3 i4
  go_enter Try.func29, Try.ntmps29
  go_wp2_with fail
  go_loopw [4, 5] (fun v4 v5 wr => ∃ (a : Nat) (L : List Pc), v5 = .int .i64 a ∧ a ≤ s.size ∧ L.length ≤ a ∧ wr.ownsRow w.heap.size 30 2 v4 L.length (L.flatMap Pc.cells) ∧ Ext w wr ∧ (rG (s.data.toList.drop a)).map (fun l => L ++ l) = rG s.data.toList ∧ (∀ x ∈ L, x.wf) ∧ (rendL L).length ≤ 6 * a) (fun _ v5 _ => s.size - (intOf v5).toNat)
  case atStart =>
    refine ⟨0, [], rfl, Nat.zero_le _, Nat.zero_le _, own_newP w _, (Ext.refl w).alloc _, ?_, by simp, by simp [rendL]⟩
    rw [List.drop_zero]
    cases rG s.data.toList <;> rfl
  case round =>
    obtain ⟨a, L, rfl, ha, hL, ho, hE, hr, hW, hR⟩ := hrel
    have HO := Lib.hid ho; have HE := Lib.hid hE; have HR := Lib.hid hr; have HW := Lib.hid hW; clear ho hE hr hW
    by_cases hlt : a < s.size
    · rcases opn_is (s.data.toList.drop a) with ⟨ho0, hx1, hx2⟩ | ⟨ho0, hx1, hx2⟩ | ⟨ho0, hx1, hx2⟩
      · have h2 : a + 2 ≤ s.size := by
          have := opn_len (q := s.data.toList.drop a) (by rw [ho0]; decide)
          rw [List.length_drop, ← size_len] at this; omega
        have q1 : ((s.extract a (a + 2)).toList == [91, 45]) = true := by rw [two_is h2 _ rfl]; simpa using hx1
        have q2 : ((s.extract a (a + 2)).toList == [123, 43]) = false := by rw [two_is h2 _ rfl]; simpa using hx2
        obtain ⟨pt, hpt⟩ : ∃ pt, partL (s.data.toList.drop (a + 2)) = pt := ⟨_, rfl⟩
        obtain ⟨t, n⟩ := pt
        have hro := rG_open (s := s.data.toList.drop a) (t := t) (n := n) (by rw [ho0]; decide) (by rw [List.drop_drop]; exact hpt)
        rw [ho0, show closec 1 = 93 from rfl, show endc 1 = 45 from rfl] at hro
        have hple := partL_le (s.data.toList.drop (a + 2))
        rw [hpt, List.length_drop, ← size_len] at hple
        dsimp only at hple
        obtain ⟨e, he⟩ : ∃ e, a + 2 + n = e := ⟨_, rfl⟩
        simp only [List.drop_drop, he] at hro
        have HPT := Lib.hid hpt; clear hpt ho0 hx1 hx2
        by_cases ht0 : t = []
        · have HN := Lib.hid (rparse_none (s := s) (by rw [← HR.out, hro, if_pos (.inl ht0)]; rfl))
          have q5 := emp_yes (r := mkS t) (by rw [ht0]; rfl)
          clear hro ht0
          go_wp2_with fail
          refine (part_is HPT.out (by omega) he (by omega) (by omega)).mono ?_
          rintro r w2 ⟨rfl, hE⟩
          have HE2 := Lib.hid (HE.out.trans hE); have HO2 := Lib.hid (own_stab3 hE HO.out); clear hE
          go_wp2_with fail
          go_ret2
          exact ⟨HE2.out.alloc _, .inl ⟨HN.out, _, _, rfl⟩⟩
        have q5 := emp_no (r := mkS t) (by rw [mkS_size]; intro e; exact ht0 (List.length_eq_zero_iff.1 e))
        have htl : 1 ≤ t.length := by cases t with
          | nil => exact absurd rfl ht0
          | cons _ _ => simp
        by_cases hes : e = s.size
        · have HN := Lib.hid (rparse_none (s := s) (by rw [← HR.out, hro, if_pos (.inr (.inl (List.drop_eq_nil_of_le (by rw [← size_len]; omega))))]; rfl))
          have q6 : ((e : Int) == (s.size : Int)) = true := by simp; omega
          clear hro ht0
          go_wp2_with fail
          refine (part_is HPT.out (by omega) he (by omega) (by omega)).mono ?_
          rintro r w2 ⟨rfl, hE⟩
          have HE2 := Lib.hid (HE.out.trans hE); have HO2 := Lib.hid (own_stab3 hE HO.out); clear hE
          go_wp2_with fail
          go_ret2
          exact ⟨HE2.out.alloc _, .inl ⟨HN.out, _, _, rfl⟩⟩
        have hel : e < s.size := by omega
        have q6 : ((e : Int) == (s.size : Int)) = false := by simp; omega
        have hem : e - 1 < s.size := by omega
        have hei : ((e : Int) - 1) = ((e - 1 : Nat) : Int) := by omega
        have hh0 : s.data.toList.drop e ≠ [] := by
          intro h; have := congrArg List.length h; rw [List.length_drop, ← size_len] at this; simp at this; omega
        have hh1 : (s.data.toList.drop e).head? = some s[e] := by
          rw [drop_of (byte_at hel)]; rfl
        have hh2 : (s.data.toList.drop (a + 2))[n - 1]? = some s[e - 1] := by
          rw [List.getElem?_drop, show a + 2 + (n - 1) = e - 1 by omega]; exact byte_at hem
        rw [hh1, hh2] at hro
        by_cases hc1 : s[e] = 93
        · have q7 : ((s[e].toNat : Int) != 93) = false := by rw [hc1]; rfl
          by_cases hc2 : s[e - 1] = 45
          · have q8 : ((s[e - 1].toNat : Int) != 45) = false := by rw [hc2]; rfl
            have hcond : ¬ (t = [] ∨ s.data.toList.drop e = [] ∨ some s[e] ≠ some (93 : UInt8) ∨ some s[e - 1] ≠ some (45 : UInt8)) := by
              rintro (h | h | h | h)
              · exact ht0 h
              · exact hh0 h
              · exact h (by rw [hc1])
              · exact h (by rw [hc2])
            rw [if_neg hcond] at hro
            have hr2 : (rG (s.data.toList.drop (e + 1))).map (fun l => (L ++ [⟨1, mkS t.dropLast⟩]) ++ l) = rG s.data.toList := by
              rw [← HR.out, hro, Option.map_map]
              congr 1
              funext l; simp
            obtain ⟨ut, hut⟩ : ∃ ut, t.dropLast = ut := ⟨_, rfl⟩
            have hutl : ut.length = t.length - 1 := by rw [← hut, List.length_dropLast]
            have hutx : (mkS t).extract 0 (t.length - 1) = mkS ut := by
              rw [Lib.extract_eq, mkS_data, List.drop_zero, ← hut, List.dropLast_eq_take, Nat.sub_zero]; rfl
            have hts : (mkS t).size = t.length := rfl
            rw [hut] at hr2
            have HR2 := Lib.hid hr2; clear hro hr2 hh0 hh1 hh2 hc1 hc2 ht0 hut hcond
            have q9 : ((e : Int) + 1 == (a : Int)) = false := by simp; omega
            go_wp2_with fail
            refine (part_is HPT.out (by omega) he (by omega) (by omega)).mono ?_
            rintro r w2 ⟨rfl, hE⟩
            have HE2 := Lib.hid (HE.out.trans hE); have HO2 := Lib.hid (own_stab3 hE HO.out); clear hE
            go_wp2_with (at_builtin; refine wpList_append_size rfl (.tmp 111) (.tmp 115) 25 rfl w.heap.size 30 inf _ 2 24 underPc I1.out I2.out I3.out I4.out rfl (by decide) _ L.length (L.flatMap Pc.cells) (some ⟨_, 0, none⟩) 1 1 (Pc.cells ⟨1, mkS ut⟩) rfl (by simp [Act.eval]) rfl (by simp [Pc.cells, Value.oneCell']) (by simp only [maxLen]; omega) (by omega) (own_stab3 ((Ext.refl _).alloc _) HO2.out) (Cells.new _ _ (Pc.cells ⟨1, mkS ut⟩) rfl) (by have := HE2.out.size; simp; omega) ?_; intro v3 w3 hown3 hg3; have HO3 := Lib.hid hown3; have HE3 := Lib.hid ((HE2.out.alloc (Pc.obj ⟨1, mkS ut⟩)).own3 (own_stab3 ((Ext.refl _).alloc _) HO2.out) hg3); clear hown3 hg3)
            go_roundw
            case rel =>
              refine ⟨e + 1, L ++ [⟨1, mkS ut⟩], by go_num, by omega, by rw [List.length_append, List.length_singleton]; omega, ?_, HE3.out, HR2.out, ?_, ?_⟩
              · rw [List.length_append, List.flatMap_append]; simpa using HO3.out
              · intro x hx
                rcases List.mem_append.1 hx with hx | hx
                · exact HW.out x hx
                · obtain rfl := List.mem_singleton.1 hx
                  exact ⟨⟨by dsimp only; omega, by dsimp only; omega⟩, by unfold Reach; dsimp only; rw [mkS_size]; omega⟩
              · have := one_rend 1 ut
                rw [rend_app, List.length_append]; omega
            case measure => simp [intOf]; omega
          · have q8 : ((s[e - 1].toNat : Int) != 45) = true := by
              have : s[e - 1].toNat ≠ 45 := fun h => hc2 (UInt8.toNat_inj.1 h)
              simp; omega
            have HN := Lib.hid (rparse_none (s := s) (by rw [← HR.out, hro, if_pos (.inr (.inr (.inr (fun h => hc2 (Option.some.inj h)))))]; rfl))
            clear hro hh0 hh1 hh2 hc1 hc2 ht0
            go_wp2_with fail
            refine (part_is HPT.out (by omega) he (by omega) (by omega)).mono ?_
            rintro r w2 ⟨rfl, hE⟩
            have HE2 := Lib.hid (HE.out.trans hE); have HO2 := Lib.hid (own_stab3 hE HO.out); clear hE
            go_wp2_with fail
            go_ret2
            exact ⟨HE2.out.alloc _, .inl ⟨HN.out, _, _, rfl⟩⟩
        · have q7 : ((s[e].toNat : Int) != 93) = true := by
            have : s[e].toNat ≠ 93 := fun h => hc1 (UInt8.toNat_inj.1 h)
            simp; omega
          have HN := Lib.hid (rparse_none (s := s) (by rw [← HR.out, hro, if_pos (.inr (.inr (.inl (fun h => hc1 (Option.some.inj h)))))]; rfl))
          clear hro hh0 hh1 hh2 hc1 ht0
          go_wp2_with fail
          refine (part_is HPT.out (by omega) he (by omega) (by omega)).mono ?_
          rintro r w2 ⟨rfl, hE⟩
          have HE2 := Lib.hid (HE.out.trans hE); have HO2 := Lib.hid (own_stab3 hE HO.out); clear hE
          go_wp2_with fail
          go_ret2
          exact ⟨HE2.out.alloc _, .inl ⟨HN.out, _, _, rfl⟩⟩
      · have h2 : a + 2 ≤ s.size := by
          have := opn_len (q := s.data.toList.drop a) (by rw [ho0]; decide)
          rw [List.length_drop, ← size_len] at this; omega
        have q1 : ((s.extract a (a + 2)).toList == [91, 45]) = false := by rw [two_is h2 _ rfl]; simpa using hx1
        have q2 : ((s.extract a (a + 2)).toList == [123, 43]) = true := by rw [two_is h2 _ rfl]; simpa using hx2
        obtain ⟨pt, hpt⟩ : ∃ pt, partL (s.data.toList.drop (a + 2)) = pt := ⟨_, rfl⟩
        obtain ⟨t, n⟩ := pt
        have hro := rG_open (s := s.data.toList.drop a) (t := t) (n := n) (by rw [ho0]; decide) (by rw [List.drop_drop]; exact hpt)
        rw [ho0, show closec 2 = 125 from rfl, show endc 2 = 43 from rfl] at hro
        have hple := partL_le (s.data.toList.drop (a + 2))
        rw [hpt, List.length_drop, ← size_len] at hple
        dsimp only at hple
        obtain ⟨e, he⟩ : ∃ e, a + 2 + n = e := ⟨_, rfl⟩
        simp only [List.drop_drop, he] at hro
        have HPT := Lib.hid hpt; clear hpt ho0 hx1 hx2
        by_cases ht0 : t = []
        · have HN := Lib.hid (rparse_none (s := s) (by rw [← HR.out, hro, if_pos (.inl ht0)]; rfl))
          have q5 := emp_yes (r := mkS t) (by rw [ht0]; rfl)
          clear hro ht0
          go_wp2_with fail
          refine (part_is HPT.out (by omega) he (by omega) (by omega)).mono ?_
          rintro r w2 ⟨rfl, hE⟩
          have HE2 := Lib.hid (HE.out.trans hE); have HO2 := Lib.hid (own_stab3 hE HO.out); clear hE
          go_wp2_with fail
          go_ret2
          exact ⟨HE2.out.alloc _, .inl ⟨HN.out, _, _, rfl⟩⟩
        have q5 := emp_no (r := mkS t) (by rw [mkS_size]; intro e; exact ht0 (List.length_eq_zero_iff.1 e))
        have htl : 1 ≤ t.length := by cases t with
          | nil => exact absurd rfl ht0
          | cons _ _ => simp
        by_cases hes : e = s.size
        · have HN := Lib.hid (rparse_none (s := s) (by rw [← HR.out, hro, if_pos (.inr (.inl (List.drop_eq_nil_of_le (by rw [← size_len]; omega))))]; rfl))
          have q6 : ((e : Int) == (s.size : Int)) = true := by simp; omega
          clear hro ht0
          go_wp2_with fail
          refine (part_is HPT.out (by omega) he (by omega) (by omega)).mono ?_
          rintro r w2 ⟨rfl, hE⟩
          have HE2 := Lib.hid (HE.out.trans hE); have HO2 := Lib.hid (own_stab3 hE HO.out); clear hE
          go_wp2_with fail
          go_ret2
          exact ⟨HE2.out.alloc _, .inl ⟨HN.out, _, _, rfl⟩⟩
        have hel : e < s.size := by omega
        have q6 : ((e : Int) == (s.size : Int)) = false := by simp; omega
        have hem : e - 1 < s.size := by omega
        have hei : ((e : Int) - 1) = ((e - 1 : Nat) : Int) := by omega
        have hh0 : s.data.toList.drop e ≠ [] := by
          intro h; have := congrArg List.length h; rw [List.length_drop, ← size_len] at this; simp at this; omega
        have hh1 : (s.data.toList.drop e).head? = some s[e] := by
          rw [drop_of (byte_at hel)]; rfl
        have hh2 : (s.data.toList.drop (a + 2))[n - 1]? = some s[e - 1] := by
          rw [List.getElem?_drop, show a + 2 + (n - 1) = e - 1 by omega]; exact byte_at hem
        rw [hh1, hh2] at hro
        by_cases hc1 : s[e] = 125
        · have q7 : ((s[e].toNat : Int) != 125) = false := by rw [hc1]; rfl
          by_cases hc2 : s[e - 1] = 43
          · have q8 : ((s[e - 1].toNat : Int) != 43) = false := by rw [hc2]; rfl
            have hcond : ¬ (t = [] ∨ s.data.toList.drop e = [] ∨ some s[e] ≠ some (125 : UInt8) ∨ some s[e - 1] ≠ some (43 : UInt8)) := by
              rintro (h | h | h | h)
              · exact ht0 h
              · exact hh0 h
              · exact h (by rw [hc1])
              · exact h (by rw [hc2])
            rw [if_neg hcond] at hro
            have hr2 : (rG (s.data.toList.drop (e + 1))).map (fun l => (L ++ [⟨2, mkS t.dropLast⟩]) ++ l) = rG s.data.toList := by
              rw [← HR.out, hro, Option.map_map]
              congr 1
              funext l; simp
            obtain ⟨ut, hut⟩ : ∃ ut, t.dropLast = ut := ⟨_, rfl⟩
            have hutl : ut.length = t.length - 1 := by rw [← hut, List.length_dropLast]
            have hutx : (mkS t).extract 0 (t.length - 1) = mkS ut := by
              rw [Lib.extract_eq, mkS_data, List.drop_zero, ← hut, List.dropLast_eq_take, Nat.sub_zero]; rfl
            have hts : (mkS t).size = t.length := rfl
            rw [hut] at hr2
            have HR2 := Lib.hid hr2; clear hro hr2 hh0 hh1 hh2 hc1 hc2 ht0 hut hcond
            have q9 : ((e : Int) + 1 == (a : Int)) = false := by simp; omega
            go_wp2_with fail
            refine (part_is HPT.out (by omega) he (by omega) (by omega)).mono ?_
            rintro r w2 ⟨rfl, hE⟩
            have HE2 := Lib.hid (HE.out.trans hE); have HO2 := Lib.hid (own_stab3 hE HO.out); clear hE
            go_wp2_with (at_builtin; refine wpList_append_size rfl (.tmp 111) (.tmp 115) 25 rfl w.heap.size 30 inf _ 2 24 underPc I1.out I2.out I3.out I4.out rfl (by decide) _ L.length (L.flatMap Pc.cells) (some ⟨_, 0, none⟩) 1 1 (Pc.cells ⟨2, mkS ut⟩) rfl (by simp [Act.eval]) rfl (by simp [Pc.cells, Value.oneCell']) (by simp only [maxLen]; omega) (by omega) (own_stab3 ((Ext.refl _).alloc _) HO2.out) (Cells.new _ _ (Pc.cells ⟨2, mkS ut⟩) rfl) (by have := HE2.out.size; simp; omega) ?_; intro v3 w3 hown3 hg3; have HO3 := Lib.hid hown3; have HE3 := Lib.hid ((HE2.out.alloc (Pc.obj ⟨2, mkS ut⟩)).own3 (own_stab3 ((Ext.refl _).alloc _) HO2.out) hg3); clear hown3 hg3)
            go_roundw
            case rel =>
              refine ⟨e + 1, L ++ [⟨2, mkS ut⟩], by go_num, by omega, by rw [List.length_append, List.length_singleton]; omega, ?_, HE3.out, HR2.out, ?_, ?_⟩
              · rw [List.length_append, List.flatMap_append]; simpa using HO3.out
              · intro x hx
                rcases List.mem_append.1 hx with hx | hx
                · exact HW.out x hx
                · obtain rfl := List.mem_singleton.1 hx
                  exact ⟨⟨by dsimp only; omega, by dsimp only; omega⟩, by unfold Reach; dsimp only; rw [mkS_size]; omega⟩
              · have := one_rend 2 ut
                rw [rend_app, List.length_append]; omega
            case measure => simp [intOf]; omega
          · have q8 : ((s[e - 1].toNat : Int) != 43) = true := by
              have : s[e - 1].toNat ≠ 43 := fun h => hc2 (UInt8.toNat_inj.1 h)
              simp; omega
            have HN := Lib.hid (rparse_none (s := s) (by rw [← HR.out, hro, if_pos (.inr (.inr (.inr (fun h => hc2 (Option.some.inj h)))))]; rfl))
            clear hro hh0 hh1 hh2 hc1 hc2 ht0
            go_wp2_with fail
            refine (part_is HPT.out (by omega) he (by omega) (by omega)).mono ?_
            rintro r w2 ⟨rfl, hE⟩
            have HE2 := Lib.hid (HE.out.trans hE); have HO2 := Lib.hid (own_stab3 hE HO.out); clear hE
            go_wp2_with fail
            go_ret2
            exact ⟨HE2.out.alloc _, .inl ⟨HN.out, _, _, rfl⟩⟩
        · have q7 : ((s[e].toNat : Int) != 125) = true := by
            have : s[e].toNat ≠ 125 := fun h => hc1 (UInt8.toNat_inj.1 h)
            simp; omega
          have HN := Lib.hid (rparse_none (s := s) (by rw [← HR.out, hro, if_pos (.inr (.inr (.inl (fun h => hc1 (Option.some.inj h)))))]; rfl))
          clear hro hh0 hh1 hh2 hc1 ht0
          go_wp2_with fail
          refine (part_is HPT.out (by omega) he (by omega) (by omega)).mono ?_
          rintro r w2 ⟨rfl, hE⟩
          have HE2 := Lib.hid (HE.out.trans hE); have HO2 := Lib.hid (own_stab3 hE HO.out); clear hE
          go_wp2_with fail
          go_ret2
          exact ⟨HE2.out.alloc _, .inl ⟨HN.out, _, _, rfl⟩⟩
      · by_cases h2 : a + 2 ≤ s.size
        · have q1 : ((s.extract a (a + 2)).toList == [91, 45]) = false := by rw [two_is h2 _ rfl]; simpa using hx1
          have q2 : ((s.extract a (a + 2)).toList == [123, 43]) = false := by rw [two_is h2 _ rfl]; simpa using hx2
          obtain ⟨pt, hpt⟩ : ∃ pt, partL (s.data.toList.drop a) = pt := ⟨_, rfl⟩
          obtain ⟨t, n⟩ := pt
          have hrz := rG_zero (by intro e; have := congrArg List.length e; rw [List.length_drop, ← size_len] at this; simp at this; omega) ho0 hpt
          have hple := partL_le (s.data.toList.drop a)
          rw [hpt, List.length_drop, ← size_len] at hple
          dsimp only at hple
          have HPT := Lib.hid hpt; clear hpt ho0 hx1 hx2
          obtain ⟨e, he⟩ : ∃ e, a + n = e := ⟨_, rfl⟩
          by_cases hn0 : n = 0
          · have HN := Lib.hid (rparse_none (s := s) (by rw [← HR.out, hrz, if_pos hn0]; rfl))
            clear hrz
            have q5 : ((e : Int) == (a : Int)) = true := by simp; omega
            go_wp2_with fail
            refine (part_is HPT.out rfl he (by omega) (by omega)).mono ?_
            rintro r w2 ⟨rfl, hE⟩
            have HE2 := Lib.hid (HE.out.trans hE); have HO2 := Lib.hid (own_stab3 hE HO.out); clear hE
            go_wp2_with fail
            go_ret2
            exact ⟨HE2.out.alloc _, .inl ⟨HN.out, _, _, rfl⟩⟩
          · rw [if_neg hn0] at hrz
            have hr2 : (rG (s.data.toList.drop e)).map (fun l => (L ++ [⟨0, mkS t⟩]) ++ l) = rG s.data.toList := by
              rw [← HR.out, hrz, Option.map_map, List.drop_drop, he]
              congr 1
              funext l; simp
            have HR2 := Lib.hid hr2; clear hrz hr2
            have q5 : ((e : Int) == (a : Int)) = false := by simp; omega
            go_wp2_with fail
            refine (part_is HPT.out rfl he (by omega) (by omega)).mono ?_
            rintro r w2 ⟨rfl, hE⟩
            have HE2 := Lib.hid (HE.out.trans hE); have HO2 := Lib.hid (own_stab3 hE HO.out); clear hE
            go_wp2_with (at_builtin; refine wpList_append_size rfl (.tmp 111) (.tmp 115) 25 rfl w.heap.size 30 inf _ 2 24 underPc I1.out I2.out I3.out I4.out rfl (by decide) _ L.length (L.flatMap Pc.cells) (some ⟨_, 0, none⟩) 1 1 (Pc.cells ⟨0, mkS t⟩) rfl (by simp [Act.eval]) rfl (by simp [Pc.cells, Value.oneCell']) (by simp only [maxLen]; omega) (by omega) (own_stab3 ((Ext.refl _).alloc _) HO2.out) (Cells.new _ _ (Pc.cells ⟨0, mkS t⟩) rfl) (by have := HE2.out.size; simp; omega) ?_; intro v3 w3 hown3 hg3; have HO3 := Lib.hid hown3; have HE3 := Lib.hid ((HE2.out.alloc (Pc.obj ⟨0, mkS t⟩)).own3 (own_stab3 ((Ext.refl _).alloc _) HO2.out) hg3); clear hown3 hg3)
            go_roundw
            case rel =>
              refine ⟨e, L ++ [⟨0, mkS t⟩], by go_num, by omega, by rw [List.length_append, List.length_singleton]; omega, ?_, HE3.out, HR2.out, ?_, ?_⟩
              · rw [List.length_append, List.flatMap_append]; simpa using HO3.out
              · intro x hx
                rcases List.mem_append.1 hx with hx | hx
                · exact HW.out x hx
                · obtain rfl := List.mem_singleton.1 hx
                  exact ⟨⟨by dsimp only; omega, by dsimp only; omega⟩, by unfold Reach; dsimp only; rw [mkS_size]; omega⟩
              · have := one_rend 0 t
                rw [rend_app, List.length_append]; omega
            case measure => simp [intOf]; omega
        · skip
          obtain ⟨pt, hpt⟩ : ∃ pt, partL (s.data.toList.drop a) = pt := ⟨_, rfl⟩
          obtain ⟨t, n⟩ := pt
          have hrz := rG_zero (by intro e; have := congrArg List.length e; rw [List.length_drop, ← size_len] at this; simp at this; omega) ho0 hpt
          have hple := partL_le (s.data.toList.drop a)
          rw [hpt, List.length_drop, ← size_len] at hple
          dsimp only at hple
          have HPT := Lib.hid hpt; clear hpt ho0 hx1 hx2
          obtain ⟨e, he⟩ : ∃ e, a + n = e := ⟨_, rfl⟩
          by_cases hn0 : n = 0
          · have HN := Lib.hid (rparse_none (s := s) (by rw [← HR.out, hrz, if_pos hn0]; rfl))
            clear hrz
            have q5 : ((e : Int) == (a : Int)) = true := by simp; omega
            go_wp2_with fail
            refine (part_is HPT.out rfl he (by omega) (by omega)).mono ?_
            rintro r w2 ⟨rfl, hE⟩
            have HE2 := Lib.hid (HE.out.trans hE); have HO2 := Lib.hid (own_stab3 hE HO.out); clear hE
            go_wp2_with fail
            go_ret2
            exact ⟨HE2.out.alloc _, .inl ⟨HN.out, _, _, rfl⟩⟩
          · rw [if_neg hn0] at hrz
            have hr2 : (rG (s.data.toList.drop e)).map (fun l => (L ++ [⟨0, mkS t⟩]) ++ l) = rG s.data.toList := by
              rw [← HR.out, hrz, Option.map_map, List.drop_drop, he]
              congr 1
              funext l; simp
            have HR2 := Lib.hid hr2; clear hrz hr2
            have q5 : ((e : Int) == (a : Int)) = false := by simp; omega
            go_wp2_with fail
            refine (part_is HPT.out rfl he (by omega) (by omega)).mono ?_
            rintro r w2 ⟨rfl, hE⟩
            have HE2 := Lib.hid (HE.out.trans hE); have HO2 := Lib.hid (own_stab3 hE HO.out); clear hE
            go_wp2_with (at_builtin; refine wpList_append_size rfl (.tmp 111) (.tmp 115) 25 rfl w.heap.size 30 inf _ 2 24 underPc I1.out I2.out I3.out I4.out rfl (by decide) _ L.length (L.flatMap Pc.cells) (some ⟨_, 0, none⟩) 1 1 (Pc.cells ⟨0, mkS t⟩) rfl (by simp [Act.eval]) rfl (by simp [Pc.cells, Value.oneCell']) (by simp only [maxLen]; omega) (by omega) (own_stab3 ((Ext.refl _).alloc _) HO2.out) (Cells.new _ _ (Pc.cells ⟨0, mkS t⟩) rfl) (by have := HE2.out.size; simp; omega) ?_; intro v3 w3 hown3 hg3; have HO3 := Lib.hid hown3; have HE3 := Lib.hid ((HE2.out.alloc (Pc.obj ⟨0, mkS t⟩)).own3 (own_stab3 ((Ext.refl _).alloc _) HO2.out) hg3); clear hown3 hg3)
            go_roundw
            case rel =>
              refine ⟨e, L ++ [⟨0, mkS t⟩], by go_num, by omega, by rw [List.length_append, List.length_singleton]; omega, ?_, HE3.out, HR2.out, ?_, ?_⟩
              · rw [List.length_append, List.flatMap_append]; simpa using HO3.out
              · intro x hx
                rcases List.mem_append.1 hx with hx | hx
                · exact HW.out x hx
                · obtain rfl := List.mem_singleton.1 hx
                  exact ⟨⟨by dsimp only; omega, by dsimp only; omega⟩, by unfold Reach; dsimp only; rw [mkS_size]; omega⟩
              · have := one_rend 0 t
                rw [rend_app, List.length_append]; omega
            case measure => simp [intOf]; omega
    · have had : s.data.toList.drop a = [] := List.drop_eq_nil_of_le (by rw [← size_len]; omega)
      have hr := HR.out
      rw [had] at hr
      have hr0 : rG s.data.toList = some L := by rw [← hr]; show (some []).map _ = _; simp
      have HR0 := Lib.hid hr0; clear had hr hr0
      obtain ⟨A, c, rfl, hc, hPc⟩ := ownP_pcs HO.out HW.out
      have HPC := Lib.hid hPc; clear hPc
      cases hv : vldV L with
      | false =>
        have hn : rparseV s = none := by unfold rparseV; rw [HR0.out, Option.bind_some, if_neg (by simp [hv])]
        have he : renE L = 1 := by rw [renE, if_neg (by simp [hv])]
        have HN := Lib.hid hn; have HEE := Lib.hid he; clear hn he hv
        go_wp2_with fail
        refine (rrender_any A L.length c L wr HPC.out (by omega) (by omega)).mono ?_
        rintro e w2 ⟨rfl, hE⟩
        rw [HEE.out]
        have HE2 := Lib.hid (HE.out.trans hE); clear hE
        go_wp2_with fail
        go_ret2
        exact ⟨HE2.out.alloc _, .inl ⟨HN.out, _, _, rfl⟩⟩
      | true =>
        have he : renE L = 0 := by rw [renE, if_pos hv]
        have hre : rendV L = mkS (rendL L) := by rw [rendV, if_pos hv]
        by_cases hsr : rendL L = s.data.toList
        · have hn : rparseV s = some L := by unfold rparseV; rw [HR0.out, Option.bind_some, if_pos ⟨hv, hsr⟩]
          have hrs : mkS (rendL L) = s := by rw [hsr]; exact mkS_of s
          rw [hrs] at hre
          have HN := Lib.hid hn; have HEE := Lib.hid he; have HRE := Lib.hid hre; clear hn he hv hre hsr hrs
          go_wp2_with fail
          refine (rrender_any A L.length c L wr HPC.out (by omega) (by omega)).mono ?_
          rintro e w2 ⟨rfl, hE⟩
          rw [HEE.out, HRE.out]
          have HE2 := Lib.hid (HE.out.trans hE); have HP2 := Lib.hid (HPC.out.ext hE); clear hE
          go_wp2_with fail
          go_ret2
          exact ⟨HE2.out, .inr ⟨L, A, c, HN.out, rfl, hc, HP2.out⟩⟩
        · have hn : rparseV s = none := by unfold rparseV; rw [HR0.out, Option.bind_some, if_neg (fun h => hsr h.2)]
          have hq : ((mkS (rendL L)).toList == s.toList) = false := by
            cases e : (mkS (rendL L)).toList == s.toList with
            | false => rfl
            | true =>
              have := toList_inj (s := mkS (rendL L)) (t := s) (by simpa using e)
              exact absurd (by rw [← this]; rfl) hsr
          have HN := Lib.hid hn; have HEE := Lib.hid he; have HRE := Lib.hid hre; clear hn he hv hre hsr
          go_wp2_with fail
          refine (rrender_any A L.length c L wr HPC.out (by omega) (by omega)).mono ?_
          rintro e w2 ⟨rfl, hE⟩
          rw [HEE.out, HRE.out]
          have HE2 := Lib.hid (HE.out.trans hE); clear hE
          go_wp2_with fail
          go_ret2
          exact ⟨HE2.out.alloc _, .inl ⟨HN.out, _, _, rfl⟩⟩
end Go.Proofs.Ytmmppfopokbcfaa
