/- The contract of 'carried': one hunk past a sequence, and behind those that are through. -/
import Derived.Test.YtilogolnoifigaaPass
namespace Go.Proofs.Ytilogolnoifigaa
open Go.RowKit

theorem pass_none {hs : List Hk} {h : Hk} (A : Option Addr) (n c : Nat) (w : World) (hh : Hks w A n hs) (hn : n ≤ 1000) (hsm : h.small) (hp : passV hs h = none) :
    Calls Try.prog 35 #[.slice A n c, h.val] w fun e w' => Ext w w' ∧ e = .returned (.tuple #[.slice none 0 0, Hk.zero.val, .bool false]) := by
  have := pass_any (h := h) A n c w hh hn hsm
  rw [hp] at this; exact this
theorem pass_some {hs s' : List Hk} {h h' : Hk} (A : Option Addr) (n c : Nat) (w : World) (hh : Hks w A n hs) (hn : n ≤ 1000) (hsm : h.small) (hp : passV hs h = some (h', s')) :
    Calls Try.prog 35 #[.slice A n c, h.val] w fun e w' => Ext w w' ∧ ∃ v, w'.ownsRow w.heap.size 24 3 v n (s'.flatMap Hk.cells) ∧ (∀ x ∈ s', x.small) ∧ h'.small ∧ e = .returned (.tuple #[v, h'.val, .bool true]) := by
  have := pass_any (h := h) A n c w hh hn hsm
  rw [hp] at this; exact this

set_option maxHeartbeats 4000000 in
theorem carried_none {hs xs : List Hk} {h : Hk} (w0 : World) (A : Option Addr) (n c : Nat) (v : Value) (m : Nat) (w : World) (hE : Ext w0 w) (ho : w.ownsRow w0.heap.size 24 3 v m (xs.flatMap Hk.cells)) (hm : m ≤ 1000) (hh : Hks w A n hs) (hn : n ≤ 1000) (hsm : h.small) (hp : passV hs h = none) :
    Calls Try.prog 34 #[v, h.val, .func (.func 35) #[.slice A n c] #[]] w fun e w' => Ext w0 w' ∧ ∃ v', e = .returned (.tuple #[.slice none 0 0, v', .bool false]) := by
  obtain ⟨inf, i1, i2, i3, i4⟩ := infoH
  have I1 := Lib.hid i1; have I2 := Lib.hid i2; have I3 := Lib.hid i3; have I4 := Lib.hid i4; clear i1 i2 i3 i4
  have HE := Lib.hid hE; have HO := Lib.hid ho; have HH := Lib.hid hh; have HS := Lib.hid hsm; have HP := Lib.hid hp; clear hE ho hh hsm hp
  have K0 := Lib.hid ((Know.start w).new h.obj rfl)
  go_enter Try.func34, Try.ntmps34
  go_wp2_with fail
  refine (pass_none A n c _ (HH.out.ext K0.out.1) hn HS.out HP.out).mono ?_
  rintro e w1 ⟨hE, rfl⟩
  have hE0 := Lib.hid hE
  have K1 := Lib.hid ((K0.out.ext hE).new Hk.zero.obj rfl); clear hE
  obtain ⟨c00, c01, c02⟩ := (K1.out.at 0 rfl).cells3
  have HO2 := Lib.hid (own_stab3 (((Ext.refl w).alloc _).trans hE0.out) HO.out)
  go_wp2_with (at_builtin; refine wpList_append_size rfl (.tmp 20) (.tmp 22) 26 rfl w0.heap.size 24 inf _ 3 56 underHs I1.out I2.out I3.out I4.out rfl (by decide) v m (xs.flatMap Hk.cells) (some ⟨w1.heap.size + 1, 0, none⟩) 1 1 (Hk.zero.cells) rfl (by simp [Act.eval]) rfl (by simpa using one_hk [Hk.zero]) (by simp only [maxLen]; omega) (by omega) (own_stab3 (((Ext.refl w1).alloc _).alloc _) HO2.out) (Cells.new _ _ Hk.zero.cells (by simp)) (by have := HE.out.size; have := K1.out.1.size; simp at this ⊢; omega) ?_; intro v2 w2 hown2 hg2)
  have HE2 := Lib.hid (((HE.out.trans K1.out.1).alloc _).own3 (own_stab3 (((Ext.refl w1).alloc _).alloc _) HO2.out) hg2); clear hown2 hg2
  go_wp2_with fail
  exact bodyPost_ret (v := .tuple #[.slice none 0 0, v2, .bool false]) (by simp [results, Try.results34, go_sem]) rfl ⟨HE2.out, _, rfl⟩

set_option maxHeartbeats 4000000 in
theorem carried_some {hs xs s' : List Hk} {h h' : Hk} (w0 : World) (A : Option Addr) (n c : Nat) (v : Value) (m : Nat) (w : World) (hE : Ext w0 w) (ho : w.ownsRow w0.heap.size 24 3 v m (xs.flatMap Hk.cells)) (hm : m ≤ 1000) (hh : Hks w A n hs) (hn : n ≤ 1000) (hsm : h.small) (hp : passV hs h = some (h', s')) :
    Calls Try.prog 34 #[v, h.val, .func (.func 35) #[.slice A n c] #[]] w fun e w' => Ext w0 w' ∧ ∃ A' c' v', n ≤ c' ∧ Hks w' A' n s' ∧ h'.small ∧ w'.ownsRow w0.heap.size 24 3 v' (m + 1) ((xs ++ [h']).flatMap Hk.cells) ∧ e = .returned (.tuple #[.slice A' n c', v', .bool true]) := by
  obtain ⟨inf, i1, i2, i3, i4⟩ := infoH
  have I1 := Lib.hid i1; have I2 := Lib.hid i2; have I3 := Lib.hid i3; have I4 := Lib.hid i4; clear i1 i2 i3 i4
  have HE := Lib.hid hE; have HO := Lib.hid ho; have HH := Lib.hid hh; have HS := Lib.hid hsm; have HP := Lib.hid hp; clear hE ho hh hsm hp
  have K0 := Lib.hid ((Know.start w).new h.obj rfl)
  go_enter Try.func34, Try.ntmps34
  go_wp2_with fail
  refine (pass_some A n c _ (HH.out.ext K0.out.1) hn HS.out HP.out).mono ?_
  rintro e w1 ⟨hE, vs, hos, hss, hsh, rfl⟩
  have HOS := Lib.hid hos; have HSS := Lib.hid hss; have HSH := Lib.hid hsh; clear hos hss hsh
  have hE0 := Lib.hid hE
  have K1 := Lib.hid ((K0.out.ext hE).new h'.obj rfl); clear hE
  obtain ⟨c00, c01, c02⟩ := (K1.out.at 0 rfl).cells3
  have HO2 := Lib.hid (own_stab3 (((Ext.refl w).alloc _).trans hE0.out) HO.out)
  go_wp2_with (at_builtin; refine wpList_append_size rfl (.tmp 20) (.tmp 22) 26 rfl w0.heap.size 24 inf _ 3 56 underHs I1.out I2.out I3.out I4.out rfl (by decide) v m (xs.flatMap Hk.cells) (some ⟨w1.heap.size + 1, 0, none⟩) 1 1 (h'.cells) rfl (by simp [Act.eval]) rfl (by simpa using one_hk [h']) (by simp only [maxLen]; omega) (by omega) (own_stab3 (((Ext.refl w1).alloc _).alloc _) HO2.out) (Cells.new _ _ h'.cells (by simp)) (by have := HE.out.size; have := K1.out.1.size; simp at this ⊢; omega) ?_; intro v2 w2 hown2 hg2)
  have HE2 := Lib.hid (((HE.out.trans K1.out.1).alloc _).own3 (own_stab3 (((Ext.refl w1).alloc _).alloc _) HO2.out) hg2)
  have hs1 := own_stab3 (((Ext.refl w1).alloc h'.obj).alloc h'.obj) HOS.out
  have hs2 := hs1.kept hg2 (by
    rcases hv : vs.ownBlock with _ | k
    · exact .inl rfl
    · right
      intro e
      have k1 := HOS.out.lt k hv
      have k2 := HO.out.lt k e.symm
      simp at k1
      omega)
  obtain ⟨A', c', rfl, hc', hk'⟩ := own_hks hs2 HSS.out
  have HK := Lib.hid hk'; have HOW := Lib.hid hown2; clear hown2 hg2 hs1 hs2 hk'
  go_wp2_with fail
  exact bodyPost_ret (v := .tuple #[.slice A' n c', v2, .bool true]) (by simp [results, Try.results34, go_sem]) rfl ⟨HE2.out, A', c', v2, hc', HK.out, HSH.out, by simpa using HOW.out, rfl⟩

end Go.Proofs.Ytilogolnoifigaa
