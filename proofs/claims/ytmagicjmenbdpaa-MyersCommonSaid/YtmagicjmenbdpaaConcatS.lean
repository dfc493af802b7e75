/- The contracts of slices.Grow (nil) and slices.Concat of two lists of strings. -/
import Derived.Test.YtmagicjmenbdpaaEqual
import Derived.Lib.AppendZeros
namespace Go.Proofs.Ytmagicjmenbdpaa
open Go.RowKit

theorem infoS : (Try.prog.info? 9).map (fun i => (i.zero, i.size, i.bytes)) = some (some (.string ⟨#[]⟩), 1, 16) := by kernel_rfl
theorem underSs : Try.prog.underlying 22 = some (.slice 9) := by kernel_rfl
theorem one_str (hs : List ByteArray) : ∀ u ∈ hs.map Value.string, u.oneCell' = true := by
  intro u hu
  obtain ⟨h, _, rfl⟩ := List.mem_map.1 hu
  rfl
theorem underI : Try.prog.underlying 3 = some (.int .i64) := by kernel_rfl

set_option maxHeartbeats 1000000 in
theorem grow_any (n : Nat) (w : World) (hn : n ≤ 2000) :
    Calls Try.prog 40 #[.slice none 0 0, .int .i64 n] w fun e w' => Ext w w' ∧ ∃ v, e = .returned v ∧ w'.ownsRow w.heap.size 9 1 v 0 [] := by
  obtain ⟨inf, i1, i2, i3, i4⟩ := info_of infoS
  have I1 := Lib.hid i1; have I2 := Lib.hid i2; have I3 := Lib.hid i3; have I4 := Lib.hid i4; clear i1 i2 i3 i4
  by_cases h0 : n = 0
  · subst h0
    go_enter Try.func40, Try.ntmps40
    go_wp2_with fail
    go_ret
    exact ⟨Ext.refl _, _, rfl, World.ownsRow_nil _ _ _ _⟩
  · have hpos : 0 < n := by omega
    have hrun : ∀ ty w, (Builtin.append_ #[22, 3] ty #[.slice none 0 0, .int .i64 n]).run Try.prog w = .ok (.slice (some ⟨w.heap.size, 0, none⟩) n (grownCap w n 0 9)) (w.drew.alloc (.cells (Builtin.zeroCells (Value.string ⟨#[]⟩).cells n ++ Builtin.zeroCells (Value.string ⟨#[]⟩).cells (grownCap w n 0 9 - n)) 9)) := fun ty w =>
      Lib.run_append_nil_zeros w _ _ ty _ inf _ .i64 .i64 underSs underI I1.out I2.out n hpos (by rw [I3.out]; decide) (by omega) (by rw [I4.out]; omega)
    have hge : n ≤ grownCap w n 0 9 := grownCap_ge w n 0 _
    have hmx : grownCap w n 0 9 ≤ maxLen := grownCap_le_maxLen w n 0 _ (by simp only [maxLen]; omega)
    obtain ⟨cap, hcap⟩ : ∃ cap, grownCap w n 0 9 = cap := ⟨_, rfl⟩
    have HG := Lib.hid hge; have HM := Lib.hid hmx; clear hge hmx
    go_enter Try.func40, Try.ntmps40
    go_wp2_with (at_builtin; refine Lib.wpList_append_run _ rfl _ _ _ _ rfl _ _ rfl rfl _ _ (hrun _ _) ?_)
    go_ret
    refine ⟨((Ext.refl w).drew).alloc _, _, rfl, ?_⟩
    exact ⟨rfl, .inr ⟨w.heap.size, _, _, rfl, Nat.le_refl _, heap_alloc_new w.drew _, Nat.zero_le _, hcap ▸ HM.out, by
      rw [Array.size_append, size_zeroCells, size_zeroCells, ← Nat.add_mul]
      have h := HG.out
      rw [hcap] at h
      show (n + (cap - n)) * 1 = cap * 1
      omega, by simp⟩⟩

abbrev objT (A B : Option Addr) (n c m d : Nat) : Obj := .cells #[.slice A n c, .slice B m d] 22

def ConcatAt (w : World) (hs gs : List ByteArray) (k : Nat) (v : Value) (wr : World) : Prop :=
  Ext w wr ∧ ((k = 0 ∧ wr.ownsRow w.heap.size 9 1 v 0 []) ∨ (k = 1 ∧ wr.ownsRow w.heap.size 9 1 v hs.length (hs.map Value.string)) ∨ (k = 2 ∧ wr.ownsRow w.heap.size 9 1 v (hs.length + gs.length) ((hs ++ gs).map Value.string)))

set_option maxHeartbeats 2000000 in
theorem concat_two {hs gs : List ByteArray} (A B : Option Addr) (n c m d g : Nat) (w : World) (hb : Blk w g (objT A B n c m d)) (hh : Strs w A n hs) (hg : Strs w B m gs) (hn : n ≤ 1000) (hm : m ≤ 1000) :
    Calls Try.prog 26 #[.slice (some ⟨g, 0, none⟩) 2 2] w fun e w' => Ext w w' ∧ ∃ v, e = .returned v ∧ w'.ownsRow w.heap.size 9 1 v (n + m) ((hs ++ gs).map Value.string) := by
  obtain ⟨inf, i1, i2, i3, i4⟩ := info_of infoS
  have I1 := Lib.hid i1; have I2 := Lib.hid i2; have I3 := Lib.hid i3; have I4 := Lib.hid i4; clear i1 i2 i3 i4
  obtain rfl : hs.length = n := hh.1
  obtain rfl : gs.length = m := hg.1
  have HB := Lib.hid hb; have HH := Lib.hid hh; have HG := Lib.hid hg; clear hb hh hg
  go_enter Try.func26, Try.ntmps26
  go_wp2_with fail
  go_loopw [3, 11] (fun s i wr => Ext w wr ∧ ((i = .int .i64 0 ∧ s = .int .i64 0) ∨ (i = .int .i64 1 ∧ s = .int .i64 hs.length) ∨ (i = .int .i64 2 ∧ s = .int .i64 ((hs.length + gs.length : Nat) : Int)))) (fun _ i _ => 2 - (intOf i).toNat)
  case atStart => exact ⟨Ext.refl _, .inl ⟨rfl, rfl⟩⟩
  case round =>
    obtain ⟨hE, ⟨rfl, rfl⟩ | ⟨rfl, rfl⟩ | ⟨rfl, rfl⟩⟩ := hrel
    · have HE := Lib.hid hE; clear hE
      have c0 := (HB.out.ext HE.out).cell 0
      have c1 := (HB.out.ext HE.out).cell 1
      simp only [List.getElem?_toArray, List.getElem?_cons_zero, List.getElem?_cons_succ] at c0 c1
      go_wp2_with fail
      go_roundw
      case rel => exact ⟨HE.out, .inr (.inl ⟨by go_num, by go_num⟩)⟩
      case measure => simp [intOf]
    · have HE := Lib.hid hE; clear hE
      have c0 := (HB.out.ext HE.out).cell 0
      have c1 := (HB.out.ext HE.out).cell 1
      simp only [List.getElem?_toArray, List.getElem?_cons_zero, List.getElem?_cons_succ] at c0 c1
      have hwr : wrap64 ((hs.length : Int) + gs.length) = ((hs.length + gs.length : Nat) : Int) := by unfold wrap64; omega
      have hneg : ¬ (((hs.length + gs.length : Nat) : Int) < 0) := by omega
      go_wp2_with fail
      go_roundw
      case rel => exact ⟨HE.out, .inr (.inr ⟨by go_num, by go_num⟩)⟩
      case measure => simp [intOf]
    · have HE := Lib.hid hE; clear hE
      go_wp2_with fail
      refine (grow_any (hs.length + gs.length) _ (by omega)).mono ?_
      rintro e w1 ⟨hE, v, rfl, ho⟩
      have HO := Lib.hid (own_base (base' := w.heap.size) ho HE.out.size); have HE1 := Lib.hid (HE.out.trans hE); clear hE ho
      go_wp2_with fail
      go_loopw [6, 27] (fun v i wr => ∃ k : Nat, i = .int .i64 k ∧ ConcatAt w hs gs k v wr) (fun _ i _ => 2 - (intOf i).toNat)
      case atStart => exact ⟨0, rfl, HE1.out, .inl ⟨rfl, HO.out⟩⟩
      case round =>
        obtain ⟨k, rfl, hE, ⟨rfl, ho⟩ | ⟨rfl, ho⟩ | ⟨rfl, ho⟩⟩ := hrel
        · have HO2 := Lib.hid ho; have HE2 := Lib.hid hE; clear hE ho
          have c0 := (HB.out.ext HE2.out).cell 0
          simp only [List.getElem?_toArray, List.getElem?_cons_zero, List.getElem?_cons_succ] at c0
          go_wp2_with (at_builtin; refine wpList_append_size rfl (.tmp 31) (.tmp 32) 22 rfl w.heap.size 9 inf _ 1 16 underSs I1.out I2.out I3.out I4.out rfl (by decide) _ 0 [] A hs.length c (hs.map Value.string) rfl rfl (by simp) (one_str _) (by simp only [maxLen]; omega) (by omega) HO2.out (HH.out.2.2.ext HE2.out) HE2.out.size ?_; intro v2 w2 hown2 hg2)
          have HO3 := Lib.hid hown2; have HE3 := Lib.hid (HE2.out.own3 HO2.out hg2); clear hown2 hg2
          go_wp2_with fail
          go_roundw
          case rel => exact ⟨1, by go_num, HE3.out, .inr (.inl ⟨rfl, by simpa using HO3.out⟩)⟩
          case measure => simp [intOf]
        · have HO2 := Lib.hid ho; have HE2 := Lib.hid hE; clear hE ho
          have c0 := (HB.out.ext HE2.out).cell 1
          simp only [List.getElem?_toArray, List.getElem?_cons_zero, List.getElem?_cons_succ] at c0
          go_wp2_with (at_builtin; refine wpList_append_size rfl (.tmp 31) (.tmp 32) 22 rfl w.heap.size 9 inf _ 1 16 underSs I1.out I2.out I3.out I4.out rfl (by decide) _ hs.length (hs.map Value.string) B gs.length d (gs.map Value.string) rfl rfl (by simp) (one_str _) (by simp only [maxLen]; omega) (by omega) HO2.out (HG.out.2.2.ext HE2.out) HE2.out.size ?_; intro v2 w2 hown2 hg2)
          have HO3 := Lib.hid hown2; have HE3 := Lib.hid (HE2.out.own3 HO2.out hg2); clear hown2 hg2
          go_wp2_with fail
          go_roundw
          case rel => exact ⟨2, by go_num, HE3.out, .inr (.inr ⟨rfl, by simpa using HO3.out⟩)⟩
          case measure => simp [intOf]
        · have HO2 := Lib.hid ho; have HE2 := Lib.hid hE; clear hE ho
          go_wp2_with fail
          go_ret
          exact ⟨HE2.out, _, rfl, HO2.out⟩
end Go.Proofs.Ytmagicjmenbdpaa
