/- The contracts of slices.Grow (nil) and slices.Concat of two maps. -/
import Derived.Test.YtbjniaihkllmdaaTrNodes
import Derived.Lib.AppendZeros
namespace Go.Proofs.Ytbjniaihkllmdaa
open Go.RowKit

abbrev zeroN : Value := .agg #[.string ⟨#[]⟩, .string ⟨#[]⟩, .slice none 0 0, .slice none 0 0]
theorem infoN : (Try.prog.info? 63).map (fun i => (i.zero, i.size, i.bytes)) = some (some zeroN, 4, 80) := by kernel_rfl
theorem underN : Try.prog.underlying 23 = some (.slice 63) := by kernel_rfl
theorem underIn : Try.prog.underlying 3 = some (.int .i64) := by kernel_rfl

set_option maxHeartbeats 1000000 in
theorem grow_any (n : Nat) (w : World) (hn : n ≤ 2000) :
    Calls Try.prog 65 #[.slice none 0 0, .int .i64 n] w fun e w' => Ext w w' ∧ ∃ v, e = .returned v ∧ w'.ownsRow w.heap.size 63 4 v 0 [] := by
  obtain ⟨inf, i1, i2, i3, i4⟩ := info_of infoN
  have I1 := Lib.hid i1; have I2 := Lib.hid i2; have I3 := Lib.hid i3; have I4 := Lib.hid i4; clear i1 i2 i3 i4
  by_cases h0 : n = 0
  · subst h0
    go_enter Try.func65, Try.ntmps65
    go_wp2_with fail
    go_ret
    exact ⟨Ext.refl _, _, rfl, World.ownsRow_nil _ _ _ _⟩
  · have hpos : 0 < n := by omega
    have hrun : ∀ ty w, (Builtin.append_ #[23, 3] ty #[.slice none 0 0, .int .i64 n]).run Try.prog w = .ok (.slice (some ⟨w.heap.size, 0, none⟩) n (grownCap w n 0 63)) (w.drew.alloc (.cells (Builtin.zeroCells zeroN.cells n ++ Builtin.zeroCells zeroN.cells (grownCap w n 0 63 - n)) 63)) := fun ty w =>
      Lib.run_append_nil_zeros w _ _ ty _ inf _ .i64 .i64 underN underIn I1.out I2.out n hpos (by rw [I3.out]; decide) (by omega) (by rw [I4.out]; omega)
    have hge : n ≤ grownCap w n 0 63 := grownCap_ge w n 0 _
    have hmx : grownCap w n 0 63 ≤ maxLen := grownCap_le_maxLen w n 0 _ (by simp only [maxLen]; omega)
    obtain ⟨cap, hcap⟩ : ∃ cap, grownCap w n 0 63 = cap := ⟨_, rfl⟩
    have HG := Lib.hid hge; have HM := Lib.hid hmx; clear hge hmx
    go_enter Try.func65, Try.ntmps65
    go_wp2_with (at_builtin; refine Lib.wpList_append_run _ rfl _ _ _ _ rfl _ _ rfl rfl _ _ (hrun _ _) ?_)
    go_ret
    refine ⟨((Ext.refl w).drew).alloc _, _, rfl, ?_⟩
    exact ⟨rfl, .inr ⟨w.heap.size, _, _, rfl, Nat.le_refl _, heap_alloc_new w.drew _, Nat.zero_le _, hcap ▸ HM.out, by
      rw [Array.size_append, size_zeroCells, size_zeroCells, ← Nat.add_mul]
      have h := HG.out
      rw [hcap] at h
      show (n + (cap - n)) * 4 = cap * 4
      omega, by simp⟩⟩

abbrev objT (A B : Option Addr) (n c m d : Nat) : Obj := .cells #[.slice A n c, .slice B m d] 23

def ConcatAt (w : World) (n m : Nat) (hs gs : List Value) (k : Nat) (v : Value) (wr : World) : Prop :=
  Ext w wr ∧ ((k = 0 ∧ wr.ownsRow w.heap.size 63 4 v 0 []) ∨ (k = 1 ∧ wr.ownsRow w.heap.size 63 4 v n hs) ∨ (k = 2 ∧ wr.ownsRow w.heap.size 63 4 v (n + m) (hs ++ gs)))

set_option maxHeartbeats 2000000 in
theorem concat_two {hs gs : List Value} (A B : Option Addr) (n c m d g : Nat) (w : World) (hb : Blk w g (objT A B n c m d)) (hh : Cells w A hs) (hg : Cells w B gs) (hhl : hs.length = n * 4) (hgl : gs.length = m * 4) (hh1 : ∀ u ∈ hs, u.oneCell' = true) (hg1 : ∀ u ∈ gs, u.oneCell' = true) (hn : n ≤ 1000) (hm : m ≤ 1000) :
    Calls Try.prog 47 #[.slice (some ⟨g, 0, none⟩) 2 2] w fun e w' => Ext w w' ∧ ∃ v, e = .returned v ∧ w'.ownsRow w.heap.size 63 4 v (n + m) (hs ++ gs) := by
  obtain ⟨inf, i1, i2, i3, i4⟩ := info_of infoN
  have I1 := Lib.hid i1; have I2 := Lib.hid i2; have I3 := Lib.hid i3; have I4 := Lib.hid i4; clear i1 i2 i3 i4
  have HB := Lib.hid hb; have HH := Lib.hid hh; have HG := Lib.hid hg; have HL1 := Lib.hid hhl; have HL2 := Lib.hid hgl; have H1 := Lib.hid hh1; have H2 := Lib.hid hg1; clear hb hh hg hhl hgl hh1 hg1
  go_enter Try.func47, Try.ntmps47
  go_wp2_with fail
  go_loopw [3, 11] (fun s i wr => Ext w wr ∧ ((i = .int .i64 0 ∧ s = .int .i64 0) ∨ (i = .int .i64 1 ∧ s = .int .i64 n) ∨ (i = .int .i64 2 ∧ s = .int .i64 ((n + m : Nat) : Int)))) (fun _ i _ => 2 - (intOf i).toNat)
  case atStart => exact ⟨Ext.refl _, .inl ⟨rfl, rfl⟩⟩
  case round =>
    obtain ⟨hE, ⟨rfl, rfl⟩ | ⟨rfl, rfl⟩ | ⟨rfl, rfl⟩⟩ := hrel
    · have HE := Lib.hid hE; clear hE
      have c0 := (HB.out.ext HE.out).cell 0
      have c1 := (HB.out.ext HE.out).cell 1
      simp only [List.getElem?_toArray, List.getElem?_cons_zero, List.getElem?_cons_succ] at c0 c1
      go_wp2_with fail
      go_roundw
      case rel => exact ⟨HE.out, .inr (.inl ⟨by go_num, by go_num⟩)⟩
      case measure => simp [intOf]
    · have HE := Lib.hid hE; clear hE
      have c0 := (HB.out.ext HE.out).cell 0
      have c1 := (HB.out.ext HE.out).cell 1
      simp only [List.getElem?_toArray, List.getElem?_cons_zero, List.getElem?_cons_succ] at c0 c1
      have hwr : wrap64 ((n : Int) + m) = ((n + m : Nat) : Int) := by unfold wrap64; omega
      have hneg : ¬ (((n + m : Nat) : Int) < 0) := by omega
      go_wp2_with fail
      go_roundw
      case rel => exact ⟨HE.out, .inr (.inr ⟨by go_num, by go_num⟩)⟩
      case measure => simp [intOf]
    · have HE := Lib.hid hE; clear hE
      go_wp2_with fail
      refine (grow_any (n + m) _ (by omega)).mono ?_
      rintro e w1 ⟨hE, v, rfl, ho⟩
      have HO := Lib.hid (own_base (base' := w.heap.size) ho HE.out.size); have HE1 := Lib.hid (HE.out.trans hE); clear hE ho
      go_wp2_with fail
      go_loopw [6, 27] (fun v i wr => ∃ k : Nat, i = .int .i64 k ∧ ConcatAt w n m hs gs k v wr) (fun _ i _ => 2 - (intOf i).toNat)
      case atStart => exact ⟨0, rfl, HE1.out, .inl ⟨rfl, HO.out⟩⟩
      case round =>
        obtain ⟨k, rfl, hE, ⟨rfl, ho⟩ | ⟨rfl, ho⟩ | ⟨rfl, ho⟩⟩ := hrel
        · have HO2 := Lib.hid ho; have HE2 := Lib.hid hE; clear hE ho
          have c0 := (HB.out.ext HE2.out).cell 0
          simp only [List.getElem?_toArray, List.getElem?_cons_zero] at c0
          go_wp2_with (at_builtin; refine wpList_append_size rfl (.tmp 31) (.tmp 32) 23 rfl w.heap.size 63 inf _ 4 80 underN I1.out I2.out I3.out I4.out rfl (by decide) _ 0 [] A n c hs rfl rfl HL1.out H1.out (by simp only [maxLen]; omega) (by omega) HO2.out (HH.out.ext HE2.out) HE2.out.size ?_; intro v2 w2 hown2 hg2)
          have HO3 := Lib.hid hown2; have HE3 := Lib.hid (HE2.out.own3 HO2.out hg2); clear hown2 hg2
          go_wp2_with fail
          go_roundw
          case rel => exact ⟨1, by go_num, HE3.out, .inr (.inl ⟨rfl, by simpa using HO3.out⟩)⟩
          case measure => simp [intOf]
        · have HO2 := Lib.hid ho; have HE2 := Lib.hid hE; clear hE ho
          have c0 := (HB.out.ext HE2.out).cell 1
          simp only [List.getElem?_toArray, List.getElem?_cons_zero, List.getElem?_cons_succ] at c0
          go_wp2_with (at_builtin; refine wpList_append_size rfl (.tmp 31) (.tmp 32) 23 rfl w.heap.size 63 inf _ 4 80 underN I1.out I2.out I3.out I4.out rfl (by decide) _ n hs B m d gs rfl rfl HL2.out H2.out (by simp only [maxLen]; omega) (by omega) HO2.out (HG.out.ext HE2.out) HE2.out.size ?_; intro v2 w2 hown2 hg2)
          have HO3 := Lib.hid hown2; have HE3 := Lib.hid (HE2.out.own3 HO2.out hg2); clear hown2 hg2
          go_wp2_with fail
          go_roundw
          case rel => exact ⟨2, by go_num, HE3.out, .inr (.inr ⟨rfl, by simpa using HO3.out⟩)⟩
          case measure => simp [intOf]
        · have HO2 := Lib.hid ho; have HE2 := Lib.hid hE; clear hE ho
          go_wp2_with fail
          go_ret
          exact ⟨HE2.out, _, rfl, HO2.out⟩
end Go.Proofs.Ytbjniaihkllmdaa
