/- UdSpl: parts of the proof of TopDifferences, one text behind the other. No condition. -/
import Derived.Test.YtmmcjcaccicheaaGreatDoorT38
import Derived.Test.YtmmcjcaccicheaaGreatDoorT23
import Derived.Test.YtmmcjcaccicheaaGreatDoorT29
import Derived.Test.YtmmcjcaccicheaaGreatDoorT25
/- The contract of lines.Split: an error, or lines without a line's end. -/
namespace Go.Proofs.YtmmcjcaccicheaaGreatDoor
open Go.RowKit
attribute [local go_sem] Oper.semAt_some
theorem each_is (s : ByteArray) (w : World) :
    Calls Tryz.prog 16 #[.string s] w fun e w' => e = .returned (.func (.func 36) #[] #[.pointer (some ⟨w.heap.size, 0, none⟩)]) ∧ w' = w.alloc (.cells #[.string s] 9) := by
  go_enter Tryz.func16, Tryz.ntmps16
  go_wp2_with fail
  go_ret
  exact ⟨rfl, rfl⟩
theorem splF_len : ∀ (k : Nat) (s : ByteArray), (splF k s).length ≤ k
  | 0, s => by simp [splF]
  | k + 1, s => by
    rw [splF]
    split
    · simp
    · have := splF_len k (s.extract ((Lib.indexByte s.data.toList 10).toNat + 1) s.size)
      simp only [List.length_cons]; omega
theorem encS_size (x : ByteArray) (vs : Array Value) (S : Nat → Prop) (W : World) (h : EncS x vs S W) : vs.size = 1 := by
  unfold EncS at h; rw [h]; rfl
/-- What a round may count on: B holds out, B + 1 whether a line was too long. -/
structure SMem (B : Nat) (v0 v : Value) (pre : List ByteArray) (b : Bool) (W : World) : Prop where
  o : Blk W B (.cells #[v0] 22)
  l : Blk W (B + 1) (.cells #[.bool b] 4)
  own : W.ownsRow (B + 3) 9 1 v pre.length (pre.map Value.string)
def SS (B : Nat) (v : Value) : Nat → Prop := fun g => g = B ∨ g = B + 1 ∨ v.ownBlock = some g
section
variable {B : Nat} {v0 v : Value} {pre : List ByteArray} {b : Bool} {W W' : World}
theorem SMem.lv {S : Nat → Prop} (h : SMem B v0 v pre b W) (k : Lv S W W') (h0 : ¬ S B) (h1 : ¬ S (B + 1)) (h2 : ∀ g, v.ownBlock = some g → ¬ S g) : SMem B v0 v pre b W' :=
  ⟨h.o.lv k h0, h.l.lv k h1, own_lv h.own k h2⟩
theorem SMem.ext (h : SMem B v0 v pre b W) (e : Ext W W') : SMem B v0 v pre b W' := h.lv (Lv.of_ext (S := fun _ => False) e) id id (fun _ _ => id)
theorem SMem.firm {q n : Nat} (h : SMem B v0 v pre b W) (hq : q = B + 2) (k : Lv (fun g => g = q ∨ (n ≤ g ∧ NC W g)) W W') : SMem B v0 v pre b W' := by
  subst hq
  refine h.lv k ?_ ?_ (fun g hg hs => ?_)
  · rintro (hs | hs)
    · omega
    · exact h.o.nc hs.2
  · rintro (hs | hs)
    · omega
    · exact h.l.nc hs.2
  · obtain ⟨hb, c, hc⟩ := own_blk h.own hg
    rcases hs with hs | hs
    · omega
    · exact hc.nc hs.2
theorem SMem.setL (h : SMem B v0 v pre b W) (b' : Bool) : SMem B v0 v pre b' (W.setCell ⟨B + 1, 0, none⟩ (.bool b')) := by
  have k := (Lv.refl (fun g => g = B + 1) W).setCell (p := ⟨B + 1, 0, none⟩) (fun _ => rfl) (.bool b')
  exact ⟨h.o.lv k (by omega), h.l.put 0 _, own_lv h.own k (fun g hg e => by have := (own_blk h.own hg).1; omega)⟩
theorem SMem.grow {x : ByteArray} {v' : Value} (h : SMem B v0 v pre b W) (hg : W.grownBy W' v.ownBlock) (ho : W'.ownsRow (B + 3) 9 1 v' (pre.length + 1) (pre.map Value.string ++ [.string x])) : SMem B v0 v' (pre ++ [x]) b W' :=
  ⟨blk_grown h.o h.own (by omega) hg, blk_grown h.l h.own (by omega) hg, by simpa using ho⟩
theorem SMem.setO (h : SMem B v0 v pre b W) : SMem B v v pre b (W.setCell ⟨B, 0, none⟩ v) := by
  have k := (Lv.refl (fun g => g = B) W).setCell (p := ⟨B, 0, none⟩) (fun _ => rfl) v
  exact ⟨h.o.put 0 _, h.l.lv k (by omega), own_lv h.own k (fun g hg e => by have := (own_blk h.own hg).1; omega)⟩
theorem SMem.size (h : SMem B v0 v pre b W) : ∀ g, SS B v g → g < W.heap.size := by
  rintro g (rfl | rfl | hg)
  · exact h.o.lt
  · exact h.l.lt
  · obtain ⟨_, c, hc⟩ := own_blk h.own hg; exact hc.lt
theorem SMem.above (h : SMem B v0 v pre b W) : ∀ g, SS B v g → B ≤ g := by
  rintro g (rfl | rfl | hg)
  · omega
  · omega
  · have := (own_blk h.own hg).1; omega
end
def SI (B : Nat) (w : World) (pre : List ByteArray) (S : Nat → Prop) (W : World) : Prop := ∃ v b, SMem B v v pre b W ∧ S = SS B v ∧ Ext w W
theorem SI.firm (B : Nat) (w : World) (hB : w.heap.size = B) : Firm (fun g => g = B + 2) (B + 3) (SI B w) := by
  rintro pre S W W' ⟨v, b, h1, h2, h3⟩ k
  exact ⟨v, b, h1.firm rfl k, h2, k.extBelow h3 (fun g hg h => by rcases h with h | h <;> omega)⟩
theorem own_full {W : World} {base n : Nat} {v : Value} {xs : List Value} (h : W.ownsRow base 9 1 v n xs) : ∃ A c, v = .slice A n c ∧ n ≤ c ∧ c ≤ maxLen := by
  rcases h.2 with ⟨rfl, h0⟩ | ⟨g, cap, cur, rfl, hb, hgg, hnc, hcm, _⟩
  · obtain rfl : n = 0 := by have := h.1; simp_all
    exact ⟨none, 0, rfl, Nat.le_refl _, by decide⟩
  · exact ⟨_, _, rfl, hnc, hcm⟩
/-- What Split answers: lines (none with an error), and an error's number. -/
def SplR (w : World) (r : Ending) (w' : World) : Prop := Ext w w' ∧ ∃ (A : Option Addr) (n c : Nat) (ls : Lns) (er : Int), r = .returned (.tuple #[.slice A n c, .int .i64 er]) ∧ n ≤ c ∧ c ≤ maxLen ∧ n ≤ 2000 ∧ Strs w' A n ls ∧ ∀ x ∈ ls, (10 : UInt8) ∉ x.data.toList ∧ x.size ≤ 100000
theorem spl_bad {w w' : World} (er : Int) (h : Ext w w') : SplR w (.returned (.tuple #[.slice none 0 0, .int .i64 er])) w' :=
  ⟨h, none, 0, 0, [], er, rfl, Nat.le_refl _, by decide, by decide, Strs.nil _ _, by simp⟩
set_option maxRecDepth 100000 in
set_option maxHeartbeats 4000000 in
theorem split_any (s : ByteArray) (w : World) : Calls Tryz.prog 4 #[.string s] w (SplR w) := by
  obtain ⟨inf, i1, i2, i3, i4⟩ := info_of infoS
  have I1 := Lib.hid i1; have I2 := Lib.hid i2; have I3 := Lib.hid i3; have I4 := Lib.hid i4; clear i1 i2 i3 i4
  refine calls_marks Tryz.func4 rfl ?_
  simp only [Tryz.ntmps4, List.size_toArray, List.length_cons, List.length_nil, Nat.reduceAdd, Nat.reduceSub, Array.replicate_succ, Array.replicate_zero, List.push_toArray, List.append_toArray, List.nil_append, List.cons_append]
  by_cases hs : 65536 < s.size
  · go_wp2_with fail
    exact ⟨.tuple #[.slice none 0 0, .int .i64 4], by simp [results, Tryz.results4, go_sem], spl_bad 4 (Ext.refl _)⟩
  go_wp2_with fail
  refine (sh_strings_IndexByte s 0 w).mono ?_
  rintro e w1 ⟨rfl, hw1⟩
  subst hw1
  obtain ⟨ix, hix⟩ : ∃ ix, Lib.indexByte s.data.toList (0 : Int).toNat.toUInt8 = ix := ⟨_, rfl⟩
  rw [hix]
  clear hix
  obtain ⟨B, hB⟩ : ∃ B, w1.heap.size = B := ⟨_, rfl⟩
  have HB := Lib.hid hB
  by_cases hz : 0 ≤ ix
  · go_wp2_with fail
    all_goals exact ⟨.tuple #[.slice none 0 0, .int .i64 3], by simp [results, Tryz.results4, go_sem], spl_bad 3 (Ext.refl _)⟩
  · go_wp2_with fail
    · refine (each_is s _).mono ?_
      rintro e w2 ⟨rfl, hw2⟩
      have K0 := (((Know.start w1).new (.cells #[.slice none 0 0] 22) hB.symm).new (.cells #[.bool false] 4) (g := B + 1) (by simp [hB])).new (.cells #[.string s] 9) (g := B + 2) (by simp [hB])
      rw [← hw2] at K0
      have hz2 : w2.heap.size = B + 3 := by rw [hw2]; simp [hB]
      simp only [World.size_alloc, hB, Nat.add_assoc, Nat.reduceAdd]
      have p0 : SMem B (.slice none 0 0) (.slice none 0 0) [] false w2 := ⟨K0.at 2 rfl, K0.at 1 rfl, World.ownsRow_nil _ _ _ _⟩
      have hq0 : Blk w2 (B + 2) (.cells #[.string s] 9) := K0.at 0 rfl
      have P0 := Lib.hid p0; have E0 := Lib.hid K0.1; have Q0 := Lib.hid hq0; have Z2 := Lib.hid hz2
      clear K0 p0 hq0 hw2 hz2 hB
      go_wp2_with fail
      obtain ⟨AT, hAT⟩ : ∃ AT : Value → Act, AT = fun x => { tmps := #[.string s, undef, .slice none 0 0, .int .i64 0, .pointer (some ⟨B, 0, none⟩), .pointer (some ⟨B + 1, 0, none⟩), x, .string s, .int .i64 s.size, .bool (decide (65536 < (s.size : Int))), .string s, .int .i64 ix, .bool (decide (0 ≤ ix)), .bool (decide (0 ≤ ix)), .string s, .bool false, .bool false, undef, undef, undef, .bool false, .bool (decide (0 ≤ ix)), .string s, .func (.func 36) #[] #[.pointer (some ⟨B + 2, 0, none⟩)], x, undef, undef, undef, undef, undef, undef, undef, undef, undef, undef, undef, undef, undef, undef, undef, undef, undef], defers := [] } := ⟨_, rfl⟩
      refine wp_of_In (wpIn_range4 (gf := 36) rfl (enters_of Tryz.func36 (by kernel_rfl) rfl) (split_iter s (s.size + 1) (by omega) (by omega) (B + 2)) encS_size (fun x vs S W W' h _ => h) (fun x vs S S' W h _ => h) (fun g h => by have := Z2.out; omega)
        (SI B w1) (fun _ _ _ _ => False) ?hI (fun _ _ _ _ _ h _ => h.elim) (SS B (.slice none 0 0)) ?h0 ?hS0 ?hpre
        (fun x vs W a₁ W' => W' = W ∧ a₁ = AT (.string x)) (fun x vs W a₁ W' h => h.1 ▸ Ext.refl _) ?assign ?body ?done (fun _ _ _ _ _ _ _ _ h _ => h.elim))
      case hI =>
        have := SI.firm B w1 HB.out
        rw [show w2.heap.size = B + 3 from Z2.out]
        exact this
      case h0 => exact ⟨_, _, P0.out, rfl, E0.out⟩
      case hS0 =>
        intro g hg
        exact P0.out.size g hg
      case hpre =>
        intro S W hE hS
        refine ⟨Q0.out.ext hE, fun h => ?_⟩
        rcases hS (B + 2) (by have := Z2.out; omega) h with h | h | h
        · omega
        · omega
        · cases h
      case assign =>
        rintro l x vs S W K henc hK
        unfold EncS at henc
        subst henc
        rw [hAT] at hK
        gi_wp2
      case body =>
        rintro l pre x vs S W0 W' W a₁ ⟨rfl, rfl⟩ hle0 hvb ⟨v, b, hm, rfl, hE⟩ hleW hpx henc hSl
        have hlx := splF_no (s.size + 1) s x (hpx.subset (by simp))
        have hln := splF_len (s.size + 1) s
        have hpl : pre.length + 1 ≤ (splF (s.size + 1) s).length := by have := hpx.length_le; simpa using this
        have hxs : x.size ≤ 65536 := by omega
        have HPX := Lib.hid hpx
        have d0 : W.cell? ⟨B + 1, 0, none⟩ = some (.bool b) := hm.l.cell 0
        have f0 := hm.l.free 0
        have HM := Lib.hid hm; have HE := Lib.hid hE
        have hzW : B + 3 ≤ W.heap.size := by have := Z2.out; omega
        rw [hAT]
        clear hvb hpx henc hSl hm hE hlx hAT
        have step : ∀ b' : Bool, Ext w1 (W.setCell ⟨B + 1, 0, none⟩ (.bool b')) ∧ Lv (SS B v) W (W.setCell ⟨B + 1, 0, none⟩ (.bool b')) := fun b' => by
          have k := (Lv.refl (SS B v) W).setCell (p := ⟨B + 1, 0, none⟩) (fun _ => .inr (.inl rfl)) (.bool b')
          exact ⟨k.extBelow HE.out (fun g hg hs => by have := HM.out.above g hs; have := HB.out; omega), k⟩
        have STEP := Lib.hid step; clear step
        obtain ⟨b', hb'⟩ : ∃ b', (b || decide (1000 < (x.size : Int))) = b' := ⟨_, rfl⟩
        cases b with
        | false =>
          simp only [Bool.false_or] at hb'
          obtain ⟨W5, hW5⟩ : ∃ W5, W.setCell ⟨B + 1, 0, none⟩ (.bool b') = W5 := ⟨_, rfl⟩
          have m5 := HM.out.setL b'
          have l5 := STEP.out b'
          rw [hW5] at m5 l5
          have c5 : W5.cell? ⟨B, 0, none⟩ = some v := m5.o.cell 0
          have HM5 := Lib.hid m5; have L5 := Lib.hid l5
          have hz5 : B + 3 ≤ W5.heap.size := by have := l5.2.size; omega
          clear m5 l5 STEP
          gi_wp2_with (gi_at_builtin; refine wpListIn_append_size2 rfl (.tmp 31) (.tmp 33) 22 rfl (B + 3) 9 inf _ 1 16 underSs I1.out I2.out I3.out I4.out rfl (by decide) v pre.length (pre.map Value.string) (some ⟨W5.heap.size, 0, none⟩) 1 1 [.string x] rfl rfl rfl (by intro u hu; simp at hu; subst hu; rfl) (by simp only [maxLen]; omega) (by omega) (own_stab3 ((Ext.refl W5).alloc _) HM5.out.own) (Cells.new W5 _ [_] rfl) (by simp; omega) ?_; intro v2 w9 hown2 hg2 hb2; have m6 := (HM5.out.ext ((Ext.refl W5).alloc (.cells #[.string x] 9))).grow hg2 hown2; have o6 : w9.cell? ⟨B, 0, none⟩ = some v := m6.o.cell 0; have f6 := m6.o.free 0; obtain ⟨q9, k9, rfl⟩ := ownsRow_succ hown2; have M6 := Lib.hid m6; have HG2 := Lib.hid hg2; have HB2 := Lib.hid hb2; clear hg2 hown2 hb2 m6)
          have m7 := M6.out.setO
          have l7 := ((L5.out.2.ext ((Ext.refl W5).alloc (.cells #[.string x] 9))).grown HG2.out (fun k hk _ => .inr (.inr hk))).setCell (p := ⟨B, 0, none⟩) (fun _ => .inl rfl) (.slice (some ⟨q9, 0, none⟩) (pre.length + 1) k9)
          refine ⟨SS B (.slice (some ⟨q9, 0, none⟩) (pre.length + 1) k9), l7, fun g hg => ?_, m7.size, _, _, m7, rfl, l7.extBelow HE.out (fun g hg hs => by have := HM.out.above g hs; have := HB.out; omega)⟩
          rcases hg with hg | hg | hg
          · exact .inl (.inl hg)
          · exact .inl (.inr (.inl hg))
          · rcases HB2.out with h | ⟨g', h, hle⟩
            · exact .inl (.inr (.inr (h ▸ hg)))
            · rw [h] at hg; cases hg
              have h1 := L5.out.2.size
              simp only [World.size_alloc] at hle
              exact .inr (by omega)
        | true =>
          clear hb'
          obtain ⟨W5, hW5⟩ : ∃ W5, W.setCell ⟨B + 1, 0, none⟩ (.bool true) = W5 := ⟨_, rfl⟩
          have m5 := HM.out.setL true
          have l5 := STEP.out true
          rw [hW5] at m5 l5
          have c5 : W5.cell? ⟨B, 0, none⟩ = some v := m5.o.cell 0
          have HM5 := Lib.hid m5; have L5 := Lib.hid l5
          have hz5 : B + 3 ≤ W5.heap.size := by have := l5.2.size; omega
          clear m5 l5 STEP
          gi_wp2_with (gi_at_builtin; refine wpListIn_append_size2 rfl (.tmp 31) (.tmp 33) 22 rfl (B + 3) 9 inf _ 1 16 underSs I1.out I2.out I3.out I4.out rfl (by decide) v pre.length (pre.map Value.string) (some ⟨W5.heap.size, 0, none⟩) 1 1 [.string x] rfl rfl rfl (by intro u hu; simp at hu; subst hu; rfl) (by simp only [maxLen]; omega) (by omega) (own_stab3 ((Ext.refl W5).alloc _) HM5.out.own) (Cells.new W5 _ [_] rfl) (by simp; omega) ?_; intro v2 w9 hown2 hg2 hb2; have m6 := (HM5.out.ext ((Ext.refl W5).alloc (.cells #[.string x] 9))).grow hg2 hown2; have o6 : w9.cell? ⟨B, 0, none⟩ = some v := m6.o.cell 0; have f6 := m6.o.free 0; obtain ⟨q9, k9, rfl⟩ := ownsRow_succ hown2; have M6 := Lib.hid m6; have HG2 := Lib.hid hg2; have HB2 := Lib.hid hb2; clear hg2 hown2 hb2 m6)
          have m7 := M6.out.setO
          have l7 := ((L5.out.2.ext ((Ext.refl W5).alloc (.cells #[.string x] 9))).grown HG2.out (fun k hk _ => .inr (.inr hk))).setCell (p := ⟨B, 0, none⟩) (fun _ => .inl rfl) (.slice (some ⟨q9, 0, none⟩) (pre.length + 1) k9)
          refine ⟨SS B (.slice (some ⟨q9, 0, none⟩) (pre.length + 1) k9), l7, fun g hg => ?_, m7.size, _, _, m7, rfl, l7.extBelow HE.out (fun g hg hs => by have := HM.out.above g hs; have := HB.out; omega)⟩
          rcases hg with hg | hg | hg
          · exact .inl (.inl hg)
          · exact .inl (.inr (.inl hg))
          · rcases HB2.out with h | ⟨g', h, hle⟩
            · exact .inl (.inr (.inr (h ▸ hg)))
            · rw [h] at hg; cases hg
              have h1 := L5.out.2.size
              simp only [World.size_alloc] at hle
              exact .inr (by omega)
      case done =>
        rintro D S W hD hSD ⟨v, b, hm, rfl, hE⟩ hW
        have hls := splF_no (s.size + 1) s
        have hln := splF_len (s.size + 1) s
        obtain ⟨ls, hlseq⟩ : ∃ ls, splF (s.size + 1) s = ls := ⟨_, rfl⟩
        rw [hlseq] at hm hls hln
        obtain ⟨A, c, rfl, hnc, hcm⟩ := own_full hm.own
        have c0 : W.cell? ⟨B + 1, 0, none⟩ = some (.bool b) := hm.l.cell 0
        have c1 : W.cell? ⟨B, 0, none⟩ = some (.slice A ls.length c) := hm.o.cell 0
        have hzD : B + 3 ≤ D := by have := Z2.out; omega
        have lp : Lv (fun g => g = D) W (W.putObj D (.deferred none)) := Lv.putObj (S := fun g => g = D) (Lv.refl _ _) (fun _ => rfl) _
        have o10 := own_lv hm.own lp (fun g hg h => by
          obtain ⟨hb, cs, hc⟩ := own_blk hm.own hg
          exact hSD (h ▸ .inr (.inr hg)))
        have e10 : Ext w1 (W.putObj D (.deferred none)) := lp.extBelow hE (fun g hg h => by have := HB.out; omega)
        obtain ⟨A', c', hv', hc', hS'⟩ := own_strs o10 (fun x hx => by have := (hls x hx).2; unfold Reach; omega)
        obtain ⟨rfl, rfl⟩ : A = A' ∧ c = c' := by simpa using hv'
        have HD := Lib.hid hW; have E10 := Lib.hid e10; have S10 := Lib.hid hS'; have HLS := Lib.hid hls
        clear hm hE hW hls o10 e10 hS' hv' hc' lp hSD hlseq
        cases b with
        | true =>
          go_wp2_with fail
          refine ⟨by simp, .inl ⟨_, _, rfl, run_takeDeferred HD.out, ?_⟩⟩
          exact ⟨.tuple #[.slice none 0 0, .int .i64 4], by simp [results, Tryz.results4, go_sem], spl_bad 4 E10.out⟩
        | false =>
          by_cases h2 : 2000 < ls.length
          · go_wp2_with fail
            refine ⟨by simp, .inl ⟨_, _, rfl, run_takeDeferred HD.out, ?_⟩⟩
            exact ⟨.tuple #[.slice none 0 0, .int .i64 4], by simp [results, Tryz.results4, go_sem], spl_bad 4 E10.out⟩
          · go_wp2_with fail
            refine ⟨by simp, .inl ⟨_, _, rfl, run_takeDeferred HD.out, ?_⟩⟩
            exact ⟨.tuple #[.slice A ls.length c, .int .i64 0], by simp [results, Tryz.results4, go_sem], E10.out, A, _, c, ls, 0, rfl, hnc, hcm, by omega, S10.out, fun x hx => ⟨(HLS.out x hx).1, by have := (HLS.out x hx).2; omega⟩⟩
    · refine (sh_strings_HasSuffix s ⟨#[10]⟩ w1 (by omega)).mono ?_
      rintro e w2 ⟨rfl, hw2⟩
      subst hw2
      cases hsx : Lib.hasSuffix s.data.toList (⟨#[10]⟩ : ByteArray).data.toList with
      | false =>
        go_wp2_with fail
        all_goals first | exact ⟨.tuple #[.slice none 0 0, .int .i64 3], by simp [results, Tryz.results4, go_sem], spl_bad 3 (Ext.refl _)⟩ | (exfalso; simp_all)
      | true =>
        clear hsx
        go_wp2_with fail
        refine (each_is s _).mono ?_
        rintro e w3 ⟨rfl, hw3⟩
        have K0 := (((Know.start w2).new (.cells #[.slice none 0 0] 22) hB.symm).new (.cells #[.bool false] 4) (g := B + 1) (by simp [hB])).new (.cells #[.string s] 9) (g := B + 2) (by simp [hB])
        rw [← hw3] at K0
        have hz2 : w3.heap.size = B + 3 := by rw [hw3]; simp [hB]
        simp only [World.size_alloc, hB, Nat.add_assoc, Nat.reduceAdd]
        have p0 : SMem B (.slice none 0 0) (.slice none 0 0) [] false w3 := ⟨K0.at 2 rfl, K0.at 1 rfl, World.ownsRow_nil _ _ _ _⟩
        have hq0 : Blk w3 (B + 2) (.cells #[.string s] 9) := K0.at 0 rfl
        have P0 := Lib.hid p0; have E0 := Lib.hid K0.1; have Q0 := Lib.hid hq0; have Z2 := Lib.hid hz2
        clear K0 p0 hq0 hw3 hz2 hB
        go_wp2_with fail
        obtain ⟨AT, hAT⟩ : ∃ AT : Value → Act, AT = fun x => { tmps := #[.string s, undef, .slice none 0 0, .int .i64 0, .pointer (some ⟨B, 0, none⟩), .pointer (some ⟨B + 1, 0, none⟩), x, .string s, .int .i64 s.size, .bool (decide (65536 < (s.size : Int))), .string s, .int .i64 ix, .bool (decide (0 ≤ ix)), .bool (decide (0 ≤ ix)), .string s, .bool !s.toList.isEmpty, .bool !s.toList.isEmpty, .string s, .bool true, .bool false, .bool false, .bool (decide (0 ≤ ix)), .string s, .func (.func 36) #[] #[.pointer (some ⟨B + 2, 0, none⟩)], x, undef, undef, undef, undef, undef, undef, undef, undef, undef, undef, undef, undef, undef, undef, undef, undef, undef], defers := [] } := ⟨_, rfl⟩
        refine wp_of_In (wpIn_range4 (gf := 36) rfl (enters_of Tryz.func36 (by kernel_rfl) rfl) (split_iter s (s.size + 1) (by omega) (by omega) (B + 2)) encS_size (fun x vs S W W' h _ => h) (fun x vs S S' W h _ => h) (fun g h => by have := Z2.out; omega)
          (SI B w2) (fun _ _ _ _ => False) ?hI (fun _ _ _ _ _ h _ => h.elim) (SS B (.slice none 0 0)) ?h0 ?hS0 ?hpre
          (fun x vs W a₁ W' => W' = W ∧ a₁ = AT (.string x)) (fun x vs W a₁ W' h => h.1 ▸ Ext.refl _) ?assign ?body ?done (fun _ _ _ _ _ _ _ _ h _ => h.elim))
        case hI =>
          have := SI.firm B w2 HB.out
          rw [show w3.heap.size = B + 3 from Z2.out]
          exact this
        case h0 => exact ⟨_, _, P0.out, rfl, E0.out⟩
        case hS0 =>
          intro g hg
          exact P0.out.size g hg
        case hpre =>
          intro S W hE hS
          refine ⟨Q0.out.ext hE, fun h => ?_⟩
          rcases hS (B + 2) (by have := Z2.out; omega) h with h | h | h
          · omega
          · omega
          · cases h
        case assign =>
          rintro l x vs S W K henc hK
          unfold EncS at henc
          subst henc
          rw [hAT] at hK
          gi_wp2
        case body =>
          rintro l pre x vs S W0 W' W a₁ ⟨rfl, rfl⟩ hle0 hvb ⟨v, b, hm, rfl, hE⟩ hleW hpx henc hSl
          have hlx := splF_no (s.size + 1) s x (hpx.subset (by simp))
          have hln := splF_len (s.size + 1) s
          have hpl : pre.length + 1 ≤ (splF (s.size + 1) s).length := by have := hpx.length_le; simpa using this
          have hxs : x.size ≤ 65536 := by omega
          have HPX := Lib.hid hpx
          have d0 : W.cell? ⟨B + 1, 0, none⟩ = some (.bool b) := hm.l.cell 0
          have f0 := hm.l.free 0
          have HM := Lib.hid hm; have HE := Lib.hid hE
          have hzW : B + 3 ≤ W.heap.size := by have := Z2.out; omega
          rw [hAT]
          clear hvb hpx henc hSl hm hE hlx hAT
          have step : ∀ b' : Bool, Ext w2 (W.setCell ⟨B + 1, 0, none⟩ (.bool b')) ∧ Lv (SS B v) W (W.setCell ⟨B + 1, 0, none⟩ (.bool b')) := fun b' => by
            have k := (Lv.refl (SS B v) W).setCell (p := ⟨B + 1, 0, none⟩) (fun _ => .inr (.inl rfl)) (.bool b')
            exact ⟨k.extBelow HE.out (fun g hg hs => by have := HM.out.above g hs; have := HB.out; omega), k⟩
          have STEP := Lib.hid step; clear step
          obtain ⟨b', hb'⟩ : ∃ b', (b || decide (1000 < (x.size : Int))) = b' := ⟨_, rfl⟩
          cases b with
          | false =>
            simp only [Bool.false_or] at hb'
            obtain ⟨W5, hW5⟩ : ∃ W5, W.setCell ⟨B + 1, 0, none⟩ (.bool b') = W5 := ⟨_, rfl⟩
            have m5 := HM.out.setL b'
            have l5 := STEP.out b'
            rw [hW5] at m5 l5
            have c5 : W5.cell? ⟨B, 0, none⟩ = some v := m5.o.cell 0
            have HM5 := Lib.hid m5; have L5 := Lib.hid l5
            have hz5 : B + 3 ≤ W5.heap.size := by have := l5.2.size; omega
            clear m5 l5 STEP
            gi_wp2_with (gi_at_builtin; refine wpListIn_append_size2 rfl (.tmp 31) (.tmp 33) 22 rfl (B + 3) 9 inf _ 1 16 underSs I1.out I2.out I3.out I4.out rfl (by decide) v pre.length (pre.map Value.string) (some ⟨W5.heap.size, 0, none⟩) 1 1 [.string x] rfl rfl rfl (by intro u hu; simp at hu; subst hu; rfl) (by simp only [maxLen]; omega) (by omega) (own_stab3 ((Ext.refl W5).alloc _) HM5.out.own) (Cells.new W5 _ [_] rfl) (by simp; omega) ?_; intro v2 w9 hown2 hg2 hb2; have m6 := (HM5.out.ext ((Ext.refl W5).alloc (.cells #[.string x] 9))).grow hg2 hown2; have o6 : w9.cell? ⟨B, 0, none⟩ = some v := m6.o.cell 0; have f6 := m6.o.free 0; obtain ⟨q9, k9, rfl⟩ := ownsRow_succ hown2; have M6 := Lib.hid m6; have HG2 := Lib.hid hg2; have HB2 := Lib.hid hb2; clear hg2 hown2 hb2 m6)
            have m7 := M6.out.setO
            have l7 := ((L5.out.2.ext ((Ext.refl W5).alloc (.cells #[.string x] 9))).grown HG2.out (fun k hk _ => .inr (.inr hk))).setCell (p := ⟨B, 0, none⟩) (fun _ => .inl rfl) (.slice (some ⟨q9, 0, none⟩) (pre.length + 1) k9)
            refine ⟨SS B (.slice (some ⟨q9, 0, none⟩) (pre.length + 1) k9), l7, fun g hg => ?_, m7.size, _, _, m7, rfl, l7.extBelow HE.out (fun g hg hs => by have := HM.out.above g hs; have := HB.out; omega)⟩
            rcases hg with hg | hg | hg
            · exact .inl (.inl hg)
            · exact .inl (.inr (.inl hg))
            · rcases HB2.out with h | ⟨g', h, hle⟩
              · exact .inl (.inr (.inr (h ▸ hg)))
              · rw [h] at hg; cases hg
                have h1 := L5.out.2.size
                simp only [World.size_alloc] at hle
                exact .inr (by omega)
          | true =>
            clear hb'
            obtain ⟨W5, hW5⟩ : ∃ W5, W.setCell ⟨B + 1, 0, none⟩ (.bool true) = W5 := ⟨_, rfl⟩
            have m5 := HM.out.setL true
            have l5 := STEP.out true
            rw [hW5] at m5 l5
            have c5 : W5.cell? ⟨B, 0, none⟩ = some v := m5.o.cell 0
            have HM5 := Lib.hid m5; have L5 := Lib.hid l5
            have hz5 : B + 3 ≤ W5.heap.size := by have := l5.2.size; omega
            clear m5 l5 STEP
            gi_wp2_with (gi_at_builtin; refine wpListIn_append_size2 rfl (.tmp 31) (.tmp 33) 22 rfl (B + 3) 9 inf _ 1 16 underSs I1.out I2.out I3.out I4.out rfl (by decide) v pre.length (pre.map Value.string) (some ⟨W5.heap.size, 0, none⟩) 1 1 [.string x] rfl rfl rfl (by intro u hu; simp at hu; subst hu; rfl) (by simp only [maxLen]; omega) (by omega) (own_stab3 ((Ext.refl W5).alloc _) HM5.out.own) (Cells.new W5 _ [_] rfl) (by simp; omega) ?_; intro v2 w9 hown2 hg2 hb2; have m6 := (HM5.out.ext ((Ext.refl W5).alloc (.cells #[.string x] 9))).grow hg2 hown2; have o6 : w9.cell? ⟨B, 0, none⟩ = some v := m6.o.cell 0; have f6 := m6.o.free 0; obtain ⟨q9, k9, rfl⟩ := ownsRow_succ hown2; have M6 := Lib.hid m6; have HG2 := Lib.hid hg2; have HB2 := Lib.hid hb2; clear hg2 hown2 hb2 m6)
            have m7 := M6.out.setO
            have l7 := ((L5.out.2.ext ((Ext.refl W5).alloc (.cells #[.string x] 9))).grown HG2.out (fun k hk _ => .inr (.inr hk))).setCell (p := ⟨B, 0, none⟩) (fun _ => .inl rfl) (.slice (some ⟨q9, 0, none⟩) (pre.length + 1) k9)
            refine ⟨SS B (.slice (some ⟨q9, 0, none⟩) (pre.length + 1) k9), l7, fun g hg => ?_, m7.size, _, _, m7, rfl, l7.extBelow HE.out (fun g hg hs => by have := HM.out.above g hs; have := HB.out; omega)⟩
            rcases hg with hg | hg | hg
            · exact .inl (.inl hg)
            · exact .inl (.inr (.inl hg))
            · rcases HB2.out with h | ⟨g', h, hle⟩
              · exact .inl (.inr (.inr (h ▸ hg)))
              · rw [h] at hg; cases hg
                have h1 := L5.out.2.size
                simp only [World.size_alloc] at hle
                exact .inr (by omega)
        case done =>
          rintro D S W hD hSD ⟨v, b, hm, rfl, hE⟩ hW
          have hls := splF_no (s.size + 1) s
          have hln := splF_len (s.size + 1) s
          obtain ⟨ls, hlseq⟩ : ∃ ls, splF (s.size + 1) s = ls := ⟨_, rfl⟩
          rw [hlseq] at hm hls hln
          obtain ⟨A, c, rfl, hnc, hcm⟩ := own_full hm.own
          have c0 : W.cell? ⟨B + 1, 0, none⟩ = some (.bool b) := hm.l.cell 0
          have c1 : W.cell? ⟨B, 0, none⟩ = some (.slice A ls.length c) := hm.o.cell 0
          have hzD : B + 3 ≤ D := by have := Z2.out; omega
          have lp : Lv (fun g => g = D) W (W.putObj D (.deferred none)) := Lv.putObj (S := fun g => g = D) (Lv.refl _ _) (fun _ => rfl) _
          have o10 := own_lv hm.own lp (fun g hg h => by
            obtain ⟨hb, cs, hc⟩ := own_blk hm.own hg
            exact hSD (h ▸ .inr (.inr hg)))
          have e10 : Ext w2 (W.putObj D (.deferred none)) := lp.extBelow hE (fun g hg h => by have := HB.out; omega)
          obtain ⟨A', c', hv', hc', hS'⟩ := own_strs o10 (fun x hx => by have := (hls x hx).2; unfold Reach; omega)
          obtain ⟨rfl, rfl⟩ : A = A' ∧ c = c' := by simpa using hv'
          have HD := Lib.hid hW; have E10 := Lib.hid e10; have S10 := Lib.hid hS'; have HLS := Lib.hid hls
          clear hm hE hW hls o10 e10 hS' hv' hc' lp hSD hlseq
          cases b with
          | true =>
            go_wp2_with fail
            refine ⟨by simp, .inl ⟨_, _, rfl, run_takeDeferred HD.out, ?_⟩⟩
            exact ⟨.tuple #[.slice none 0 0, .int .i64 4], by simp [results, Tryz.results4, go_sem], spl_bad 4 E10.out⟩
          | false =>
            by_cases h2 : 2000 < ls.length
            · go_wp2_with fail
              refine ⟨by simp, .inl ⟨_, _, rfl, run_takeDeferred HD.out, ?_⟩⟩
              exact ⟨.tuple #[.slice none 0 0, .int .i64 4], by simp [results, Tryz.results4, go_sem], spl_bad 4 E10.out⟩
            · go_wp2_with fail
              refine ⟨by simp, .inl ⟨_, _, rfl, run_takeDeferred HD.out, ?_⟩⟩
              exact ⟨.tuple #[.slice A ls.length c, .int .i64 0], by simp [results, Tryz.results4, go_sem], E10.out, A, _, c, ls, 0, rfl, hnc, hcm, by omega, S10.out, fun x hx => ⟨(HLS.out x hx).1, by have := (HLS.out x hx).2; omega⟩⟩
end Go.Proofs.YtmmcjcaccicheaaGreatDoor
