/- The builder of strings: WriteByte, Write, String. No condition. -/
import Derived.Test.YtmmcjcaccicheaaTfShelf
import Derived.Test.YtmmcjcaccicheaaTfSum
namespace Go.Proofs.Ytmmcjcaccicheaa
open Go.RowKit
/-- The builder in block b holds the bytes l in a row of the call's own. -/
structure BdS (base : Nat) (W : World) (b : Nat) (v : Value) (l : Bs) : Prop where
  blk : Blk W b (.cells #[.pointer (some ⟨b, 0, none⟩), v] 88 (0, 0))
  own : W.ownsRow base 5 1 v l.length (dgl l)
theorem own_lv {S : Nat → Prop} {base : Nat} {e : TypeId} {size : Nat} {v : Value} {n : Nat} {xs : List Value} {W W' : World} (h : W.ownsRow base e size v n xs) (k : Lv S W W') (hS : ∀ g, v.ownBlock = some g → ¬ S g) : W'.ownsRow base e size v n xs := by
  refine ⟨h.1, ?_⟩
  rcases h.2 with hn | ⟨g, cap, cur, rfl, hb, hgg, rest⟩
  · exact .inl hn
  · exact .inr ⟨g, cap, cur, rfl, hb, Blk.lv (o := .cells cur e (0, 0)) hgg k (hS g rfl), rest⟩
theorem own_blk {base : Nat} {e : TypeId} {size : Nat} {v : Value} {n : Nat} {xs : List Value} {W : World} (h : W.ownsRow base e size v n xs) {g : Nat} (hg : v.ownBlock = some g) : base ≤ g ∧ ∃ cur, Blk W g (.cells cur e (0, 0)) := by
  rcases h.2 with ⟨rfl, _⟩ | ⟨g', cap, cur, rfl, hb, hgg, rest⟩
  · cases hg
  · cases hg; exact ⟨hb, cur, hgg⟩
theorem own_slice {base : Nat} {e : TypeId} {size : Nat} {v : Value} {n : Nat} {xs : List Value} {W : World} (h : W.ownsRow base e size v n xs) (hx : xs ≠ []) : ∃ g cap, v = .slice (some ⟨g, 0, none⟩) n cap := by
  rcases h.2 with ⟨rfl, h2⟩ | ⟨g', cap, cur, rfl, hb, hgg, rest⟩
  · exact absurd (List.eq_nil_of_length_eq_zero (by rw [h.1, h2, Nat.zero_mul])) hx
  · exact ⟨g', cap, rfl⟩
theorem BdS.ne {base : Nat} {W : World} {b : Nat} {v : Value} {l : Bs} (h : BdS base W b v l) : v.ownBlock ≠ some b := own_ne h.own h.blk (by decide)
theorem BdS.lv {base : Nat} {W W' : World} {b : Nat} {v : Value} {l : Bs} (h : BdS base W b v l) {S : Nat → Prop} (k : Lv S W W') (hS : ∀ g, g = b ∨ v.ownBlock = some g → ¬ S g) : BdS base W' b v l :=
  ⟨h.blk.lv k (hS b (.inl rfl)), own_lv h.own k (fun g hg => hS g (.inr hg))⟩
set_option maxRecDepth 100000 in
set_option maxHeartbeats 2000000 in
theorem wbyte_fresh (b : Nat) (c : UInt8) (k : Int) (hk : k = ub c) (w : World) (hb : Blk w b (.cells #[.pointer none, .slice none 0 0] 88 (0, 0))) :
    Calls Try.prog 39 #[.pointer (some ⟨b, 0, none⟩), .int .u8 k] w fun e w' => e = .returned .nilIface ∧ ∃ v, BdS w.heap.size w' b v [c] ∧ Lv (fun g => g = b) w w' := by
  subst hk
  obtain ⟨inf, i1, i2, i3, i4⟩ := info_of info_byte
  have hck := sh_Builder_copyCheck_fresh b w (hb.cell 0) (by unfold Blk at hb; simp [World.shape?, hb]) (hb.free 0)
  have b1 : Blk (w.setCell ⟨b, 0, none⟩ (.pointer (some ⟨b, 0, none⟩))) b (.cells #[.pointer (some ⟨b, 0, none⟩), .slice none 0 0] 88) := hb.put 0 _
  have l1 := (Lv.refl (fun g => g = b) w).setCell (p := ⟨b, 0, none⟩) (fun _ => rfl) (.pointer (some ⟨b, 0, none⟩))
  go_enter Try.func39, Try.ntmps39
  go_wp2_with fail
  refine hck.mono ?_
  rintro e w1 ⟨rfl, hw1⟩
  rw [← hw1] at b1 l1
  have c0 : w1.cell? ⟨b, 0, none⟩ = some (.pointer (some ⟨b, 0, none⟩)) := b1.cell 0
  have c1 : w1.cell? ⟨b, 1, none⟩ = some (.slice none 0 0) := b1.cell 1
  have B1 := Lib.hid b1; have L1 := Lib.hid l1; have I1 := Lib.hid i1; have I2 := Lib.hid i2; have I3 := Lib.hid i3; have I4 := Lib.hid i4
  clear b1 l1 hw1 hck hb i1 i2 i3 i4
  go_wp2_with (at_builtin; refine wpList_append_size2 rfl (.tmp 11) (.tmp 13) 71 rfl w.heap.size 5 inf _ 1 1 Try.underlying71 I1.out I2.out I3.out I4.out rfl (by decide) (.slice none 0 0) 0 [] (some ⟨w1.heap.size, 0, none⟩) 1 1 [.int .u8 (ub c)] rfl rfl rfl (by intro u hu; simp at hu; subst hu; rfl) (by simp [maxLen]) (by omega) (World.ownsRow_nil _ _ _ _) (Cells.new w1 _ [_] rfl) (by have := L1.out.size; simp; omega) ?_; intro v2 w2 hown2 hg2 hb2; have hbx2 := (hg2.block b (by have := B1.out.lt; simp; omega) (by simp [Value.ownBlock])).trans (B1.out.alloc (.cells #[.int .u8 (ub c)] 5)); have hlv2 := (L1.out.alloc (.cells #[.int .u8 (ub c)] 5)).grown hg2 (fun k hk => by simp [Value.ownBlock] at hk); obtain ⟨g', cap', rfl⟩ := own_slice hown2 (by simp); have c2 : w2.cell? ⟨b, 0, none⟩ = some (.pointer (some ⟨b, 0, none⟩)) := Blk.cell (cs := #[.pointer (some ⟨b, 0, none⟩), .slice none 0 0]) hbx2 0; have c3 : w2.cell? ⟨b, 1, none⟩ = some (.slice none 0 0) := Blk.cell (cs := #[.pointer (some ⟨b, 0, none⟩), .slice none 0 0]) hbx2 1; have f3 : w2.frozen? ⟨b, 1, none⟩ = false := Blk.free (cs := #[.pointer (some ⟨b, 0, none⟩), .slice none 0 0]) hbx2 1; have HO2 := Lib.hid hown2; have HL2 := Lib.hid hlv2; have HB2 := Lib.hid hbx2; clear hown2 hlv2 hbx2 hg2 hb2)
  go_ret
  have hne := own_ne (h := HO2.out) (hg := HB2.out) (by decide)
  refine ⟨rfl, _, ⟨Blk.put HB2.out 1 _, ?_⟩, HL2.out.setCell (p := ⟨b, 1, none⟩) (fun _ => rfl) _⟩
  refine own_lv (S := fun g => g = b) HO2.out ((Lv.refl (fun g => g = b) w2).setCell (p := ⟨b, 1, none⟩) (fun _ => rfl) _) (fun g hg he => hne (by rw [hg, he]))
set_option maxRecDepth 100000 in
set_option maxHeartbeats 2000000 in
theorem write_is (base b : Nat) (v : Value) (l y : Bs) (gs o c : Nat) (w : World) (h : BdS base w b v l) (hy : ∀ (j : Nat) (x : UInt8), y[j]? = some x → w.cell? ⟨gs, o + j, none⟩ = some (bv x)) (hl : l.length + y.length < 1073741824) (h0 : y ≠ []) (hbw : base ≤ w.heap.size) {n : Nat} (hn : y.length = n) :
    Calls Try.prog 40 #[.pointer (some ⟨b, 0, none⟩), .slice (some ⟨gs, o, none⟩) n c] w fun e w' => (∃ r, e = .returned r) ∧ ∃ v', BdS base w' b v' (l ++ y) ∧ Lv (fun g => g = b ∨ v.ownBlock = some g) w w' ∧ (v'.ownBlock = v.ownBlock ∨ ∃ g, v'.ownBlock = some g ∧ w.heap.size ≤ g) := by
  subst hn
  obtain ⟨inf, i1, i2, i3, i4⟩ := info_of info_byte
  have c0 : w.cell? ⟨b, 0, none⟩ = some (.pointer (some ⟨b, 0, none⟩)) := h.blk.cell 0
  have c1 : w.cell? ⟨b, 1, none⟩ = some v := h.blk.cell 1
  have hck := sh_Builder_copyCheck_used b w c0
  have hne := h.ne
  have hsl : ∃ ao n' c', v = .slice ao n' c' := by
    rcases h.own.2 with ⟨rfl, _⟩ | ⟨g', cap, cur, rfl, _⟩
    · exact ⟨_, _, _, rfl⟩
    · exact ⟨_, _, _, rfl⟩
  have B1 := Lib.hid h.blk; have O1 := Lib.hid h.own; have I1 := Lib.hid i1; have I2 := Lib.hid i2; have I3 := Lib.hid i3; have I4 := Lib.hid i4
  clear i1 i2 i3 i4
  go_enter Try.func40, Try.ntmps40
  go_wp2_with fail
  refine hck.mono ?_
  rintro e w1 ⟨rfl, rfl⟩
  go_wp2_with (at_builtin; refine wpList_append_size2 rfl (.tmp 12) (.tmp 13) 71 rfl base 5 inf _ 1 1 Try.underlying71 I1.out I2.out I3.out I4.out rfl (by decide) v l.length (dgl l) (some ⟨gs, o, none⟩) y.length c (dgl y) rfl rfl (by rw [dgl_len]; omega) (dgl_one y) (by simp only [maxLen]; omega) (by omega) O1.out (.inr ⟨gs, o, rfl, fun j u hu => by unfold dgl at hu; rw [List.getElem?_map] at hu; cases hj : y[j]? with | none => rw [hj] at hu; cases hu | some x => rw [hj] at hu; cases hu; exact hy j x hj⟩) hbw ?_; intro v2 w2 hown2 hg2 hb2; have hbx2 := (hg2.block b B1.out.lt (fun e => hne e.symm)).trans B1.out; have hlv2 := (Lv.refl (fun g => g = b ∨ v.ownBlock = some g) w1).grown hg2 (fun k hk _ => .inr hk); obtain ⟨g', cap', rfl⟩ := own_slice hown2 (by intro e; have he := congrArg List.length e; rw [List.length_append, dgl_len, dgl_len, List.length_nil] at he; exact h0 (List.eq_nil_of_length_eq_zero (by omega))); have c2 : w2.cell? ⟨b, 0, none⟩ = some (.pointer (some ⟨b, 0, none⟩)) := Blk.cell (cs := #[.pointer (some ⟨b, 0, none⟩), v]) hbx2 0; have c3 : w2.cell? ⟨b, 1, none⟩ = some v := Blk.cell (cs := #[.pointer (some ⟨b, 0, none⟩), v]) hbx2 1; have f3 : w2.frozen? ⟨b, 1, none⟩ = false := Blk.free (cs := #[.pointer (some ⟨b, 0, none⟩), v]) hbx2 1; have HO2 := Lib.hid hown2; have HL2 := Lib.hid hlv2; have HB2 := Lib.hid hbx2; have HG2 := Lib.hid hb2; clear hown2 hlv2 hbx2 hg2 hb2)
  go_ret2
  have hne2 := own_ne (h := HO2.out) (hg := HB2.out) (by decide)
  refine ⟨⟨_, rfl⟩, _, ⟨Blk.put HB2.out 1 _, ?_⟩, HL2.out.setCell (p := ⟨b, 1, none⟩) (fun _ => .inl rfl) _, HG2.out⟩
  have := own_lv (S := fun g => g = b) HO2.out ((Lv.refl (fun g => g = b) w2).setCell (p := ⟨b, 1, none⟩) (fun _ => rfl) (.slice (some ⟨g', 0, none⟩) (l.length + y.length) cap')) (fun g hg he => hne2 (by rw [hg, he]))
  rw [List.length_append]
  unfold dgl at this ⊢
  rw [List.map_append]
  exact this
theorem bstring_is (b : Nat) (v : Value) (l : Bs) (w : World) (B : Nat) (hB : B ≤ b) (hBw : B ≤ w.heap.size) (h : BdS B w b v l) :
    Calls Try.prog 41 #[.pointer (some ⟨b, 0, none⟩)] w fun e w' => e = .returned (.string (bst l)) ∧ Below B w w' ∧ Lib.OthersKept 5 (some b) w w' := by
  have hb : Lib.IsBuilderF 88 5 B b (Lib.byteCells l) w := by
    refine .inr ⟨hB, v, h.blk, ?_, h.ne⟩
    have := World.ownsRowF_of h.own
    rw [Lib.byteCells_length]
    exact this
  refine (sh_Builder_String_any_k B b l w hb hBw).mono ?_
  rintro e w' ⟨rfl, -, h2, h3⟩
  exact ⟨by rw [bst_mk], h2, h3⟩
end Go.Proofs.Ytmmcjcaccicheaa
