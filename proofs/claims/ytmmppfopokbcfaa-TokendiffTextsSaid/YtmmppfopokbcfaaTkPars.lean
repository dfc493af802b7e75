/- Contract: the parser's text. -/
import Derived.Test.YtmmppfopokbcfaaTkRender
import Derived.Test.YtmmppfopokbcfaaTkRWords
import Derived.Test.YtmmppfopokbcfaaTkRefine
namespace Go.Proofs.Ytmmppfopokbcfaa
open Go.RowKit

/-! ### One step of a text -/
theorem bytes_drop (s : ByteArray) (k : Nat) : (s.extract k s.size).data.toList = s.data.toList.drop k := by
  rw [ext_mk, List.take_of_length_le (by rw [List.length_drop, ← size_len]; exact Nat.le_refl _)]
theorem bytes_two {s : ByteArray} (h : 1 < s.size) : s.data.toList = s[0] :: s[1] :: s.data.toList.drop 2 := by
  have h0 := drop_of (byte_at (s := s) (j := 0) (by omega))
  have h1 := drop_of (byte_at (s := s) (j := 1) h)
  rw [List.drop_zero] at h0
  rw [h0, h1]
  rfl
theorem bytes_one {s : ByteArray} (h : 0 < s.size) : s.data.toList = s[0] :: s.data.toList.drop 1 := by
  have h0 := drop_of (byte_at (s := s) (j := 0) h)
  rwa [List.drop_zero] at h0
theorem text_esc {s : ByteArray} (h : 1 < s.size) (h0 : s[0] = 92) : textL s.data.toList = (s[1] :: (textL (s.extract 2 s.size).data.toList).1, (textL (s.extract 2 s.size).data.toList).2) := by
  rw [bytes_drop]
  conv => lhs; rw [bytes_two h, textL, if_pos h0]
theorem text_end {s : ByteArray} (h : 0 < s.size) (hn : ¬ (s[0] = 92 ∧ 1 < s.size)) (hs : spc s[0] = true) : textL s.data.toList = ([], s.data.toList) := by
  by_cases h1 : 1 < s.size
  · rw [bytes_two h1, textL, if_neg (fun e => hn ⟨e, h1⟩), if_pos hs]
  · have : s.data.toList.drop 1 = [] := List.drop_eq_nil_of_le (by rw [← size_len]; omega)
    have e := bytes_one h
    rw [this] at e
    rw [e, textL, if_pos hs]
theorem text_one {s : ByteArray} (h : 0 < s.size) (hs : spc s[0] = false) : textL s.data.toList = (s[0] :: (textL (s.extract 1 s.size).data.toList).1, (textL (s.extract 1 s.size).data.toList).2) := by
  rw [bytes_drop]
  conv => lhs; rw [bytes_one h, text_plain hs]

/-! ### The parser in memory -/
/-- The parser in block g: what is left, and the pieces. -/
def PSt (g base : Nat) (rest : ByteArray) (L : List Pc) (w : World) : Prop :=
  ∃ v, Blk w g (.cells #[.string rest, v] 84 (0, 0)) ∧ w.ownsRow base 30 2 v L.length (L.flatMap Pc.cells)
/-- What stands while the parser reads a text. -/
def FK (g base : Nat) (w w' : World) : Prop := Below base w w' ∧ Lib.OthersKept 5 (some g) w w'
theorem FK.refl (g base : Nat) (w : World) : FK g base w w := ⟨Below.refl _ _, Lib.OthersKept.refl _ _ _⟩
theorem FK.trans {g base : Nat} {x y z : World} (h : FK g base x y) (k : FK g base y z) : FK g base x z := ⟨Below.trans h.1 k.1, h.2.trans k.2⟩
theorem FK.blk {g base k : Nat} {x y : World} {cs : Array Value} {t : TypeId} (h : FK g base x y) (hb : Blk x k (.cells cs t (0, 0))) (hk : k ≠ g) (ht : t ≠ 5) : Blk y k (.cells cs t (0, 0)) :=
  h.2 k _ hb (fun e => hk (Option.some.inj e)) (fun c fz e => ht (by cases e; rfl))
theorem own_kept {w w' : World} {b0 : Nat} {e e' : TypeId} {size n : Nat} {v : Value} {xs : List Value} {g : Nat} (h : Lib.OthersKept e (some g) w w') (ho : w.ownsRow b0 e' size v n xs) (hg : v.ownBlock ≠ some g) (he : e' ≠ e) : w'.ownsRow b0 e' size v n xs := by
  refine own_stands ho fun k o hk hw => h k o hw (fun e => hg (by rw [hk, e])) (fun c fz e2 => ?_)
  obtain ⟨cs, f2, hc⟩ := own_type ho k hk
  rw [hw, e2] at hc
  cases hc
  exact he rfl
theorem own_far {w : World} {base size n g : Nat} {e t : TypeId} {v : Value} {xs : List Value} {cs : Array Value} {f : Nat × Nat} (h : w.ownsRow base e size v n xs) (hb : Blk w g (.cells cs t f)) (hne : e ≠ t) : v.ownBlock ≠ some g := by
  intro k
  obtain ⟨cs', fz, hc⟩ := own_type h g k
  rw [show w.heap[g]? = _ from hb] at hc
  cases hc
  exact hne rfl
theorem two_set0 {w : World} {b : Nat} {x y u : Value} {t : TypeId} (h : Blk w b (.cells #[x, y] t (0, 0))) : Blk (w.setCell ⟨b, 0, none⟩ u) b (.cells #[u, y] t (0, 0)) := by
  have hlt := h.lt
  have h' : w.heap[b] = .cells #[x, y] t (0, 0) := by
    have := (Array.getElem?_eq_getElem hlt).symm.trans h
    exact Option.some.inj this
  show (w.heap.modify b _)[b]? = _
  rw [Array.getElem?_eq_getElem (by simpa using hlt), Array.getElem_modify_self, h']
  rfl
theorem two_set1 {w : World} {b : Nat} {x y u : Value} {t : TypeId} (h : Blk w b (.cells #[x, y] t (0, 0))) : Blk (w.setCell ⟨b, 1, none⟩ u) b (.cells #[x, u] t (0, 0)) := by
  have hlt := h.lt
  have h' : w.heap[b] = .cells #[x, y] t (0, 0) := by
    have := (Array.getElem?_eq_getElem hlt).symm.trans h
    exact Option.some.inj this
  show (w.heap.modify b _)[b]? = _
  rw [Array.getElem?_eq_getElem (by simpa using hlt), Array.getElem_modify_self, h']
  rfl
theorem two_free {w : World} {b j : Nat} {x y : Value} {t : TypeId} (h : Blk w b (.cells #[x, y] t (0, 0))) : w.frozen? ⟨b, j, none⟩ = false := by
  have h2 : w.heap[b]? = _ := h
  simp [World.frozen?, h2]
theorem Blk.far2 {w : World} {b k : Nat} {o : Obj} (h : Blk w b o) (hk : b ≠ k) (j : Nat) (u : Value) : Blk (w.setCell ⟨k, j, none⟩ u) b o := by
  show (w.setCell ⟨k, j, none⟩ u).heap[b]? = _
  rw [Below.heap_setCell _ _ _ _ (fun e => hk e)]
  exact h
theorem bd_far {b B g j : Nat} {l : Bs} {w : World} {u : Value} {cs : Array Value} {t : TypeId} (h : Bd b B l w) (hg : Blk w g (.cells cs t (0, 0))) (hbg : b ≠ g) (ht : t ≠ 5) : Bd b B l (w.setCell ⟨g, j, none⟩ u) := by
  have key : ∀ p, Lib.BuilderAtF 73 5 B b p (Lib.byteCells l) w → Lib.BuilderAtF 73 5 B b p (Lib.byteCells l) (w.setCell ⟨g, j, none⟩ u) := by
    rintro p ⟨h1, v, h2, ⟨h3, h4⟩, h5⟩
    refine ⟨h1, v, Blk.far2 (show Blk w b _ from h2) hbg _ _, ⟨h3, ?_⟩, h5⟩
    rcases h4 with h4 | ⟨g', cap, cur, fz, rfl, hb, hgg, r⟩
    · exact .inl h4
    · have hne : g' ≠ g := by
        rintro rfl
        rw [show w.heap[g']? = _ from hg] at hgg
        cases hgg
        exact ht rfl
      exact .inr ⟨g', cap, cur, fz, rfl, hb, Blk.far2 (show Blk w g' _ from hgg) hne _ _, r⟩
  rcases h with h | h
  · exact .inl (key _ h)
  · exact .inr (key _ h)
theorem bd_lt {b B : Nat} {l : Bs} {w : World} (h : Bd b B l w) : b < w.heap.size := by
  rcases h with h | h
  · exact h.lt
  · exact h.lt

theorem bd_blk {b B : Nat} {l : Bs} {w : World} (h : Bd b B l w) : ∃ cs, Blk w b (.cells cs 73 (0, 0)) := by
  rcases h with ⟨_, v, h, _⟩ | ⟨_, v, h, _⟩
  · exact ⟨_, h⟩
  · exact ⟨_, h⟩
theorem FK.bk {g base b : Nat} {w wr w' : World} (h : FK g base w wr) (hb : w.heap.size ≤ b) (hbase : base ≤ b) (k : BK b b wr w') : FK g base w w' := by
  refine ⟨Below.trans h.1 (Below.mono k.1 hbase), fun j o hj hjg hne => ?_⟩
  have hlt := (Array.getElem?_eq_some_iff.1 hj).1
  exact k.2 j o (h.2 j o hj hjg hne) (fun e => by have := Option.some.inj e; omega) hne
theorem FK.set {g base : Nat} {w wr : World} (h : FK g base w wr) (hbg : base ≤ g) (j : Nat) (u : Value) : FK g base w (wr.setCell ⟨g, j, none⟩ u) := ⟨Below.setCell h.1 hbg u, h.2.setCell _ rfl u⟩
theorem row_bk {b base n : Nat} {l : Bs} {v : Value} {xs : List Value} {w w' : World} (ho : w.ownsRow base 30 2 v n xs) (hB : Bd b b l w) (k : BK b b w w') : w'.ownsRow base 30 2 v n xs := by
  obtain ⟨cs, hc⟩ := bd_blk hB
  exact own_kept k.2 ho (own_far ho hc (by decide)) (by decide)
set_option maxRecDepth 100000 in
set_option maxHeartbeats 8000000 in
theorem text_any (g base : Nat) (s : ByteArray) (L : List Pc) (w : World) (hP : PSt g base s L w) (hbg : base ≤ g) (hs : s.size ≤ 80000) :
    Calls Try.prog 71 #[.pointer (some ⟨g, 0, none⟩)] w fun e w' => e = .returned (.string (mkS (textL s.data.toList).1)) ∧ PSt g base (mkS (textL s.data.toList).2) L w' ∧ FK g base w w' := by
  obtain ⟨v, hb, ho⟩ := hP
  have hgw := hb.lt
  obtain ⟨b, hbw⟩ : ∃ b, w.heap.size = b := ⟨_, rfl⟩
  have hvg := own_far ho hb (by decide)
  have hE1 : Ext w (w.alloc (.cells #[.pointer none, .slice none 0 0] 73)) := (Ext.refl _).alloc _
  have hBn := Bd.new w
  rw [hbw] at hBn hgw
  have HB := Lib.hid (hb.ext hE1); have HO := Lib.hid (own_stab3 hE1 ho); have HBN := Lib.hid hBn; have HE1 := Lib.hid hE1; have HV := Lib.hid hvg; have HBW := Lib.hid hbw; clear hb ho hBn hE1 hvg
  go_enter Try.func71, Try.ntmps71
  go_wp2_with fail
  go_loopw [] (fun wr => ∃ (r : ByteArray) (acc : Bs), Blk wr g (.cells #[.string r, v] 84 (0, 0)) ∧ wr.ownsRow base 30 2 v L.length (L.flatMap Pc.cells) ∧ Bd b b acc wr ∧
    FK g base w wr ∧ b ≤ wr.heap.size ∧ acc.length + r.size ≤ s.size ∧ acc ++ (textL r.data.toList).1 = (textL s.data.toList).1 ∧ (textL r.data.toList).2 = (textL s.data.toList).2) (fun wr => strLen ((wr.cell? ⟨g, 0, none⟩).getD (.bool true)))
  case atStart => exact ⟨s, [], HB.out, HO.out, HBN.out, ⟨Ext.below HE1.out (by omega), (Lib.OthersKept.refl _ _ _).alloc _⟩, by have := HE1.out.size; omega, by simp, rfl, rfl⟩
  case round =>
    obtain ⟨r, acc, hb, ho, hB, hF, hbs, hl, ht1, ht2⟩ := hrel
    have c0 := hb.cell 0
    replace c0 : wr.cell? ⟨g, 0, none⟩ = some (.string r) := c0
    have hgb : b ≠ g := by omega
    have HB1 := Lib.hid hb; have HO1 := Lib.hid ho; have HBD := Lib.hid hB; have HF := Lib.hid hF; have HT1 := Lib.hid ht1; have HT2 := Lib.hid ht2; have HC0 := Lib.hid c0; clear hb ho hB hF ht1 ht2
    by_cases h0 : r.size = 0
    · have HTX := Lib.hid (show textL r.data.toList = ([], r.data.toList) by
        have : r.data.toList = [] := List.eq_nil_of_length_eq_zero (by rw [← size_len]; exact h0)
        rw [this]; rfl)
      have q0 := emp_yes h0
      have hr : mkS (textL s.data.toList).2 = r := by rw [← HT2.out, HTX.out]; exact mkS_of r
      have ha : (textL s.data.toList).1 = acc := by rw [← HT1.out, HTX.out, List.append_nil]
      have HR := Lib.hid hr; have HA := Lib.hid ha; clear hr ha
      go_wp2_with fail
      refine (bstr_is HBD.out hbs).mono ?_
      rintro e w9 ⟨rfl, hk⟩
      have HK9 := Lib.hid hk; clear hk
      go_wp2_with fail
      go_ret
      rw [HR.out, HA.out]
      exact ⟨rfl, ⟨v, HK9.out.blk HB1.out (fun e => hgb e.symm) (by decide), row_bk HO1.out HBD.out HK9.out⟩, HF.out.bk (by rw [HBW.out]; exact Nat.le_refl _) (by omega) HK9.out⟩
    have q0 := emp_no h0
    have hp : 0 < r.size := by omega
    by_cases h92 : r[0] = 92
    · have q1 : ((r[0].toNat : Int) == 92) = true := by rw [h92]; rfl
      by_cases h1 : 1 < r.size
      · skip
        have HST := Lib.hid (text_esc h1 h92); have hsz := ext_size r 2 r.size (Nat.le_refl _)
        go_wp2_with fail
        refine (wbyte_is r[1] HBD.out (by omega) hbs).mono ?_
        rintro e w5 ⟨rfl, hB, hk⟩
        have HBD5 := Lib.hid hB; have HB5 := Lib.hid (hk.blk HB1.out (fun e => hgb e.symm) (by decide)); have HO5 := Lib.hid (row_bk HO1.out HBD.out hk); have HF5 := Lib.hid (HF.out.bk (by rw [HBW.out]; exact Nat.le_refl _) (by omega) hk); have hbs5 := Nat.le_trans hbs hk.size
        clear hB hk c0
        have c0 := HB5.out.cell 0
        replace c0 : w5.cell? ⟨g, 0, none⟩ = some (.string r) := c0
        have f0 := two_free (j := 0) HB5.out
        go_wp2_with fail
        go_roundw
        case rel =>
          refine ⟨_, acc ++ [r[1]], two_set0 HB5.out, ownsRow_setCell_other HO5.out (own_far HO5.out HB5.out (by decide)) _, bd_far HBD5.out HB5.out hgb (by decide), HF5.out.set hbg _ _, ?_, ?_, ?_, ?_⟩
          · have := Below.size (Below.setCell (Below.refl 0 w5) (p := ⟨g, 0, none⟩) (Nat.zero_le _) (.string (r.extract 2 r.size))); omega
          · rw [List.length_append, List.length_singleton, hsz]; omega
          · rw [← HT1.out, HST.out, List.append_assoc]; rfl
          · rw [← HT2.out, HST.out]
        case measure =>
          rw [HC0.out, show (w5.setCell ⟨g, 0, none⟩ (.string (r.extract 2 r.size))).cell? ⟨g, 0, none⟩ = some (.string (r.extract 2 r.size)) from (two_set0 HB5.out).cell 0]
          simp only [Option.getD_some, strLen, hsz]
          omega
      · have hsp : spc r[0] = true := by rw [h92]; rfl
        have HTX := Lib.hid (text_end hp (fun e => h1 e.2) hsp)
        have hr : mkS (textL s.data.toList).2 = r := by rw [← HT2.out, HTX.out]; exact mkS_of r
        have ha : (textL s.data.toList).1 = acc := by rw [← HT1.out, HTX.out, List.append_nil]
        have HR := Lib.hid hr; have HA := Lib.hid ha; clear hr ha
        go_wp2_with fail
        refine (spec_is (c := 92) (q := true) rfl).mono ?_
        rintro e w5 ⟨q, rfl, hq, rfl⟩
        have hq' : 0 ≤ q := by simpa using hq
        clear hq
        go_wp2_with fail
        refine (bstr_is HBD.out hbs).mono ?_
        rintro e w9 ⟨rfl, hk⟩
        have HK9 := Lib.hid hk; clear hk
        go_wp2_with fail
        go_ret
        rw [HR.out, HA.out]
        exact ⟨rfl, ⟨v, HK9.out.blk HB1.out (fun e => hgb e.symm) (by decide), row_bk HO1.out HBD.out HK9.out⟩, HF.out.bk (by rw [HBW.out]; exact Nat.le_refl _) (by omega) HK9.out⟩
    · have q1 : ((r[0].toNat : Int) == 92) = false := by
        have : r[0].toNat ≠ 92 := fun e => h92 (UInt8.toNat_inj.1 e)
        simp; omega
      cases hsp : spc r[0] with
      | true =>
        have HTX := Lib.hid (text_end hp (fun e => h92 e.1) hsp)
        have hr : mkS (textL s.data.toList).2 = r := by rw [← HT2.out, HTX.out]; exact mkS_of r
        have ha : (textL s.data.toList).1 = acc := by rw [← HT1.out, HTX.out, List.append_nil]
        have HR := Lib.hid hr; have HA := Lib.hid ha; clear hr ha
        go_wp2_with fail
        refine (spec_is hsp).mono ?_
        rintro e w5 ⟨q, rfl, hq, rfl⟩
        have hq' : 0 ≤ q := by simpa using hq
        clear hq
        go_wp2_with fail
        refine (bstr_is HBD.out hbs).mono ?_
        rintro e w9 ⟨rfl, hk⟩
        have HK9 := Lib.hid hk; clear hk
        go_wp2_with fail
        go_ret
        rw [HR.out, HA.out]
        exact ⟨rfl, ⟨v, HK9.out.blk HB1.out (fun e => hgb e.symm) (by decide), row_bk HO1.out HBD.out HK9.out⟩, HF.out.bk (by rw [HBW.out]; exact Nat.le_refl _) (by omega) HK9.out⟩
      | false =>
        go_wp2_with fail
        refine (spec_is hsp).mono ?_
        rintro e w4 ⟨q, rfl, hq, rfl⟩
        have hq' : ¬ (0 ≤ q) := by simpa using hq
        clear hq
        have HST := Lib.hid (text_one hp hsp); have hsz := ext_size r 1 r.size (Nat.le_refl _)
        go_wp2_with fail
        refine (wbyte_is r[0] HBD.out (by omega) hbs).mono ?_
        rintro e w5 ⟨rfl, hB, hk⟩
        have HBD5 := Lib.hid hB; have HB5 := Lib.hid (hk.blk HB1.out (fun e => hgb e.symm) (by decide)); have HO5 := Lib.hid (row_bk HO1.out HBD.out hk); have HF5 := Lib.hid (HF.out.bk (by rw [HBW.out]; exact Nat.le_refl _) (by omega) hk); have hbs5 := Nat.le_trans hbs hk.size
        clear hB hk c0
        have c0 := HB5.out.cell 0
        replace c0 : w5.cell? ⟨g, 0, none⟩ = some (.string r) := c0
        have f0 := two_free (j := 0) HB5.out
        go_wp2_with fail
        go_roundw
        case rel =>
          refine ⟨_, acc ++ [r[0]], two_set0 HB5.out, ownsRow_setCell_other HO5.out (own_far HO5.out HB5.out (by decide)) _, bd_far HBD5.out HB5.out hgb (by decide), HF5.out.set hbg _ _, ?_, ?_, ?_, ?_⟩
          · have := Below.size (Below.setCell (Below.refl 0 w5) (p := ⟨g, 0, none⟩) (Nat.zero_le _) (.string (r.extract 1 r.size))); omega
          · rw [List.length_append, List.length_singleton, hsz]; omega
          · rw [← HT1.out, HST.out, List.append_assoc]; rfl
          · rw [← HT2.out, HST.out]
        case measure =>
          rw [HC0.out, show (w5.setCell ⟨g, 0, none⟩ (.string (r.extract 1 r.size))).cell? ⟨g, 0, none⟩ = some (.string (r.extract 1 r.size)) from (two_set0 HB5.out).cell 0]
          simp only [Option.getD_some, strLen, hsz]
          omega
end Go.Proofs.Ytmmppfopokbcfaa
