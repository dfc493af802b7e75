/- Contracts: the builder's, brackets, quoted. -/
import Derived.Test.YtmmppfopokbcfaaTkMem
import Derived.Test.YtmmppfopokbcfaaTkText
import Derived.Test.YtmmppfopokbcfaaTkRun
namespace Go.Proofs.Ytmmppfopokbcfaa
open Go.RowKit

/-- The builder in block b holds the bytes l. -/
def Bd (b B : Nat) (l : Bs) (w : World) : Prop := Lib.IsBuilderF 73 5 B b (Lib.byteCells l) w
/-- What stands while it is written. -/
def BK (b B : Nat) (w w' : World) : Prop := Below B w w' ∧ Lib.OthersKept 5 (some b) w w'
theorem BK.refl (b B : Nat) (w : World) : BK b B w w := ⟨Below.refl _ _, Lib.OthersKept.refl _ _ _⟩
theorem BK.trans {b B : Nat} {x y z : World} (h : BK b B x y) (k : BK b B y z) : BK b B x z := ⟨Below.trans h.1 k.1, h.2.trans k.2⟩
theorem BK.alloc {b B : Nat} {x y : World} (h : BK b B x y) (o : Obj) (hB : B ≤ y.heap.size) : BK b B x (y.alloc o) := ⟨Below.trans h.1 (Ext.below ((Ext.refl y).alloc o) hB), h.2.alloc o⟩
theorem BK.blk {b B k : Nat} {x y : World} {cs : Array Value} {t : TypeId} (h : BK b B x y) (hb : Blk x k (.cells cs t (0, 0))) (hk : k ≠ b) (ht : t ≠ 5) : Blk y k (.cells cs t (0, 0)) :=
  h.2 k _ hb (fun e => hk (Option.some.inj e)) (fun c fz e => ht (by cases e; rfl))
theorem BK.size {b B : Nat} {x y : World} (h : BK b B x y) : x.heap.size ≤ y.heap.size := h.1.size
theorem Bd.new (w : World) : Bd w.heap.size w.heap.size [] (w.alloc (.cells #[.pointer none, .slice none 0 0] 73)) := Lib.IsBuilderF.of (Lib.fresh_isBuilder _ _ w)
theorem Bd.alloc {b B : Nat} {l : Bs} {w : World} (h : Bd b B l w) (o : Obj) : Bd b B l (w.alloc o) := Lib.IsBuilderF.alloc h o
theorem strCells_bytes (s : ByteArray) : Lib.strCells s = Lib.byteCells s.data.toList := rfl
theorem wbyte_is {b B : Nat} {l : Bs} {w : World} (c : UInt8) (h : Bd b B l w) (hl : l.length ≤ 100000) (hB : B ≤ w.heap.size) :
    Calls Try.prog 70 #[.pointer (some ⟨b, 0, none⟩), .int .u8 (c.toNat : Int)] w fun e w' => e = .returned .nilIface ∧ Bd b B (l ++ [c]) w' ∧ BK b B w w' := by
  refine (sh_Builder_WriteByte_k B b (Lib.byteCells l) c.toNat w h (by rw [Lib.byteCells_length]; omega) hB).mono ?_
  rintro e w' ⟨rfl, h1, h2, h3⟩
  refine ⟨rfl, ?_, h2, h3⟩
  unfold Bd
  rw [Lib.byteCells_append]
  exact .inr h1
theorem wstr_is {b B : Nat} {l : Bs} {w : World} (s : ByteArray) (h : Bd b B l w) (hl : l.length ≤ 100000) (hs : s.size ≤ 100000) (hB : B ≤ w.heap.size) :
    Calls Try.prog 50 #[.pointer (some ⟨b, 0, none⟩), .string s] w fun e w' => e = .returned (.tuple #[.int .i64 s.size, .nilIface]) ∧ Bd b B (l ++ s.data.toList) w' ∧ BK b B w w' := by
  refine (sh_Builder_WriteString_k B b (Lib.byteCells l) s w h (by rw [Lib.byteCells_length]; omega) hB).mono ?_
  rintro e w' ⟨rfl, h1, h2, h3⟩
  refine ⟨rfl, ?_, h2, h3⟩
  unfold Bd
  rw [Lib.byteCells_append]
  exact .inr h1
theorem bstr_is {b B : Nat} {l : Bs} {w : World} (h : Bd b B l w) (hB : B ≤ w.heap.size) :
    Calls Try.prog 52 #[.pointer (some ⟨b, 0, none⟩)] w fun e w' => e = .returned (.string (mkS l)) ∧ BK b B w w' := by
  refine (sh_Builder_String_any_k B b l w h hB).mono ?_
  rintro e w' ⟨rfl, h1, h2, h3⟩
  exact ⟨rfl, h2, h3⟩

/-! ### The bytes that are quoted -/
theorem index_mem (c : UInt8) : ∀ l : Bs, 0 ≤ Lib.indexByte l c ↔ c ∈ l
  | [] => by simp [Lib.indexByte]
  | b :: l => by
    have ih := index_mem c l
    have hg := Lib.indexByte_ge l c
    rw [Lib.indexByte, List.mem_cons]
    by_cases hb : b = c
    · subst hb; simp
    · have h1 : (b == c) = false := by simpa using hb
      rw [h1, if_neg (by simp)]
      by_cases h2 : Lib.indexByte l c = -1
      · have h3 : (Lib.indexByte l c == -1) = true := by simpa using h2
        rw [h3, if_pos rfl]
        constructor
        · intro h; omega
        · rintro (h | h)
          · exact absurd h.symm hb
          · have := ih.2 h; omega
      · have h3 : (Lib.indexByte l c == -1) = false := by simpa using h2
        rw [h3, if_neg (by simp)]
        constructor
        · intro h; exact .inr (ih.1 (by omega))
        · rintro (h | h)
          · exact absurd h.symm hb
          · have := ih.2 h; omega
theorem u8_eq (c k : UInt8) : c = k ↔ c.toNat = k.toNat := ⟨fun h => by rw [h], fun h => UInt8.toNat_inj.1 h⟩
theorem index_spc (c : UInt8) : 0 ≤ Lib.indexByte [92, 91, 93, 123, 125] c ↔ spc c = true := by
  rw [index_mem]
  unfold spc
  simp only [List.mem_cons, List.not_mem_nil, or_false, Bool.or_eq_true, decide_eq_true_eq, u8_eq c]
  show _ ↔ _
  simp only [UInt8.reduceToNat, or_assoc]
theorem spec_is {c : UInt8} {q : Bool} {w : World} (hq : spc c = q) :
    Calls Try.prog 69 #[.string ⟨#[92, 91, 93, 123, 125]⟩, .int .u8 (c.toNat : Int)] w fun e w' => ∃ r : Int, e = .returned (.int .i64 r) ∧ decide (0 ≤ r) = q ∧ w' = w := by
  refine (sh_strings_IndexByte ⟨#[92, 91, 93, 123, 125]⟩ c.toNat w).mono ?_
  rintro e w' ⟨rfl, rfl⟩
  refine ⟨_, rfl, ?_, rfl⟩
  rw [← hq, Bool.eq_iff_iff, decide_eq_true_eq, ← index_spc]
  have : ((c.toNat : Int).toNat).toUInt8 = c := by simp
  rw [this]
set_option maxRecDepth 100000 in
set_option maxHeartbeats 4000000 in
theorem brackets_is {k : Int} {w : World} :
    Calls Try.prog 49 #[.int .i64 k] w fun e w' => e = .returned (.tuple #[.string (mkS (lead k)), .string (mkS (trail k))]) ∧ w' = w := by
  by_cases h1 : k = 1
  · subst h1
    go_enter Try.func49, Try.ntmps49
    go_wp2_with fail
    go_ret2
    exact ⟨rfl, rfl⟩
  by_cases h2 : k = 2
  · subst h2
    go_enter Try.func49, Try.ntmps49
    go_wp2_with fail
    go_ret2
    exact ⟨rfl, rfl⟩
  have q1 : (k == 1) = false := by simpa using h1
  have q2 : (k == 2) = false := by simpa using h2
  have hl : lead k = [] := by rw [lead, if_neg h1, if_neg h2]
  have ht : trail k = [] := by rw [trail, if_neg h1, if_neg h2]
  rw [hl, ht]
  clear hl ht
  go_enter Try.func49, Try.ntmps49
  go_wp2_with fail
  go_ret2
  exact ⟨rfl, rfl⟩
theorem quote_snoc (l : Bs) (c : UInt8) : quoteL (l ++ [c]) = quoteL l ++ (if spc c then [92, c] else [c]) := by rw [quote_app, quote_cons]; simp [quoteL]
theorem quote_take (l : Bs) (j : Nat) : (quoteL (l.take j)).length ≤ (quoteL l).length := by
  conv => rhs; rw [← List.take_append_drop j l, quote_app, List.length_append]
  omega
set_option maxRecDepth 100000 in
set_option maxHeartbeats 8000000 in
theorem quoted_any (s : ByteArray) (b B : Nat) (acc : Bs) (w : World) (hB : Bd b B acc w) (hl : acc.length + (quoteL s.data.toList).length ≤ 90000) (hBw : B ≤ w.heap.size) :
    Calls Try.prog 51 #[.pointer (some ⟨b, 0, none⟩), .string s] w fun e w' => e = .returned (.tuple #[]) ∧ Bd b B (acc ++ quoteL s.data.toList) w' ∧ BK b B w w' := by
  have hsz := (quote_len s.data.toList).1
  rw [← size_len] at hsz
  have HB := Lib.hid hB; clear hB
  go_enter Try.func51, Try.ntmps51
  go_wp2_with fail
  go_loopw [7] (fun v7 wr => ∃ j : Nat, j ≤ s.size ∧ v7 = .int .i64 j ∧ Bd b B (acc ++ quoteL (s.data.toList.take j)) wr ∧ BK b B w wr) (fun v7 _ => s.size - (intOf v7).toNat)
  case atStart => exact ⟨0, Nat.zero_le _, rfl, by simpa [quoteL] using HB.out, BK.refl _ _ _⟩
  case round =>
    obtain ⟨j, hj, rfl, hb, hk⟩ := hrel
    have HB1 := Lib.hid hb; have HK := Lib.hid hk; have hB1 : B ≤ wr.heap.size := Nat.le_trans hBw hk.size; clear hb hk
    by_cases hlt : j < s.size
    · have hq := quote_take s.data.toList j
      have hst : quoteL (s.data.toList.take (j + 1)) = quoteL (s.data.toList.take j) ++ (if spc s[j] then [92, s[j]] else [s[j]]) := by rw [take_succ_of (byte_at hlt), quote_snoc]
      have hlen : (acc ++ quoteL (s.data.toList.take j)).length ≤ 90000 := by rw [List.length_append]; omega
      cases hc : spc s[j] with
      | true =>
        rw [hc, if_pos rfl] at hst
        have HST := Lib.hid hst; have HC := Lib.hid hc; clear hst hc
        go_wp2_with fail
        refine (spec_is HC.out).mono ?_
        rintro e w1 ⟨r, rfl, hr, rfl⟩
        have hr' : 0 ≤ r := by simpa using hr
        clear hr
        go_wp2_with fail
        refine (wbyte_is 92 HB1.out (by omega) hB1).mono ?_
        rintro e w2 ⟨rfl, hb, hk⟩
        have HB2 := Lib.hid hb; have HK2 := Lib.hid (HK.out.trans hk); have hB2 := Nat.le_trans hB1 hk.size; clear hb hk
        go_wp2_with fail
        refine (wbyte_is s[j] HB2.out (by rw [List.length_append]; simp; omega) hB2).mono ?_
        rintro e w3 ⟨rfl, hb, hk⟩
        have HB3 := Lib.hid hb; have HK3 := Lib.hid (HK2.out.trans hk); clear hb hk
        go_wp2_with fail
        go_roundw
        case rel =>
          refine ⟨j + 1, by omega, by go_num, ?_, HK3.out⟩
          have := HB3.out
          rw [HST.out]; simpa [List.append_assoc] using this
        case measure => simp [intOf]; omega
      | false =>
        rw [hc, if_neg (by simp)] at hst
        have HST := Lib.hid hst; have HC := Lib.hid hc; clear hst hc
        go_wp2_with fail
        refine (spec_is HC.out).mono ?_
        rintro e w1 ⟨r, rfl, hr, rfl⟩
        have hr' : ¬ (0 ≤ r) := by simpa using hr
        clear hr
        go_wp2_with fail
        refine (wbyte_is s[j] HB1.out (by omega) hB1).mono ?_
        rintro e w3 ⟨rfl, hb, hk⟩
        have HB3 := Lib.hid hb; have HK3 := Lib.hid (HK.out.trans hk); clear hb hk
        go_wp2_with fail
        go_roundw
        case rel =>
          refine ⟨j + 1, by omega, by go_num, ?_, HK3.out⟩
          have := HB3.out
          rw [HST.out]; simpa [List.append_assoc] using this
        case measure => simp [intOf]; omega
    · go_wp2_with fail
      go_end0
      have h9 := HB1.out
      rw [List.take_of_length_le (by rw [← size_len]; omega)] at h9
      exact ⟨rfl, h9, HK.out⟩
end Go.Proofs.Ytmmppfopokbcfaa
