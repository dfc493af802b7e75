/- The order on keys; contracts of the leaves: Priority and ahead (both), long (both), strings.Compare, node. -/
import Derived.Test.YtbjniaihkllmdaaTrBase
namespace Go.Proofs.Ytbjniaihkllmdaa
open Go.RowKit

/-! ### The order on keys -/
def klt (a b : ByteArray) : Bool := Op.bytesLess a.toList b.toList
theorem bl_irrefl : ∀ x : List UInt8, Op.bytesLess x x = false
  | [] => rfl
  | a :: x => by simp [Op.bytesLess, UInt8.lt_irrefl, bl_irrefl x]
theorem bl_trans : ∀ x y z : List UInt8, Op.bytesLess x y = true → Op.bytesLess y z = true → Op.bytesLess x z = true
  | _, _, [], _, h => by simp [Op.bytesLess] at h
  | _, [], _ :: _, h, _ => by simp [Op.bytesLess] at h
  | [], _ :: _, _ :: _, _, _ => rfl
  | a :: x, b :: y, c :: z, h1, h2 => by
    simp only [Op.bytesLess, Bool.or_eq_true, decide_eq_true_eq, Bool.and_eq_true, beq_iff_eq] at h1 h2 ⊢
    rcases h1 with h1 | ⟨rfl, h1⟩
    · rcases h2 with h2 | ⟨rfl, h2⟩
      · exact .inl (UInt8.lt_trans h1 h2)
      · exact .inl h1
    · rcases h2 with h2 | ⟨rfl, h2⟩
      · exact .inl h2
      · exact .inr ⟨rfl, bl_trans x y z h1 h2⟩
theorem bl_tri : ∀ x y : List UInt8, Op.bytesLess x y = true ∨ x = y ∨ Op.bytesLess y x = true
  | [], [] => .inr (.inl rfl)
  | [], _ :: _ => .inl rfl
  | _ :: _, [] => .inr (.inr rfl)
  | a :: x, b :: y => by
    simp only [Op.bytesLess, Bool.or_eq_true, decide_eq_true_eq, Bool.and_eq_true, beq_iff_eq, List.cons.injEq]
    by_cases h1 : a < b
    · exact .inl (.inl h1)
    by_cases h2 : b < a
    · exact .inr (.inr (.inl h2))
    have hab : a = b := by
      have h3 := UInt8.not_lt.1 h1; have h4 := UInt8.not_lt.1 h2
      exact UInt8.le_antisymm h4 h3
    subst hab
    rcases bl_tri x y with h | h | h
    · exact .inl (.inr ⟨rfl, h⟩)
    · exact .inr (.inl ⟨rfl, h⟩)
    · exact .inr (.inr (.inr ⟨rfl, h⟩))
theorem klt_irrefl (a : ByteArray) : klt a a = false := bl_irrefl _
theorem klt_trans {a b c : ByteArray} (h : klt a b = true) (k : klt b c = true) : klt a c = true := bl_trans _ _ _ h k
theorem klt_tri (a b : ByteArray) : klt a b = true ∨ a = b ∨ klt b a = true := by
  rcases bl_tri a.toList b.toList with h | h | h
  · exact .inl h
  · exact .inr (.inl (toList_inj h))
  · exact .inr (.inr h)
theorem klt_asymm {a b : ByteArray} (h : klt a b = true) : klt b a = false := by
  cases e : klt b a with
  | false => rfl
  | true => have := klt_trans h e; rw [klt_irrefl] at this; cases this
theorem klt_ne {a b : ByteArray} (h : klt a b = true) : a ≠ b := fun e => by subst e; rw [klt_irrefl] at h; cases h
theorem cmp_lists : ∀ x y : List UInt8, Lib.compareBytes x y = if Op.bytesLess x y then -1 else if x = y then 0 else 1
  | [], [] => rfl
  | [], _ :: _ => rfl
  | _ :: _, [] => by simp [Lib.compareBytes, Op.bytesLess]
  | a :: x, b :: y => by
    simp only [Lib.compareBytes, Op.bytesLess]
    by_cases h1 : a < b
    · simp [h1]
    by_cases h2 : b < a
    · have hne : a ≠ b := fun e => by subst e; exact UInt8.lt_irrefl a h2
      simp [h1, h2, hne]
    have hab : a = b := UInt8.le_antisymm (UInt8.not_lt.1 h2) (UInt8.not_lt.1 h1)
    subst hab
    rw [if_neg h1, if_neg h2, cmp_lists x y]
    simp [UInt8.lt_irrefl]
/-- What strings.Compare says. -/
def cmpV (a b : ByteArray) : Int := if klt a b then -1 else if a = b then 0 else 1

/-! ### Priorities -/
/-- One byte more. -/
def prS (h : Int) (c : UInt8) : Int := IntKind.u64.wrap (bits .xor .u64 h (IntKind.u64.wrap (c.toNat : Int)) * 1099511628211)
def prP (k : ByteArray) : Nat → Int
  | 0 => 14695981039346656037
  | j + 1 => if h : j < k.size then prS (prP k j) k[j] else prP k j
theorem prP_succ {k : ByteArray} {j : Nat} (h : j < k.size) : prP k (j + 1) = prS (prP k j) k[j] := by rw [prP, dif_pos h]
def prE (h : Int) : Int :=
  bits .xor .u64 (IntKind.u64.wrap (bits .xor .u64 h (h / 4294967296) * 11400714819323198485)) (IntKind.u64.wrap (bits .xor .u64 h (h / 4294967296) * 11400714819323198485) / 536870912)
def prV (k : ByteArray) : Int := prE (prP k k.size)
def ahB (a b : ByteArray) : Bool := decide (prV b < prV a) || (prV a == prV b && klt a b)
theorem ah_irrefl (a : ByteArray) : ahB a a = false := by simp [ahB, klt_irrefl]
theorem ah_trans {a b c : ByteArray} (h : ahB a b = true) (k : ahB b c = true) : ahB a c = true := by
  simp only [ahB, Bool.or_eq_true, decide_eq_true_eq, Bool.and_eq_true, beq_iff_eq] at h k ⊢
  rcases h with h | ⟨h, h'⟩ <;> rcases k with k | ⟨k, k'⟩
  · exact .inl (by omega)
  · exact .inl (by omega)
  · exact .inl (by omega)
  · exact .inr ⟨by omega, klt_trans h' k'⟩
theorem ah_tri (a b : ByteArray) : ahB a b = true ∨ a = b ∨ ahB b a = true := by
  simp only [ahB, Bool.or_eq_true, decide_eq_true_eq, Bool.and_eq_true, beq_iff_eq]
  rcases klt_tri a b with h | h | h
  · by_cases h1 : prV b < prV a
    · exact .inl (.inl h1)
    by_cases h2 : prV a < prV b
    · exact .inr (.inr (.inl h2))
    exact .inl (.inr ⟨by omega, h⟩)
  · exact .inr (.inl h)
  · by_cases h1 : prV b < prV a
    · exact .inl (.inl h1)
    by_cases h2 : prV a < prV b
    · exact .inr (.inr (.inl h2))
    exact .inr (.inr (.inr ⟨by omega, h⟩))
theorem ah_asymm {a b : ByteArray} (h : ahB a b = true) : ahB b a = false := by
  cases e : ahB b a with
  | false => rfl
  | true => have := ah_trans h e; rw [ah_irrefl] at this; cases this

set_option maxHeartbeats 4000000 in
theorem prio_any (k : ByteArray) (w : World) (hk : k.size ≤ Reach) :
    Calls Try.prog 17 #[.string k] w fun e w' => e = .returned (.int .u64 (prV k)) ∧ w = w' := by
  unfold Reach at hk
  go_enter Try.func17, Try.ntmps17
  go_wp2_with fail
  go_loop [3, 7] (fun v3 v7 => ∃ (j : Nat) (h : Int), j ≤ k.size ∧ v7 = .int .i64 j ∧ v3 = .int .u64 h ∧ prP k j = h) (fun _ v7 => k.size - (intOf v7).toNat)
  case atStart => exact ⟨0, _, Nat.zero_le _, rfl, rfl, rfl⟩
  case round =>
    obtain ⟨j, h, hj, rfl, rfl, hp⟩ := hrel
    by_cases hlt : j < k.size
    · have hs := prP_succ hlt
      rw [hp] at hs
      have HS := Lib.hid hs; clear hs hp
      go_wp2_with fail
      go_round
      case rel => exact ⟨j + 1, _, by omega, by go_num, rfl, by rw [HS.out]; rfl⟩
      case measure => simp [intOf]; omega
    · obtain rfl : j = k.size := by omega
      have HP := Lib.hid hp; clear hp
      go_wp2_with fail
      go_ret
      exact ⟨ret_int (by rw [prV, HP.out]; rfl), rfl⟩

set_option maxHeartbeats 4000000 in
theorem rprio_any (k : ByteArray) (w : World) (hk : k.size ≤ Reach) :
    Calls Try.prog 18 #[.string k] w fun e w' => e = .returned (.int .u64 (prV k)) ∧ w = w' := by
  unfold Reach at hk
  go_enter Try.func18, Try.ntmps18
  go_wp2_with fail
  go_loop [3, 4] (fun v3 v7 => ∃ (j : Nat) (h : Int), j ≤ k.size ∧ v7 = .int .i64 j ∧ v3 = .int .u64 h ∧ prP k j = h) (fun _ v7 => k.size - (intOf v7).toNat)
  case atStart => exact ⟨0, _, Nat.zero_le _, rfl, rfl, rfl⟩
  case round =>
    obtain ⟨j, h, hj, rfl, rfl, hp⟩ := hrel
    by_cases hlt : j < k.size
    · have hs := prP_succ hlt
      rw [hp] at hs
      have HS := Lib.hid hs; clear hs hp
      go_wp2_with fail
      go_round
      case rel => exact ⟨j + 1, _, by omega, by go_num, rfl, by rw [HS.out]; rfl⟩
      case measure => simp [intOf]; omega
    · obtain rfl : j = k.size := by omega
      have HP := Lib.hid hp; clear hp
      go_wp2_with fail
      go_ret
      exact ⟨ret_int (by rw [prV, HP.out]; rfl), rfl⟩

set_option maxHeartbeats 4000000 in
theorem ahead_any (a b : ByteArray) (w : World) (ha : a.size ≤ Reach) (hb : b.size ≤ Reach) :
    Calls Try.prog 48 #[.string a, .string b] w fun e w' => e = .returned (.bool (ahB a b)) ∧ w = w' := by
  obtain ⟨p, hp⟩ : ∃ p, prV a = p := ⟨_, rfl⟩
  obtain ⟨q, hq⟩ : ∃ q, prV b = q := ⟨_, rfl⟩
  have hv : ahB a b = (decide (q < p) || (p == q && klt a b)) := by rw [ahB, hp, hq]
  have HP := Lib.hid hp; have HQ := Lib.hid hq; have HV := Lib.hid hv; clear hp hq hv
  go_enter Try.func48, Try.ntmps48
  go_wp2_with fail
  refine (prio_any a _ ha).mono ?_
  rintro e w' ⟨rfl, rfl⟩
  rw [HP.out]
  go_wp2_with fail
  refine (prio_any b _ hb).mono ?_
  rintro e w' ⟨rfl, rfl⟩
  rw [HQ.out]
  by_cases h1 : q < p
  · have q1 : decide (q < p) = true := yd h1
    have hv : ahB a b = true := by rw [HV.out, q1]; rfl
    have HV2 := Lib.hid hv; clear hv h1
    go_wp2_with fail
    go_ret
    exact ⟨ret_bool HV2.out.symm, rfl⟩
  have q1 : decide (q < p) = false := nd h1
  by_cases h2 : p = q
  · have q2 : (p == q) = true := by simp [h2]
    have hv : ahB a b = Op.bytesLess a.toList b.toList := by rw [HV.out, q1, q2]; rfl
    have HV2 := Lib.hid hv; clear hv h1 h2
    go_wp2_with fail
    go_ret
    exact ⟨ret_bool HV2.out.symm, rfl⟩
  have q2 : (p == q) = false := by simp [h2]
  have hv : ahB a b = false := by rw [HV.out, q1, q2]; rfl
  have HV2 := Lib.hid hv; clear hv h1 h2
  go_wp2_with fail
  go_ret
  exact ⟨ret_bool HV2.out.symm, rfl⟩
theorem ahead_is {a b : ByteArray} {r : Bool} {w : World} (h : ahB a b = r) (ha : a.size ≤ Reach) (hb : b.size ≤ Reach) :
    Calls Try.prog 48 #[.string a, .string b] w fun e w' => e = .returned (.bool r) ∧ w = w' := by
  subst h; exact ahead_any a b w ha hb

set_option maxHeartbeats 4000000 in
theorem rahead_any (a b : ByteArray) (w : World) (ha : a.size ≤ Reach) (hb : b.size ≤ Reach) :
    Calls Try.prog 66 #[.string a, .string b] w fun e w' => e = .returned (.bool (ahB a b)) ∧ w = w' := by
  obtain ⟨p, hp⟩ : ∃ p, prV a = p := ⟨_, rfl⟩
  obtain ⟨q, hq⟩ : ∃ q, prV b = q := ⟨_, rfl⟩
  have hv : ahB a b = (decide (q < p) || (p == q && klt a b)) := by rw [ahB, hp, hq]
  have HP := Lib.hid hp; have HQ := Lib.hid hq; have HV := Lib.hid hv; clear hp hq hv
  go_enter Try.func66, Try.ntmps66
  go_wp2_with fail
  refine (rprio_any a _ ha).mono ?_
  rintro e w' ⟨rfl, rfl⟩
  rw [HP.out]
  go_wp2_with fail
  refine (rprio_any b _ hb).mono ?_
  rintro e w' ⟨rfl, rfl⟩
  rw [HQ.out]
  by_cases h1 : q < p
  · have q1 : decide (q < p) = true := yd h1
    have hv : ahB a b = true := by rw [HV.out, q1]; rfl
    have HV2 := Lib.hid hv; clear hv h1
    go_wp2_with fail
    go_ret
    exact ⟨ret_bool HV2.out.symm, rfl⟩
  have q1 : decide (q < p) = false := nd h1
  by_cases h2 : p = q
  · have q2 : (p == q) = true := by simp [h2]
    have hv : ahB a b = Op.bytesLess a.toList b.toList := by rw [HV.out, q1, q2]; rfl
    have HV2 := Lib.hid hv; clear hv h1 h2
    go_wp2_with fail
    go_ret
    exact ⟨ret_bool HV2.out.symm, rfl⟩
  have q2 : (p == q) = false := by simp [h2]
  have hv : ahB a b = false := by rw [HV.out, q1, q2]; rfl
  have HV2 := Lib.hid hv; clear hv h1 h2
  go_wp2_with fail
  go_ret
  exact ⟨ret_bool HV2.out.symm, rfl⟩
theorem rahead_is {a b : ByteArray} {r : Bool} {w : World} (h : ahB a b = r) (ha : a.size ≤ Reach) (hb : b.size ≤ Reach) :
    Calls Try.prog 66 #[.string a, .string b] w fun e w' => e = .returned (.bool r) ∧ w = w' := by
  subst h; exact rahead_any a b w ha hb

/-- Is a pair too long? -/
def lgB (k v : ByteArray) : Bool := decide (40 < k.size) || decide (1000 < v.size)
theorem long_any (k v : ByteArray) (w : World) : Calls Try.prog 46 #[.string k, .string v] w fun e w' => e = .returned (.bool (lgB k v)) ∧ w = w' := by
  by_cases h1 : 40 < k.size
  · have q1 : decide (40 < k.size) = true := yd h1
    have q2 : decide ((40 : Int) < (k.size : Int)) = true := yd (by omega)
    have hv : lgB k v = true := by rw [lgB, q1]; rfl
    have HV := Lib.hid hv; clear hv h1
    go_enter Try.func46, Try.ntmps46
    go_wp2_with fail
    go_ret
    exact ⟨ret_bool HV.out.symm, rfl⟩
  · have q1 : decide (40 < k.size) = false := nd h1
    have q2 : decide ((40 : Int) < (k.size : Int)) = false := nd (by omega)
    have q3 : decide ((1000 : Int) < (v.size : Int)) = decide (1000 < v.size) := by simp; omega
    have hv : lgB k v = decide (1000 < v.size) := by rw [lgB, q1]; rfl
    have HV := Lib.hid hv; clear hv h1
    go_enter Try.func46, Try.ntmps46
    go_wp2_with fail
    go_ret
    refine ⟨ret_bool ?_, rfl⟩
    rw [HV.out]; try exact q3
theorem rlong_any (k v : ByteArray) (w : World) : Calls Try.prog 51 #[.agg #[.string k, .string v]] w fun e w' => e = .returned (.bool (lgB k v)) ∧ Ext w w' := by
  have hb : Blk (w.alloc (.cells #[.string k, .string v] 34)) w.heap.size (.cells #[.string k, .string v] 34) := Blk.new w _ rfl
  have c0 := hb.cell 0
  have c1 := hb.cell 1
  simp only [List.getElem?_toArray, List.getElem?_cons_zero, List.getElem?_cons_succ] at c0 c1
  have hE : Ext w (w.alloc (.cells #[.string k, .string v] 34)) := (Ext.refl w).alloc _
  have HE := Lib.hid hE; clear hb hE
  by_cases h1 : 40 < k.size
  · have q1 : decide (40 < k.size) = true := yd h1
    have q2 : decide ((40 : Int) < (k.size : Int)) = true := yd (by omega)
    have hv : lgB k v = true := by rw [lgB, q1]; rfl
    have HV := Lib.hid hv; clear hv h1
    go_enter Try.func51, Try.ntmps51
    go_wp2_with fail
    go_ret
    exact ⟨ret_bool HV.out.symm, HE.out⟩
  · have q1 : decide (40 < k.size) = false := nd h1
    have q2 : decide ((40 : Int) < (k.size : Int)) = false := nd (by omega)
    have hv : lgB k v = decide (1000 < v.size) := by rw [lgB, q1]; rfl
    have HV := Lib.hid hv; clear hv h1
    go_enter Try.func51, Try.ntmps51
    go_wp2_with fail
    go_ret
    refine ⟨ret_bool ?_, HE.out⟩
    rw [HV.out]; try (simp only [decide_eq_decide]; omega)
set_option maxRecDepth 100000 in
theorem ecmp_any (a b : ByteArray) (w : World) : Calls Try.prog 70 #[.string a, .string b] w fun e w' => e = .returned (.int .i64 (Lib.compareBytes a.data.toList b.data.toList)) ∧ w = w' := by
  go_enter Try.func70, Try.ntmps70
  go_wp2
  rw [run_callFunc_extern Try.func71 (by kernel_rfl) (by kernel_rfl) (by kernel_rfl) (e := Extern.BytealgCompare.compare) (by kernel_rfl), Lib.run_compareString]
  simp only [Result.andThen]
  rw [Oper.upon_value]
  go_wp2
  go_ret
  exact ⟨rfl, rfl⟩
theorem compare_any (a b : ByteArray) (w : World) : Calls Try.prog 67 #[.string a, .string b] w fun e w' => e = .returned (.int .i64 (cmpV a b)) ∧ w = w' := by
  have hv : Lib.compareBytes a.data.toList b.data.toList = cmpV a b := by
    rw [cmp_lists, cmpV, klt, ByteArray.toList_eq, ByteArray.toList_eq]
    congr 1
    by_cases h : a = b
    · simp [h]
    · have h2 : a.data.toList ≠ b.data.toList := fun e => h (toList_inj (by rw [ByteArray.toList_eq, ByteArray.toList_eq]; exact e))
      simp [h, h2]
  have HV := Lib.hid hv; clear hv
  go_enter Try.func67, Try.ntmps67
  go_wp2_with fail
  refine (ecmp_any a b _).mono ?_
  rintro e w' ⟨rfl, rfl⟩
  rw [HV.out]
  go_wp2_with fail
  go_ret
  exact ⟨rfl, rfl⟩

/-! ### node -/
theorem node_any {l r : BT} {k v : ByteArray} {Al : Option Addr} {nl : Nat} (cl : Nat) {Ar : Option Addr} {nr : Nat} (cr : Nat) {w : World} (hk : k.size ≤ Reach) (hv : v.size ≤ Reach) (hl : BAt w l Al nl) (hr : BAt w r Ar nr) :
    Calls Try.prog 68 #[.string k, .string v, .slice Al nl cl, .slice Ar nr cr] w fun e w' => ∃ g, e = .returned (.slice (some ⟨g, 0, none⟩) 1 1) ∧ BAt w' (.node l k v r) (some ⟨g, 0, none⟩) 1 ∧ Ext w w' := by
  have HL := Lib.hid hl; have HR := Lib.hid hr; clear hl hr
  go_enter Try.func68, Try.ntmps68
  go_wp2_with fail
  go_ret
  have hE : Ext w (w.alloc (nodeObj k v Al nl cl Ar nr cr)) := (Ext.refl w).alloc _
  exact ⟨w.heap.size, rfl, BAt.mk (Blk.new w _ rfl) hk hv (HL.out.ext hE) (HR.out.ext hE), hE⟩
end Go.Proofs.Ytbjniaihkllmdaa
