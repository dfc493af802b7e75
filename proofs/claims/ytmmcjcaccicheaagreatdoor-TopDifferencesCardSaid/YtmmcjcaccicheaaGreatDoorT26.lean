/- UdLeaf UdCho UdShelf: parts of the proof of TopDifferences, one text behind the other. No condition. -/
import Derived.Test.YtmmcjcaccicheaaGreatDoorT25
import Derived.Test.YtmmcjcaccicheaaGreatDoorT08
import Derived.Shelf.Strings.BuilderK
import Derived.Shelf.Small.Strs
import Derived.Shelf.Small.Wraps
import Derived.Shelf.Strconv.Atoi
import Derived.Shelf.Strconv.Itoa3
import Derived.Shelf.Strings.Search3
import Derived.Shelf.Strings.Cut
import Derived.Shelf.Strings.Prefix
import Derived.Test.YtmmcjcaccicheaaGreatDoorT01
/- Contracts of unified's small functions: inRange, distance, chosen, signed. -/
namespace Go.Proofs.YtmmcjcaccicheaaGreatDoor
open Go.RowKit

set_option maxHeartbeats 400000 in
theorem inrange_is {n : Int} {w : World} (h0 : 0 ≤ n) (h1 : n ≤ 1099511627776) :
    Calls Tryz.prog 45 #[.int .i64 n] w fun e w' => e = .returned (.bool true) ∧ w' = w := by
  go_enter Tryz.func45, Tryz.ntmps45
  go_wp2_with fail
  go_ret
  exact ⟨rfl, rfl⟩
set_option maxHeartbeats 400000 in
theorem distance_is {a b d : Int} {w : World} (ha : 0 ≤ a) (hb : 0 ≤ b) (ha' : a ≤ 1099511627776) (hb' : b ≤ 1099511627776) (hd : max a b - min a b = d) :
    Calls Tryz.prog 69 #[.int .i64 a, .int .i64 b] w fun e w' => e = .returned (.int .i64 d) ∧ w' = w := by
  have HD := Lib.hid hd; clear hd
  go_enter Tryz.func69, Tryz.ntmps69
  go_wp2_with fail
  all_goals go_ret
  all_goals exact ⟨ret_int (by have := HD.out; omega), rfl⟩

/-! ### Lines with a sign ahead -/
def sgS (t : Tg) : ByteArray := ⟨#[sgn t]⟩
theorem sg_app (t : Tg) (s : ByteArray) : sgS t ++ s = lnS ⟨t, s⟩ := by
  have h : (sgS t ++ s).data = (lnS ⟨t, s⟩).data := by
    rw [ByteArray.data_append]; unfold sgS lnS; apply Array.toList_inj.1; simp
  cases hx : sgS t ++ s; cases hy : lnS ⟨t, s⟩
  rw [hx, hy] at h; simpa using h
set_option maxHeartbeats 1000000 in
theorem signed_any (t : Tg) (sg : ByteArray) (hsg : sg = sgS t) (A : Option Addr) (n c : Nat) (l : Lns) (w : World) (hl : Strs w A n l) (hn : n ≤ 100000) (hs : ∀ s ∈ l, s.size ≤ 100000) :
    Calls Tryz.prog 39 #[.string sg, .slice A n c] w fun e w' => Ext w w' ∧ ∃ v, e = .returned v ∧ w'.ownsRow w.heap.size 9 1 v n ((l.map fun s => lnS ⟨t, s⟩).map Value.string) := by
  obtain ⟨inf, i1, i2, i3, i4⟩ := info_of infoS
  have I1 := Lib.hid i1; have I2 := Lib.hid i2; have I3 := Lib.hid i3; have I4 := Lib.hid i4; clear i1 i2 i3 i4
  have hz : sg.size = 1 := by rw [hsg]; rfl
  have HL := Lib.hid hl; have HS := Lib.hid hs; have HSG := Lib.hid hsg; clear hl hs hsg
  go_enter Tryz.func39, Tryz.ntmps39
  go_wp2_with fail
  go_loopw [5, 10] (fun v i wr => ∃ k : Nat, k ≤ n ∧ i = .int .i64 k ∧ Ext w wr ∧ wr.ownsRow w.heap.size 9 1 v k (((l.take k).map fun s => lnS ⟨t, s⟩).map Value.string)) (fun _ i _ => n - (intOf i).toNat)
  case atStart => exact ⟨0, Nat.zero_le _, rfl, Ext.refl _, World.ownsRow_nil _ _ _ _⟩
  case round =>
    obtain ⟨k, hk, rfl, hE, hO⟩ := hrel
    have HE := Lib.hid hE; have HO := Lib.hid hO; clear hE hO
    by_cases hlt : k < n
    · obtain ⟨b, off, s, rfl, hb1, hs1, hs2, hc1⟩ := (HL.out.ext HE.out).get hlt
      have hs3 := HS.out s (mem_of_get hs1)
      have HS1 := Lib.hid hs1; clear hs1
      unfold Reach at hs2
      go_wp2_with (at_builtin; refine wpList_append_size rfl (.tmp 14) (.tmp 18) 22 rfl w.heap.size 9 inf _ 1 16 underSs I1.out I2.out I3.out I4.out rfl (by decide) _ k (((l.take k).map fun s => lnS ⟨t, s⟩).map Value.string) (some ⟨wr.heap.size, 0, none⟩) 1 1 [.string (sg ++ s)] rfl rfl rfl (by intro u hu; simp at hu; subst hu; rfl) (by simp only [maxLen]; omega) (by omega) (own_stab3 ((Ext.refl wr).alloc _) HO.out) (Cells.new wr _ [_] rfl) (by have := HE.out.size; simp; omega) ?_; intro v2 w2 hown2 hg2)
      have HO3 := Lib.hid hown2; have HE3 := Lib.hid ((HE.out.alloc _).own3 (own_stab3 ((Ext.refl wr).alloc (.cells #[.string (sg ++ s)] 9)) HO.out) hg2); clear hown2 hg2
      go_wp2_with fail
      go_roundw
      case rel =>
        refine ⟨k + 1, by omega, by go_num, HE3.out, ?_⟩
        have := HO3.out
        rw [HSG.out, sg_app] at this
        rw [take_succ_of HS1.out]
        simpa using this
      case measure => simp [intOf]; omega
    · go_wp2_with fail
      go_ret
      have := HO.out
      obtain rfl : k = n := by omega
      rw [List.take_of_length_le (by rw [HL.out.1]; omega)] at this
      exact ⟨HE.out, _, rfl, this⟩
end Go.Proofs.YtmmcjcaccicheaaGreatDoor
/- The contract of chosen. -/
namespace Go.Proofs.YtmmcjcaccicheaaGreatDoor
open Go.RowKit

theorem ln_byte (x : Ln) (h : 0 < (lnS x).size) : (lnS x)[0] = sgn x.t := by
  show (lnS x).data[0] = _
  simp [lnS]
theorem ln_tail (x : Ln) : (lnS x).extract 1 (lnS x).size = x.s := by
  have h : ((lnS x).extract 1 (lnS x).size).data = x.s.data := by
    rw [ByteArray.data_extract]
    apply Array.toList_inj.1
    rw [lnS_size]
    simp only [lnS, Array.toList_extract]
    show (x.s.data.toList).take (x.s.size + 1 - 1) = _
    rw [List.take_of_length_le (by simp)]
  cases hx : (lnS x).extract 1 (lnS x).size; cases hy : x.s
  rw [hx, hy] at h; simpa using h
/-- The lines that a side of a block has. -/
def choB (t : Tg) (b : Bdy) : Lns := match t with
  | .del => oldB b
  | _ => newB b
theorem choB_snoc (t : Tg) (b : Bdy) (x : Ln) (ht : t ≠ .ctx) : choB t (b ++ [x]) = choB t b ++ (if x.t = .ctx ∨ x.t = t then [x.s] else []) := by
  obtain ⟨y, s⟩ := x
  cases t
  · exact absurd rfl ht
  · simp only [choB, oldB_app]; cases y <;> simp [oldB]
  · simp only [choB, newB_app]; cases y <;> simp [newB]
theorem sgn_eq (a b : Tg) : ((((sgn a).toNat : Nat) : Int) == (((sgn b).toNat : Nat) : Int)) = decide (a = b) := by cases a <;> cases b <;> rfl
theorem choB_le (t : Tg) (b : Bdy) : (choB t b).length ≤ b.length := by
  have h1 := c_old b; have h2 := c_new b; have h3 := c_le b
  unfold choB
  split <;> omega
set_option maxHeartbeats 2000000 in
theorem chosen_any (t : Tg) (ht : t ≠ .ctx) (sg : Int) (hsg : sg = ((sgn t).toNat : Int)) (A : Option Addr) (n c : Nat) (l : Bdy) (w : World) (hl : Strs w A n (l.map lnS)) (hn : n ≤ 100000) :
    Calls Tryz.prog 47 #[.slice A n c, .int .u8 sg] w fun e w' => Ext w w' ∧ ∃ v, e = .returned v ∧ w'.ownsRow w.heap.size 9 1 v (choB t l).length ((choB t l).map Value.string) := by
  obtain ⟨inf, i1, i2, i3, i4⟩ := info_of infoS
  have I1 := Lib.hid i1; have I2 := Lib.hid i2; have I3 := Lib.hid i3; have I4 := Lib.hid i4; clear i1 i2 i3 i4
  have hlen : l.length = n := by simpa using hl.1
  have HL := Lib.hid hl; have HN := Lib.hid hlen; have HT := Lib.hid ht; have HSG := Lib.hid hsg; clear hl hlen ht hsg
  go_enter Tryz.func47, Tryz.ntmps47
  go_wp2_with fail
  go_loopw [5, 10] (fun v i wr => ∃ k : Nat, k ≤ n ∧ i = .int .i64 k ∧ Ext w wr ∧ wr.ownsRow w.heap.size 9 1 v (choB t (l.take k)).length ((choB t (l.take k)).map Value.string)) (fun _ i _ => n - (intOf i).toNat)
  case atStart => exact ⟨0, Nat.zero_le _, rfl, Ext.refl _, by cases t <;> exact World.ownsRow_nil _ _ _ _⟩
  case round =>
    obtain ⟨k, hk, rfl, hE, hO⟩ := hrel
    have HE := Lib.hid hE; have HO := Lib.hid hO; clear hE hO
    by_cases hlt : k < n
    · obtain ⟨b, off, s, rfl, hb1, hs1, hs2, hc1⟩ := (HL.out.ext HE.out).get hlt
      obtain ⟨x, hx⟩ : ∃ x, l[k]? = some x := ⟨_, List.getElem?_eq_getElem (by rw [HN.out]; exact hlt)⟩
      have hs : lnS x = s := by rw [List.getElem?_map, hx] at hs1; simpa using hs1
      have hsz : 0 < s.size := by rw [← hs, lnS_size]; omega
      have hb0 : s[0] = sgn x.t := by subst hs; exact ln_byte x _
      have hb : ((s[0].toNat : Int) == 32) = decide (x.t = .ctx) := by rw [hb0]; exact sgn_eq x.t .ctx
      have hb' : ((s[0].toNat : Int) == sg) = decide (x.t = t) := by rw [hb0, HSG.out]; exact sgn_eq x.t t
      have htl : s.extract 1 s.size = x.s := by rw [← hs]; exact ln_tail x
      have hle : (choB t (l.take k)).length ≤ n := Nat.le_trans (choB_le _ _) (by rw [List.length_take]; omega)
      have hsn := choB_snoc t (l.take k) x HT.out
      have HSN := Lib.hid hsn; have HX := Lib.hid hx; have HTL := Lib.hid htl
      unfold Reach at hs2
      clear hs1 hx hs hb0 htl hsn
      by_cases hsel : x.t = .ctx ∨ x.t = t
      · have HSEL := Lib.hid hsel
        have step : ∀ (v2 : Value) (w2 : World), w2.ownsRow w.heap.size 9 1 v2 ((choB t (l.take k)).length + 1) ((choB t (l.take k)).map Value.string ++ [.string (s.extract 1 s.size)]) → w2.ownsRow w.heap.size 9 1 v2 (choB t (l.take (k + 1))).length ((choB t (l.take (k + 1))).map Value.string) := by
          intro v2 w2 h
          rw [HTL.out] at h
          rw [take_succ_of HX.out, HSN.out, if_pos HSEL.out]
          simpa using h
        have STEP := Lib.hid step; clear step
        have main : ∀ (c1 c2 : Bool), decide (x.t = .ctx) = c1 → decide (x.t = t) = c2 → (c1 || c2) = true → True := fun _ _ _ _ _ => trivial
        clear main
        cases h1 : decide (x.t = .ctx) with
        | true =>
          rw [h1] at hb
          clear hsel h1 hb'
          go_wp2_with (at_builtin; refine wpList_append_size rfl (.tmp 23) (.tmp 26) 22 rfl w.heap.size 9 inf _ 1 16 underSs I1.out I2.out I3.out I4.out rfl (by decide) _ (choB t (l.take k)).length ((choB t (l.take k)).map Value.string) (some ⟨wr.heap.size, 0, none⟩) 1 1 [.string (s.extract 1 s.size)] rfl rfl rfl (by intro u hu; simp at hu; subst hu; rfl) (by simp only [maxLen]; omega) (by omega) (own_stab3 ((Ext.refl wr).alloc _) HO.out) (Cells.new wr _ [_] rfl) (by have := HE.out.size; simp; omega) ?_; intro v2 w2 hown2 hg2)
          have HO3 := Lib.hid hown2; have HE3 := Lib.hid ((HE.out.alloc _).own3 (own_stab3 ((Ext.refl wr).alloc (.cells #[.string (s.extract 1 s.size)] 9)) HO.out) hg2); clear hown2 hg2
          go_wp2_with fail
          go_roundw
          case rel => exact ⟨k + 1, by omega, by go_num, HE3.out, STEP.out _ _ HO3.out⟩
          case measure => simp [intOf]; omega
        | false =>
          have h2 : decide (x.t = t) = true := by
            rcases hsel with h | h
            · simp [h] at h1
            · simp [h]
          rw [h1] at hb; rw [h2] at hb'
          clear hsel h1 h2
          go_wp2_with (at_builtin; refine wpList_append_size rfl (.tmp 23) (.tmp 26) 22 rfl w.heap.size 9 inf _ 1 16 underSs I1.out I2.out I3.out I4.out rfl (by decide) _ (choB t (l.take k)).length ((choB t (l.take k)).map Value.string) (some ⟨wr.heap.size, 0, none⟩) 1 1 [.string (s.extract 1 s.size)] rfl rfl rfl (by intro u hu; simp at hu; subst hu; rfl) (by simp only [maxLen]; omega) (by omega) (own_stab3 ((Ext.refl wr).alloc _) HO.out) (Cells.new wr _ [_] rfl) (by have := HE.out.size; simp; omega) ?_; intro v2 w2 hown2 hg2)
          have HO3 := Lib.hid hown2; have HE3 := Lib.hid ((HE.out.alloc _).own3 (own_stab3 ((Ext.refl wr).alloc (.cells #[.string (s.extract 1 s.size)] 9)) HO.out) hg2); clear hown2 hg2
          go_wp2_with fail
          go_roundw
          case rel => exact ⟨k + 1, by omega, by go_num, HE3.out, STEP.out _ _ HO3.out⟩
          case measure => simp [intOf]; omega
      · have h1 : decide (x.t = .ctx) = false := decide_eq_false (fun h => hsel (.inl h))
        have h2 : decide (x.t = t) = false := decide_eq_false (fun h => hsel (.inr h))
        rw [h1] at hb; rw [h2] at hb'
        have HSEL := Lib.hid hsel
        clear hsel h1 h2
        go_wp2_with fail
        go_roundw
        case rel =>
          refine ⟨k + 1, by omega, by go_num, HE.out, ?_⟩
          rw [take_succ_of HX.out, HSN.out, if_neg HSEL.out, List.append_nil]
          exact HO.out
        case measure => simp [intOf]; omega
    · go_wp2_with fail
      go_ret
      have := HO.out
      rw [List.take_of_length_le (by rw [HN.out]; omega)] at this
      exact ⟨HE.out, _, rfl, this⟩
end Go.Proofs.YtmmcjcaccicheaaGreatDoor
/- Contracts of packages strings and strconv, laid at this program. No condition. -/
namespace Go.Proofs.YtmmcjcaccicheaaGreatDoor
open Go.Shelf
def sh_lays169_ren : Go.Shelf.Ren := ⟨fun | 169 => 44 | n => n, fun | 70 => 85 | 9 => 9 | 0 => 0 | 72 => 88 | 37 => 86 | 127 => 134 | 3 => 3 | 5 => 5 | n => n, fun | n => n⟩
theorem sh_lays169 : Go.Proofs.Lays.n169 Tryz.prog sh_lays169_ren := {
  mixed := by kernel_rfl
  f169 := Tryz.func44.trans (congrArg some (by kernel_rfl))
  t0 := Tryz.underlying0
  a0 := Tryz.isAgg0
  z0 := Tryz.sizeOf0
  v0 := Tryz.zeroValue0
  t3 := Tryz.underlying3
  a3 := Tryz.isAgg3
  z3 := Tryz.sizeOf3
  v3 := Tryz.zeroValue3
  t9 := Tryz.underlying9
  a9 := Tryz.isAgg9
  z9 := Tryz.sizeOf9
  v9 := Tryz.zeroValue9
  t37 := Tryz.underlying86
  a37 := Tryz.isAgg86
  z37 := Tryz.sizeOf86
  v37 := Tryz.zeroValue86
  t70 := Tryz.underlying85
  a70 := Tryz.isAgg85
  z70 := Tryz.sizeOf85
  v70 := Tryz.zeroValue85
  t72 := Tryz.underlying88
  a72 := Tryz.isAgg88
  z72 := Tryz.sizeOf88
  v72 := Tryz.zeroValue88
  t127 := Tryz.underlying134
  a127 := Tryz.isAgg134
  z127 := Tryz.sizeOf134
  v127 := Tryz.zeroValue134 }
theorem sh_Builder_Extra_169 : Builder.Extra Tryz.prog sh_lays169_ren := {
  sizeBuilder := by kernel_rfl
  liesBuilder := by kernel_rfl
  t5 := Tryz.underlying5
  a5 := Tryz.isAgg5
  z5 := Tryz.sizeOf5
  v5 := Tryz.zeroValue5
  infoByte := by kernel_rfl
  cellsByte := by kernel_rfl
  sizeByte := by kernel_rfl
  neB5 := by decide }
def sh_lays137_ren : Go.Shelf.Ren := ⟨fun | 137 => 14 | 217 => 34 | 266 => 62 | n => n, fun | 9 => 9 | 5 => 5 | 3 => 3 | n => n, fun | n => n⟩
theorem sh_lays137 : Go.Proofs.Lays.n137 Tryz.prog sh_lays137_ren := {
  mixed := by kernel_rfl
  f137 := Tryz.func14.trans (congrArg some (by kernel_rfl))
  f217 := Tryz.func34.trans (congrArg some (by kernel_rfl))
  f266 := Tryz.func62.trans (congrArg some (by kernel_rfl))
  t3 := Tryz.underlying3
  a3 := Tryz.isAgg3
  z3 := Tryz.sizeOf3
  v3 := Tryz.zeroValue3
  t5 := Tryz.underlying5
  a5 := Tryz.isAgg5
  z5 := Tryz.sizeOf5
  v5 := Tryz.zeroValue5
  t9 := Tryz.underlying9
  a9 := Tryz.isAgg9
  z9 := Tryz.sizeOf9
  v9 := Tryz.zeroValue9 }
open Go.RowKit in
theorem sh_strings_IndexByte (s : ByteArray) (c : Int) (w : World) :
    Calls Tryz.prog 14 #[.string s, .int .u8 c] w fun e w' => e = .returned (.int .i64 (Lib.indexByte s.data.toList c.toNat.toUInt8)) ∧ w' = w := Any.strings_IndexByte sh_lays137 s c w
def sh_lays103_ren : Go.Shelf.Ren := ⟨fun | 103 => 78 | 210 => 97 | 206 => 100 | n => n, fun | 9 => 9 | 4 => 4 | 24 => 146 | 3 => 3 | n => n, fun | n => n⟩
theorem sh_lays103 : Go.Proofs.Lays.n103 Tryz.prog sh_lays103_ren := {
  mixed := by kernel_rfl
  f103 := Tryz.func78.trans (congrArg some (by kernel_rfl))
  f206 := Tryz.func100.trans (congrArg some (by kernel_rfl))
  f210 := Tryz.func97.trans (congrArg some (by kernel_rfl))
  t3 := Tryz.underlying3
  a3 := Tryz.isAgg3
  z3 := Tryz.sizeOf3
  v3 := Tryz.zeroValue3
  t4 := Tryz.underlying4
  a4 := Tryz.isAgg4
  z4 := Tryz.sizeOf4
  v4 := Tryz.zeroValue4
  t9 := Tryz.underlying9
  a9 := Tryz.isAgg9
  z9 := Tryz.sizeOf9
  v9 := Tryz.zeroValue9
  t24 := Tryz.underlying146
  a24 := Tryz.isAgg146
  z24 := Tryz.sizeOf146
  v24 := Tryz.zeroValue146 }
open Go.RowKit in
theorem sh_strings_CutPrefix (s p : ByteArray) (w : World) :
    Calls Tryz.prog 78 #[.string s, .string p] w fun e w' => e = .returned (.tuple #[.string ⟨(Lib.trimPrefix s.data.toList p.data.toList).toArray⟩, .bool (Lib.hasPrefix s.data.toList p.data.toList)]) ∧ w' = w := Any.strings_CutPrefix sh_lays103 s p w
def sh_lays104_ren : Go.Shelf.Ren := ⟨fun | 104 => 79 | 211 => 98 | 207 => 35 | n => n, fun | 9 => 9 | 4 => 4 | 24 => 146 | 3 => 3 | n => n, fun | n => n⟩
theorem sh_lays104 : Go.Proofs.Lays.n104 Tryz.prog sh_lays104_ren := {
  mixed := by kernel_rfl
  f104 := Tryz.func79.trans (congrArg some (by kernel_rfl))
  f207 := Tryz.func35.trans (congrArg some (by kernel_rfl))
  f211 := Tryz.func98.trans (congrArg some (by kernel_rfl))
  t3 := Tryz.underlying3
  a3 := Tryz.isAgg3
  z3 := Tryz.sizeOf3
  v3 := Tryz.zeroValue3
  t4 := Tryz.underlying4
  a4 := Tryz.isAgg4
  z4 := Tryz.sizeOf4
  v4 := Tryz.zeroValue4
  t9 := Tryz.underlying9
  a9 := Tryz.isAgg9
  z9 := Tryz.sizeOf9
  v9 := Tryz.zeroValue9
  t24 := Tryz.underlying146
  a24 := Tryz.isAgg146
  z24 := Tryz.sizeOf146
  v24 := Tryz.zeroValue146 }
open Go.RowKit in
theorem sh_strings_CutSuffix (s p : ByteArray) (w : World) (hs : s.size ≤ 9223372036854775807) :
    Calls Tryz.prog 79 #[.string s, .string p] w fun e w' => e = .returned (.tuple #[.string ⟨(Lib.trimSuffix s.data.toList p.data.toList).toArray⟩, .bool (Lib.hasSuffix s.data.toList p.data.toList)]) ∧ w' = w := Any.strings_CutSuffix sh_lays104 s p w hs
open Go.RowKit in
theorem sh_Builder_String_any_k (B b : Nat) (l : List UInt8) (w : World) (h : Lib.IsBuilderF 88 5 B b (Lib.byteCells l) w) (hBw : B ≤ w.heap.size) :
    Calls Tryz.prog 44 #[.pointer (some ⟨b, 0, none⟩)] w fun e w' => e = .returned (.string ⟨l.toArray⟩) ∧ (Lib.IsBuilderF 88 5 B b (Lib.byteCells l) w' ∧ Below B w w' ∧ Lib.OthersKept 5 (some b) w w') := Any.Builder_String_any_k sh_lays169 sh_Builder_Extra_169 B b l w h hBw
def sh_lays172_ren : Go.Shelf.Ren := ⟨fun | 172 => 108 | 244 => 114 | 245 => 115 | 247 => 121 | 279 => 122 | 280 => 123 | 281 => 124 | 282 => 125 | 287 => 128 | 316 => 129 | 171 => 67 | 205 => 130 | 321 => 131 | 322 => 132 | 243 => 90 | 246 => 101 | 283 => 109 | 284 => 110 | 285 => 111 | 286 => 112 | 129 => 117 | 317 => 116 | 318 => 118 | 319 => 119 | 320 => 120 | 337 => 126 | 338 => 127 | n => n, fun | 9 => 9 | 3 => 3 | 75 => 90 | 76 => 91 | 4 => 4 | 5 => 5 | 167 => 184 | 37 => 86 | 0 => 0 | 85 => 185 | 2 => 2 | 168 => 187 | 53 => 171 | 175 => 191 | 46 => 163 | 210 => 195 | 127 => 134 | 145 => 202 | 143 => 200 | 21 => 21 | 171 => 170 | 173 => 174 | 212 => 181 | 51 => 176 | 20 => 20 | 213 => 182 | 232 => 197 | 233 => 198 | 80 => 94 | n => n, fun | 15 => 2 | 16 => 3 | 17 => 1 | 18 => 4 | 19 => 5 | n => n⟩
theorem sh_lays172 : Go.Proofs.Lays.n172 Tryz.prog sh_lays172_ren := {
  mixed := by kernel_rfl
  f129 := Tryz.func117.trans (congrArg some (by kernel_rfl))
  f171 := Tryz.func67.trans (congrArg some (by kernel_rfl))
  f172 := Tryz.func108.trans (congrArg some (by kernel_rfl))
  f205 := Tryz.func130.trans (congrArg some (by kernel_rfl))
  f243 := Tryz.func90.trans (congrArg some (by kernel_rfl))
  f244 := Tryz.func114.trans (congrArg some (by kernel_rfl))
  f245 := Tryz.func115.trans (congrArg some (by kernel_rfl))
  f246 := Tryz.func101.trans (congrArg some (by kernel_rfl))
  f247 := Tryz.func121.trans (congrArg some (by kernel_rfl))
  f279 := Tryz.func122.trans (congrArg some (by kernel_rfl))
  f280 := Tryz.func123.trans (congrArg some (by kernel_rfl))
  f281 := Tryz.func124.trans (congrArg some (by kernel_rfl))
  f282 := Tryz.func125.trans (congrArg some (by kernel_rfl))
  f283 := Tryz.func109.trans (congrArg some (by kernel_rfl))
  f284 := Tryz.func110.trans (congrArg some (by kernel_rfl))
  f285 := Tryz.func111.trans (congrArg some (by kernel_rfl))
  f286 := Tryz.func112.trans (congrArg some (by kernel_rfl))
  f287 := Tryz.func128.trans (congrArg some (by kernel_rfl))
  f316 := Tryz.func129.trans (congrArg some (by kernel_rfl))
  f317 := Tryz.func116.trans (congrArg some (by kernel_rfl))
  f318 := Tryz.func118.trans (congrArg some (by kernel_rfl))
  f319 := Tryz.func119.trans (congrArg some (by kernel_rfl))
  f320 := Tryz.func120.trans (congrArg some (by kernel_rfl))
  f321 := Tryz.func131.trans (congrArg some (by kernel_rfl))
  f322 := Tryz.func132.trans (congrArg some (by kernel_rfl))
  f337 := Tryz.func126.trans (congrArg some (by kernel_rfl))
  f338 := Tryz.func127.trans (congrArg some (by kernel_rfl))
  t0 := Tryz.underlying0
  a0 := Tryz.isAgg0
  z0 := Tryz.sizeOf0
  v0 := Tryz.zeroValue0
  t2 := Tryz.underlying2
  a2 := Tryz.isAgg2
  z2 := Tryz.sizeOf2
  v2 := Tryz.zeroValue2
  t3 := Tryz.underlying3
  a3 := Tryz.isAgg3
  z3 := Tryz.sizeOf3
  v3 := Tryz.zeroValue3
  t4 := Tryz.underlying4
  a4 := Tryz.isAgg4
  z4 := Tryz.sizeOf4
  v4 := Tryz.zeroValue4
  t5 := Tryz.underlying5
  a5 := Tryz.isAgg5
  z5 := Tryz.sizeOf5
  v5 := Tryz.zeroValue5
  t9 := Tryz.underlying9
  a9 := Tryz.isAgg9
  z9 := Tryz.sizeOf9
  v9 := Tryz.zeroValue9
  t20 := Tryz.underlying20
  a20 := Tryz.isAgg20
  z20 := Tryz.sizeOf20
  v20 := Tryz.zeroValue20
  t21 := Tryz.underlying21
  a21 := Tryz.isAgg21
  z21 := Tryz.sizeOf21
  v21 := Tryz.zeroValue21
  t37 := Tryz.underlying86
  a37 := Tryz.isAgg86
  z37 := Tryz.sizeOf86
  v37 := Tryz.zeroValue86
  t46 := Tryz.underlying163
  a46 := Tryz.isAgg163
  z46 := Tryz.sizeOf163
  v46 := Tryz.zeroValue163
  t51 := Tryz.underlying176
  a51 := Tryz.isAgg176
  z51 := Tryz.sizeOf176
  v51 := Tryz.zeroValue176
  t53 := Tryz.underlying171
  a53 := Tryz.isAgg171
  z53 := Tryz.sizeOf171
  v53 := Tryz.zeroValue171
  t75 := Tryz.underlying90
  a75 := Tryz.isAgg90
  z75 := Tryz.sizeOf90
  v75 := Tryz.zeroValue90
  t76 := Tryz.underlying91
  a76 := Tryz.isAgg91
  z76 := Tryz.sizeOf91
  v76 := Tryz.zeroValue91
  t85 := Tryz.underlying185
  a85 := Tryz.isAgg185
  z85 := Tryz.sizeOf185
  v85 := Tryz.zeroValue185
  t127 := Tryz.underlying134
  a127 := Tryz.isAgg134
  z127 := Tryz.sizeOf134
  v127 := Tryz.zeroValue134
  t143 := Tryz.underlying200
  a143 := Tryz.isAgg200
  z143 := Tryz.sizeOf200
  v143 := Tryz.zeroValue200
  t145 := Tryz.underlying202
  a145 := Tryz.isAgg202
  z145 := Tryz.sizeOf202
  v145 := Tryz.zeroValue202
  t167 := Tryz.underlying184
  a167 := Tryz.isAgg184
  z167 := Tryz.sizeOf184
  v167 := Tryz.zeroValue184
  t168 := Tryz.underlying187
  a168 := Tryz.isAgg187
  z168 := Tryz.sizeOf187
  v168 := Tryz.zeroValue187
  t171 := Tryz.underlying170
  a171 := Tryz.isAgg170
  z171 := Tryz.sizeOf170
  v171 := Tryz.zeroValue170
  t173 := Tryz.underlying174
  a173 := Tryz.isAgg174
  z173 := Tryz.sizeOf174
  v173 := Tryz.zeroValue174
  t175 := Tryz.underlying191
  a175 := Tryz.isAgg191
  z175 := Tryz.sizeOf191
  v175 := Tryz.zeroValue191
  t210 := Tryz.underlying195
  a210 := Tryz.isAgg195
  z210 := Tryz.sizeOf195
  v210 := Tryz.zeroValue195
  t212 := Tryz.underlying181
  a212 := Tryz.isAgg181
  z212 := Tryz.sizeOf181
  v212 := Tryz.zeroValue181
  t213 := Tryz.underlying182
  a213 := Tryz.isAgg182
  z213 := Tryz.sizeOf182
  t232 := Tryz.underlying197
  a232 := Tryz.isAgg197
  z232 := Tryz.sizeOf197
  v232 := Tryz.zeroValue197
  t233 := Tryz.underlying198
  a233 := Tryz.isAgg198
  z233 := Tryz.sizeOf198
  v233 := Tryz.zeroValue198
  g15 := by kernel_rfl
  g16 := by kernel_rfl
  g17 := by kernel_rfl
  g18 := by kernel_rfl
  g19 := by kernel_rfl }
open Go.RowKit in
theorem sh_strconv_Atoi (s : ByteArray) (n : Int) (hl : s.size ≤ 18) (h : Lib.atoi s.data.toList = some n) (w : World) :
    Calls Tryz.prog 108 #[.string s] w fun e w' => e = .returned (.tuple #[.int .i64 n, .nilIface]) ∧ ∃ t, w' = Lib.bytesWorld w 5 t := Any.strconv_Atoi sh_lays172 s n hl h w
def sh_lays171_ren : Go.Shelf.Ren := ⟨fun | 171 => 67 | 243 => 90 | 246 => 101 | 283 => 109 | 284 => 110 | 285 => 111 | 286 => 112 | 129 => 117 | 317 => 116 | 318 => 118 | 319 => 119 | 320 => 120 | 337 => 126 | 338 => 127 | n => n, fun | 3 => 3 | 9 => 9 | 2 => 2 | 4 => 4 | 171 => 170 | 0 => 0 | 53 => 171 | 37 => 86 | 5 => 5 | 173 => 174 | 212 => 181 | 51 => 176 | 20 => 20 | 213 => 182 | 46 => 163 | 232 => 197 | 233 => 198 | n => n, fun | 17 => 1 | 18 => 4 | 19 => 5 | n => n⟩
theorem sh_lays171 : Go.Proofs.Lays.n171 Tryz.prog sh_lays171_ren := {
  mixed := by kernel_rfl
  f129 := Tryz.func117.trans (congrArg some (by kernel_rfl))
  f171 := Tryz.func67.trans (congrArg some (by kernel_rfl))
  f243 := Tryz.func90.trans (congrArg some (by kernel_rfl))
  f246 := Tryz.func101.trans (congrArg some (by kernel_rfl))
  f283 := Tryz.func109.trans (congrArg some (by kernel_rfl))
  f284 := Tryz.func110.trans (congrArg some (by kernel_rfl))
  f285 := Tryz.func111.trans (congrArg some (by kernel_rfl))
  f286 := Tryz.func112.trans (congrArg some (by kernel_rfl))
  f317 := Tryz.func116.trans (congrArg some (by kernel_rfl))
  f318 := Tryz.func118.trans (congrArg some (by kernel_rfl))
  f319 := Tryz.func119.trans (congrArg some (by kernel_rfl))
  f320 := Tryz.func120.trans (congrArg some (by kernel_rfl))
  f337 := Tryz.func126.trans (congrArg some (by kernel_rfl))
  f338 := Tryz.func127.trans (congrArg some (by kernel_rfl))
  t0 := Tryz.underlying0
  a0 := Tryz.isAgg0
  z0 := Tryz.sizeOf0
  v0 := Tryz.zeroValue0
  t2 := Tryz.underlying2
  a2 := Tryz.isAgg2
  z2 := Tryz.sizeOf2
  v2 := Tryz.zeroValue2
  t3 := Tryz.underlying3
  a3 := Tryz.isAgg3
  z3 := Tryz.sizeOf3
  v3 := Tryz.zeroValue3
  t4 := Tryz.underlying4
  a4 := Tryz.isAgg4
  z4 := Tryz.sizeOf4
  v4 := Tryz.zeroValue4
  t5 := Tryz.underlying5
  a5 := Tryz.isAgg5
  z5 := Tryz.sizeOf5
  v5 := Tryz.zeroValue5
  t9 := Tryz.underlying9
  a9 := Tryz.isAgg9
  z9 := Tryz.sizeOf9
  v9 := Tryz.zeroValue9
  t20 := Tryz.underlying20
  a20 := Tryz.isAgg20
  z20 := Tryz.sizeOf20
  v20 := Tryz.zeroValue20
  t37 := Tryz.underlying86
  a37 := Tryz.isAgg86
  z37 := Tryz.sizeOf86
  v37 := Tryz.zeroValue86
  t46 := Tryz.underlying163
  a46 := Tryz.isAgg163
  z46 := Tryz.sizeOf163
  v46 := Tryz.zeroValue163
  t51 := Tryz.underlying176
  a51 := Tryz.isAgg176
  z51 := Tryz.sizeOf176
  v51 := Tryz.zeroValue176
  t53 := Tryz.underlying171
  a53 := Tryz.isAgg171
  z53 := Tryz.sizeOf171
  v53 := Tryz.zeroValue171
  t171 := Tryz.underlying170
  a171 := Tryz.isAgg170
  z171 := Tryz.sizeOf170
  v171 := Tryz.zeroValue170
  t173 := Tryz.underlying174
  a173 := Tryz.isAgg174
  z173 := Tryz.sizeOf174
  v173 := Tryz.zeroValue174
  t212 := Tryz.underlying181
  a212 := Tryz.isAgg181
  z212 := Tryz.sizeOf181
  v212 := Tryz.zeroValue181
  t213 := Tryz.underlying182
  a213 := Tryz.isAgg182
  z213 := Tryz.sizeOf182
  t232 := Tryz.underlying197
  a232 := Tryz.isAgg197
  z232 := Tryz.sizeOf197
  v232 := Tryz.zeroValue197
  t233 := Tryz.underlying198
  a233 := Tryz.isAgg198
  z233 := Tryz.sizeOf198
  v233 := Tryz.zeroValue198
  g17 := by kernel_rfl
  g18 := by kernel_rfl
  g19 := by kernel_rfl }
open Go.RowKit Go.Sort Go.Lib in
theorem sh_strconv_Itoa_small (i : Nat) (hi : i < 100) (w : World) :
    Calls Tryz.prog 67 #[.int .i64 i] w fun e w' => e = .returned (.string ⟨(Lib.decDigits i).toArray⟩) ∧ w' = w := Any.strconv_Itoa_small sh_lays171 i hi w
def sh_lays144_ren : Go.Shelf.Ren := ⟨fun | 144 => 43 | 143 => 68 | 219 => 91 | 217 => 34 | 225 => 102 | 224 => 103 | 267 => 104 | 266 => 62 | 314 => 113 | n => n, fun | 9 => 9 | 4 => 4 | 3 => 3 | 5 => 5 | 46 => 163 | 146 => 177 | 51 => 176 | n => n, fun | 1 => 0 | n => n⟩
theorem sh_lays144 : Go.Proofs.Lays.n144 Tryz.prog sh_lays144_ren := {
  mixed := by kernel_rfl
  f143 := Tryz.func68.trans (congrArg some (by kernel_rfl))
  f144 := Tryz.func43.trans (congrArg some (by kernel_rfl))
  f217 := Tryz.func34.trans (congrArg some (by kernel_rfl))
  f219 := Tryz.func91.trans (congrArg some (by kernel_rfl))
  f224 := Tryz.func103.trans (congrArg some (by kernel_rfl))
  f225 := Tryz.func102.trans (congrArg some (by kernel_rfl))
  f266 := Tryz.func62.trans (congrArg some (by kernel_rfl))
  f267 := Tryz.func104.trans (congrArg some (by kernel_rfl))
  f314 := Tryz.func113.trans (congrArg some (by kernel_rfl))
  t3 := Tryz.underlying3
  a3 := Tryz.isAgg3
  z3 := Tryz.sizeOf3
  v3 := Tryz.zeroValue3
  t4 := Tryz.underlying4
  a4 := Tryz.isAgg4
  z4 := Tryz.sizeOf4
  v4 := Tryz.zeroValue4
  t5 := Tryz.underlying5
  a5 := Tryz.isAgg5
  z5 := Tryz.sizeOf5
  v5 := Tryz.zeroValue5
  t9 := Tryz.underlying9
  a9 := Tryz.isAgg9
  z9 := Tryz.sizeOf9
  v9 := Tryz.zeroValue9
  t46 := Tryz.underlying163
  a46 := Tryz.isAgg163
  z46 := Tryz.sizeOf163
  v46 := Tryz.zeroValue163
  t51 := Tryz.underlying176
  a51 := Tryz.isAgg176
  z51 := Tryz.sizeOf176
  v51 := Tryz.zeroValue176
  t146 := Tryz.underlying177
  a146 := Tryz.isAgg177
  z146 := Tryz.sizeOf177
  v146 := Tryz.zeroValue177
  g1 := by kernel_rfl }
open Go.RowKit Go.Lib in
theorem sh_strings_Contains_one (s : ByteArray) (c : UInt8) (w : World) :
    Calls Tryz.prog 43 #[.string s, .string ⟨#[c]⟩] w fun e w' => e = .returned (.bool (decide (0 ≤ Lib.indexByte s.data.toList c))) ∧ w' = w := Any.strings_Contains_one sh_lays144 s c w
def sh_lays145_ren : Go.Shelf.Ren := ⟨fun | 145 => 77 | 220 => 96 | 219 => 91 | 217 => 34 | 225 => 102 | 224 => 103 | 267 => 104 | 266 => 62 | 314 => 113 | n => n, fun | 9 => 9 | 4 => 4 | 59 => 144 | 3 => 3 | 5 => 5 | 46 => 163 | 146 => 177 | 51 => 176 | n => n, fun | 1 => 0 | n => n⟩
theorem sh_lays145 : Go.Proofs.Lays.n145 Tryz.prog sh_lays145_ren := {
  mixed := by kernel_rfl
  f145 := Tryz.func77.trans (congrArg some (by kernel_rfl))
  f217 := Tryz.func34.trans (congrArg some (by kernel_rfl))
  f219 := Tryz.func91.trans (congrArg some (by kernel_rfl))
  f220 := Tryz.func96.trans (congrArg some (by kernel_rfl))
  f224 := Tryz.func103.trans (congrArg some (by kernel_rfl))
  f225 := Tryz.func102.trans (congrArg some (by kernel_rfl))
  f266 := Tryz.func62.trans (congrArg some (by kernel_rfl))
  f267 := Tryz.func104.trans (congrArg some (by kernel_rfl))
  f314 := Tryz.func113.trans (congrArg some (by kernel_rfl))
  t3 := Tryz.underlying3
  a3 := Tryz.isAgg3
  z3 := Tryz.sizeOf3
  v3 := Tryz.zeroValue3
  t4 := Tryz.underlying4
  a4 := Tryz.isAgg4
  z4 := Tryz.sizeOf4
  v4 := Tryz.zeroValue4
  t5 := Tryz.underlying5
  a5 := Tryz.isAgg5
  z5 := Tryz.sizeOf5
  v5 := Tryz.zeroValue5
  t9 := Tryz.underlying9
  a9 := Tryz.isAgg9
  z9 := Tryz.sizeOf9
  v9 := Tryz.zeroValue9
  t46 := Tryz.underlying163
  a46 := Tryz.isAgg163
  z46 := Tryz.sizeOf163
  v46 := Tryz.zeroValue163
  t51 := Tryz.underlying176
  a51 := Tryz.isAgg176
  z51 := Tryz.sizeOf176
  v51 := Tryz.zeroValue176
  t59 := Tryz.underlying144
  a59 := Tryz.isAgg144
  z59 := Tryz.sizeOf144
  v59 := Tryz.zeroValue144
  t146 := Tryz.underlying177
  a146 := Tryz.isAgg177
  z146 := Tryz.sizeOf177
  v146 := Tryz.zeroValue177
  g1 := by kernel_rfl }
open Go.RowKit Go.Lib in
theorem sh_strings_Cut (s sep : ByteArray) (m : Int) (w : World) (hs : s.size < 4294967281) (hm : w.cell? ⟨0, 0, none⟩ = some (.int .i64 m)) :
    Calls Tryz.prog 77 #[.string s, .string sep] w fun e w' => e = .returned (.tuple #[.string ⟨(Lib.cut s.data.toList sep.data.toList).1.toArray⟩, .string ⟨(Lib.cut s.data.toList sep.data.toList).2.1.toArray⟩, .bool (Lib.cut s.data.toList sep.data.toList).2.2]) ∧ ∃ n, w' = w.drewN n := Any.strings_Cut sh_lays145 s sep m w hs hm
def sh_lays99_ren : Go.Shelf.Ren := ⟨fun | 99 => 81 | 206 => 100 | n => n, fun | 9 => 9 | 4 => 4 | 3 => 3 | n => n, fun | n => n⟩
theorem sh_lays99 : Go.Proofs.Lays.n99 Tryz.prog sh_lays99_ren := {
  mixed := by kernel_rfl
  f99 := Tryz.func81.trans (congrArg some (by kernel_rfl))
  f206 := Tryz.func100.trans (congrArg some (by kernel_rfl))
  t3 := Tryz.underlying3
  a3 := Tryz.isAgg3
  z3 := Tryz.sizeOf3
  v3 := Tryz.zeroValue3
  t4 := Tryz.underlying4
  a4 := Tryz.isAgg4
  z4 := Tryz.sizeOf4
  v4 := Tryz.zeroValue4
  t9 := Tryz.underlying9
  a9 := Tryz.isAgg9
  z9 := Tryz.sizeOf9
  v9 := Tryz.zeroValue9 }
open Go.RowKit Go.Lib in
theorem sh_strings_HasPrefix (s p : ByteArray) (w : World) :
    Calls Tryz.prog 81 #[.string s, .string p] w fun e w' => e = .returned (.bool (Lib.hasPrefix s.data.toList p.data.toList)) ∧ w' = w := Any.strings_HasPrefix sh_lays99 s p w
def sh_lays100_ren : Go.Shelf.Ren := ⟨fun | 100 => 15 | 207 => 35 | n => n, fun | 9 => 9 | 4 => 4 | 3 => 3 | n => n, fun | n => n⟩
theorem sh_lays100 : Go.Proofs.Lays.n100 Tryz.prog sh_lays100_ren := {
  mixed := by kernel_rfl
  f100 := Tryz.func15.trans (congrArg some (by kernel_rfl))
  f207 := Tryz.func35.trans (congrArg some (by kernel_rfl))
  t3 := Tryz.underlying3
  a3 := Tryz.isAgg3
  z3 := Tryz.sizeOf3
  v3 := Tryz.zeroValue3
  t4 := Tryz.underlying4
  a4 := Tryz.isAgg4
  z4 := Tryz.sizeOf4
  v4 := Tryz.zeroValue4
  t9 := Tryz.underlying9
  a9 := Tryz.isAgg9
  z9 := Tryz.sizeOf9
  v9 := Tryz.zeroValue9 }
open Go.RowKit Go.Lib in
theorem sh_strings_HasSuffix (s p : ByteArray) (w : World) (hs : s.size ≤ 9223372036854775807) :
    Calls Tryz.prog 15 #[.string s, .string p] w fun e w' => e = .returned (.bool (Lib.hasSuffix s.data.toList p.data.toList)) ∧ w' = w := Any.strings_HasSuffix sh_lays100 s p w hs
def sh_lays166_ren : Go.Shelf.Ren := ⟨fun | 166 => 41 | 240 => 66 | 276 => 89 | n => n, fun | 0 => 0 | 3 => 3 | 4 => 4 | 5 => 5 | 9 => 9 | 20 => 20 | 37 => 86 | 70 => 85 | 72 => 88 | 75 => 90 | 80 => 94 | 164 => 153 | n => n, fun | n => n⟩
theorem sh_lays166 : Go.Proofs.Lays.n166 Tryz.prog sh_lays166_ren := {
  mixed := by kernel_rfl
  f166 := Tryz.func41.trans (congrArg some (by kernel_rfl))
  f240 := Tryz.func66.trans (congrArg some (by kernel_rfl))
  f276 := Tryz.func89.trans (congrArg some (by kernel_rfl))
  t0 := Tryz.underlying0
  a0 := Tryz.isAgg0
  z0 := Tryz.sizeOf0
  v0 := Tryz.zeroValue0
  t3 := Tryz.underlying3
  a3 := Tryz.isAgg3
  z3 := Tryz.sizeOf3
  v3 := Tryz.zeroValue3
  t4 := Tryz.underlying4
  a4 := Tryz.isAgg4
  z4 := Tryz.sizeOf4
  v4 := Tryz.zeroValue4
  t9 := Tryz.underlying9
  a9 := Tryz.isAgg9
  z9 := Tryz.sizeOf9
  v9 := Tryz.zeroValue9
  t20 := Tryz.underlying20
  a20 := Tryz.isAgg20
  z20 := Tryz.sizeOf20
  v20 := Tryz.zeroValue20
  t37 := Tryz.underlying86
  a37 := Tryz.isAgg86
  z37 := Tryz.sizeOf86
  v37 := Tryz.zeroValue86
  t70 := Tryz.underlying85
  a70 := Tryz.isAgg85
  z70 := Tryz.sizeOf85
  v70 := Tryz.zeroValue85
  t72 := Tryz.underlying88
  a72 := Tryz.isAgg88
  z72 := Tryz.sizeOf88
  v72 := Tryz.zeroValue88
  t75 := Tryz.underlying90
  a75 := Tryz.isAgg90
  z75 := Tryz.sizeOf90
  v75 := Tryz.zeroValue90
  t164 := Tryz.underlying153
  a164 := Tryz.isAgg153
  z164 := Tryz.sizeOf153
  v164 := Tryz.zeroValue153 }
theorem sh_Builder_Extra_166 : Builder.Extra Tryz.prog sh_lays166_ren := {
  sizeBuilder := by kernel_rfl
  liesBuilder := by kernel_rfl
  t5 := Tryz.underlying5
  a5 := Tryz.isAgg5
  z5 := Tryz.sizeOf5
  v5 := Tryz.zeroValue5
  infoByte := by kernel_rfl
  cellsByte := by kernel_rfl
  sizeByte := by kernel_rfl
  neB5 := by decide }
open Go.RowKit in
theorem sh_Builder_WriteString_k (B b : Nat) (bs : List Value) (s : ByteArray) (w : World) (h : Lib.IsBuilderF 88 5 B b bs w) (hlen : bs.length + s.size ≤ 140737488355328) (hBw : B ≤ w.heap.size) :
    Calls Tryz.prog 41 #[.pointer (some ⟨b, 0, none⟩), .string s] w fun e w' => e = .returned (.tuple #[.int .i64 s.size, .nilIface]) ∧ (Lib.BuilderAtF 88 5 B b (.pointer (some ⟨b, 0, none⟩)) (bs ++ Lib.strCells s) w' ∧ Below B w w' ∧ Lib.OthersKept 5 (some b) w w') := Any.Builder_WriteString_k sh_lays166 sh_Builder_Extra_166 B b bs s w h hlen hBw
end Go.Proofs.YtmmcjcaccicheaaGreatDoor
