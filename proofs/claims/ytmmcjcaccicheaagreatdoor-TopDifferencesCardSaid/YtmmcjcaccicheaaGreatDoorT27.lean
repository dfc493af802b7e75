/- UdText UdChk UdChB: parts of the proof of TopDifferences, one text behind the other. No condition. -/
import Derived.Test.YtmmcjcaccicheaaGreatDoorT26
import Derived.Test.YtmmcjcaccicheaaGreatDoorT24
import Derived.Laws.EntriesVeiled
/- The text of blocks: numerals, headers, lines: plain laws. No condition. -/
namespace Go.Proofs.YtmmcjcaccicheaaGreatDoor

abbrev Bs := List UInt8
def mkS (l : Bs) : ByteArray := ⟨l.toArray⟩
theorem mkS_data (l : Bs) : (mkS l).data.toList = l := rfl
theorem mkS_size (l : Bs) : (mkS l).size = l.length := by show l.toArray.size = _; simp
theorem mkS_of (s : ByteArray) : mkS s.data.toList = s := by cases s; rfl
theorem mkS_app (a b : Bs) : mkS a ++ mkS b = mkS (a ++ b) := by
  have h : (mkS a ++ mkS b).data = (mkS (a ++ b)).data := by rw [ByteArray.data_append]; simp [mkS]
  cases hx : mkS a ++ mkS b; cases hy : mkS (a ++ b)
  rw [hx, hy] at h; simpa using h

/-! ### Numerals below 100 -/
def dgs (n : Nat) : Bs := Lib.decDigits n
set_option maxRecDepth 100000 in
theorem dgs_all : ∀ n : Fin 100, (dgs n.1).all (fun b => decide (48 ≤ b.toNat ∧ b.toNat ≤ 57)) = true ∧ (dgs n.1).length ≤ 2 ∧ Lib.atoi (dgs n.1) = some (n.1 : Int) := by
  intro ⟨n, hn⟩
  by_cases h : n < 10
  · have e : dgs n = [UInt8.ofNat (48 + n)] := by unfold dgs; rw [Lib.decDigits, dif_pos h]
    rw [e]
    have : ∀ k : Fin 10, ([UInt8.ofNat (48 + k.1)] : Bs).all (fun b => decide (48 ≤ b.toNat ∧ b.toNat ≤ 57)) = true ∧ ([UInt8.ofNat (48 + k.1)] : Bs).length ≤ 2 ∧ Lib.atoi [UInt8.ofNat (48 + k.1)] = some (k.1 : Int) := by decide +kernel
    exact this ⟨n, h⟩
  · have e : dgs n = [UInt8.ofNat (48 + n / 10), UInt8.ofNat (48 + n % 10)] := by
      unfold dgs; rw [Lib.decDigits, dif_neg h, Lib.decDigits, dif_pos (by omega)]; rfl
    rw [e]
    have : ∀ k : Fin 100, ([UInt8.ofNat (48 + k.1 / 10), UInt8.ofNat (48 + k.1 % 10)] : Bs).all (fun b => decide (48 ≤ b.toNat ∧ b.toNat ≤ 57)) = true ∧ ([UInt8.ofNat (48 + k.1 / 10), UInt8.ofNat (48 + k.1 % 10)] : Bs).length ≤ 2 ∧ Lib.atoi [UInt8.ofNat (48 + k.1 / 10), UInt8.ofNat (48 + k.1 % 10)] = some (k.1 : Int) := by decide +kernel
    exact this ⟨n, hn⟩
theorem dgs_dig {n : Nat} (h : n < 100) : ∀ b ∈ dgs n, 48 ≤ b.toNat ∧ b.toNat ≤ 57 := fun b hb => by
  have := List.all_eq_true.1 (dgs_all ⟨n, h⟩).1 b hb
  simpa using this
theorem dgs_len {n : Nat} (h : n < 100) : (dgs n).length ≤ 2 := (dgs_all ⟨n, h⟩).2.1
theorem dgs_atoi {n : Nat} (h : n < 100) : Lib.atoi (dgs n) = some (n : Int) := (dgs_all ⟨n, h⟩).2.2

/-! ### Ranges and headers -/
def upN (at_ n : Nat) : Nat := if 0 < n then at_ + 1 else at_
def plL (at_ n : Nat) : Bs := dgs (upN at_ n) ++ 44 :: dgs n
def hdL (b : Bk) : Bs := [64, 64, 32, 45] ++ plL b.oa b.ol ++ [32, 43] ++ plL b.na b.nl ++ [32, 64, 64]
structure Small (b : Bk) : Prop where
  oa : b.oa < 90
  ol : b.ol < 90
  na : b.na < 90
  nl : b.nl < 90
theorem up_lt {at_ n : Nat} (h : at_ < 90) : upN at_ n < 100 := by unfold upN; split <;> omega
theorem pl_bytes {at_ n : Nat} (h1 : at_ < 90) (h2 : n < 90) : ∀ b ∈ plL at_ n, b.toNat = 44 ∨ (48 ≤ b.toNat ∧ b.toNat ≤ 57) := by
  intro b hb
  rcases List.mem_append.1 hb with hb | hb
  · exact .inr (dgs_dig (up_lt h1) b hb)
  · rcases List.mem_cons.1 hb with rfl | hb
    · exact .inl rfl
    · exact .inr (dgs_dig (by omega) b hb)
theorem pl_no {at_ n : Nat} (h1 : at_ < 90) (h2 : n < 90) (c : UInt8) (hc : c.toNat < 44) : c ∉ plL at_ n := fun hm => by
  have := pl_bytes h1 h2 c hm
  omega
theorem pl_len {at_ n : Nat} (h1 : at_ < 90) (h2 : n < 90) : (plL at_ n).length ≤ 5 := by
  have := dgs_len (up_lt (n := n) h1)
  have := dgs_len (n := n) (by omega)
  simp only [plL, List.length_append, List.length_cons]; omega
theorem hd_no {b : Bk} (h : Small b) : (10 : UInt8) ∉ hdL b := by
  intro hm
  unfold hdL at hm
  simp only [List.mem_append, or_assoc] at hm
  rcases hm with hm | hm | hm | hm | hm
  · revert hm; decide
  · exact pl_no h.oa h.ol 10 (by decide) hm
  · revert hm; decide
  · exact pl_no h.na h.nl 10 (by decide) hm
  · revert hm; decide
theorem hd_len {b : Bk} (h : Small b) : (hdL b).length ≤ 19 := by
  have := pl_len h.oa h.ol
  have := pl_len h.na h.nl
  simp only [hdL, List.length_append, List.length_cons, List.length_nil]; omega

/-! ### Cuts -/
theorem cut_at (a r sep : Bs) (c : UInt8) (t : Bs) (hs : sep = c :: t) (h : c ∉ a) : Lib.cut (a ++ (sep ++ r)) sep = (a, r, true) := by
  have hi : Lib.index (a ++ (sep ++ r)) sep = (a.length : Int) := by
    refine Lib.index_first (by simp) ?_ ?_
    · unfold Lib.occAt
      rw [List.drop_left]
      simp
    · intro j hj
      unfold Lib.occAt
      rw [hs]
      have hg : (a ++ (c :: t ++ r))[j]? = some a[j] := by rw [List.getElem?_append_left hj]; exact List.getElem?_eq_getElem hj
      rw [drop_of hg]
      rw [List.isPrefixOf, Bool.and_eq_false_iff]
      left
      rw [beq_eq_false_iff_ne]
      intro e
      exact h (e ▸ List.getElem_mem hj)
  unfold Lib.cut
  rw [hi, if_pos (Int.natCast_nonneg _), Int.toNat_natCast, List.take_left, ← List.drop_drop, List.drop_left, List.drop_left]
theorem cut_comma {at_ n : Nat} (h1 : at_ < 90) : Lib.cut (plL at_ n) [44] = (dgs (upN at_ n), dgs n, true) := by
  have := cut_at (dgs (upN at_ n)) (dgs n) [44] 44 [] rfl (fun hm => by have := dgs_dig (up_lt (n := n) h1) 44 hm; simp at this)
  exact this
theorem cut_plus {b : Bk} (h : Small b) : Lib.cut (plL b.oa b.ol ++ [32, 43] ++ plL b.na b.nl) [32, 43] = (plL b.oa b.ol, plL b.na b.nl, true) := by
  rw [List.append_assoc]
  exact cut_at _ _ [32, 43] 32 [43] rfl (pl_no h.oa h.ol 32 (by decide))
theorem hd_pre (b : Bk) : Lib.trimPrefix (hdL b) [64, 64, 32, 45] = plL b.oa b.ol ++ [32, 43] ++ plL b.na b.nl ++ [32, 64, 64] ∧ Lib.hasPrefix (hdL b) [64, 64, 32, 45] = true := by
  have h : Lib.hasPrefix (hdL b) [64, 64, 32, 45] = true := by unfold Lib.hasPrefix hdL; simp
  refine ⟨?_, h⟩
  unfold Lib.trimPrefix
  rw [if_pos h]
  simp [hdL]
theorem hd_suf (x : Bs) : Lib.trimSuffix (x ++ [32, 64, 64]) [32, 64, 64] = x ∧ Lib.hasSuffix (x ++ [32, 64, 64]) [32, 64, 64] = true := by
  have h : Lib.hasSuffix (x ++ [32, 64, 64]) [32, 64, 64] = true := by
    unfold Lib.hasSuffix
    rw [List.isSuffixOf_iff_suffix]
    exact List.suffix_append _ _
  refine ⟨?_, h⟩
  unfold Lib.trimSuffix
  rw [if_pos h]
  simp

/-! ### The lines of the text -/
def tkL : Tk → Bs
  | .hdr b => hdL b
  | .ln x => sgn x.t :: x.s.data.toList
def joinT : List Tk → Bs
  | [] => []
  | t :: r => tkL t ++ 10 :: joinT r
theorem joinT_app (a b : List Tk) : joinT (a ++ b) = joinT a ++ joinT b := by
  induction a with
  | nil => rfl
  | cons t r ih => simp [joinT, ih]
theorem tk_ln (x : Ln) : mkS (tkL (.ln x)) = lnS x := rfl
/-- The lines that Parse may meet. -/
def TkOk : Tk → Prop
  | .hdr b => Small b ∧ b.ls = []
  | .ln x => (10 : UInt8) ∉ x.s.data.toList ∧ x.s.size ≤ 100000
theorem tk_no {t : Tk} (h : TkOk t) : (10 : UInt8) ∉ tkL t := by
  cases t with
  | hdr b => exact hd_no h.1
  | ln x =>
    intro hm
    rcases List.mem_cons.1 hm with hm | hm
    · obtain ⟨t, s⟩ := x; cases t <;> simp [sgn] at hm
    · exact h.1 hm
theorem tk_size {t : Tk} (h : TkOk t) : (tkL t).length ≤ 100001 := by
  cases t with
  | hdr b => have := hd_len h.1; simp only [tkL]; omega
  | ln x =>
    have h2 : x.s.data.toList.length ≤ 100000 := h.2
    simp only [tkL, List.length_cons]; omega
theorem cut_line {t : Tk} (h : TkOk t) (r : List Tk) : Lib.cut (joinT (t :: r)) [10] = (tkL t, joinT r, true) := cut_at (tkL t) (joinT r) [10] 10 [] rfl (tk_no h)
theorem joinT_len : ∀ (l : List Tk), (∀ t ∈ l, TkOk t) → (joinT l).length ≤ l.length * 100002
  | [], _ => Nat.le_refl _
  | t :: r, h => by
    have h1 := tk_size (h t List.mem_cons_self)
    have h2 := joinT_len r (fun x hx => h x (List.mem_cons_of_mem _ hx))
    simp only [joinT, List.length_append, List.length_cons]; omega
theorem toks_len : ∀ (l : List Bk), (toks l).length = l.length + (l.map (fun b => b.ls.length)).sum
  | [] => rfl
  | b :: r => by
    simp only [toks, List.length_cons, List.length_append, List.length_map, toks_len r, List.map_cons, List.sum_cons]; omega
/-- The text of blocks. -/
def fmtL (l : List Bk) : Bs := joinT (toks l)
theorem hdL_ls (b : Bk) (l : Bdy) : hdL ⟨b.oa, b.ol, b.na, b.nl, l⟩ = hdL b := rfl
theorem toks_app : ∀ (a b : List Bk), toks (a ++ b) = toks a ++ toks b
  | [], b => rfl
  | x :: a, b => by simp [toks, toks_app a b]
theorem fmt_snoc (l : List Bk) (b : Bk) : fmtL (l ++ [b]) = fmtL l ++ (hdL b ++ 10 :: joinT (b.ls.map .ln)) := by
  unfold fmtL
  rw [toks_app, joinT_app]
  simp [toks, joinT, tkL, hdL_ls]
theorem joinT_snoc (l : List Tk) (t : Tk) : joinT (l ++ [t]) = joinT l ++ (tkL t ++ [10]) := by rw [joinT_app]; rfl
theorem hd_short {n : Nat} (h : n < 100) : (mkS (dgs n)).size ≤ 18 := by have := dgs_len h; rw [mkS_size]; omega
end Go.Proofs.YtmmcjcaccicheaaGreatDoor
/- Contracts: counts; the six closures of checkBlock; checkBlock; check. -/
namespace Go.Proofs.YtmmcjcaccicheaaGreatDoor
open Go.RowKit

theorem hp_ln (x : Ln) (t : Tg) : Lib.hasPrefix (lnS x).data.toList [sgn t] = decide (x.t = t) := by
  unfold Lib.hasPrefix lnS
  obtain ⟨y, s⟩ := x
  cases y <;> cases t <;> rfl
theorem hasp_is (x : Ln) (t : Tg) (p : ByteArray) (hp : p = ⟨#[sgn t]⟩) (r : Bool) (hr : decide (x.t = t) = r) (w : World) :
    Calls Tryz.prog 81 #[.string (lnS x), .string p] w fun e w' => e = .returned (.bool r) ∧ w' = w := by
  subst hp hr
  have := sh_strings_HasPrefix (lnS x) ⟨#[sgn t]⟩ w
  rw [show (⟨#[sgn t]⟩ : ByteArray).data.toList = [sgn t] from rfl, hp_ln] at this
  exact this
set_option maxHeartbeats 2000000 in
theorem counts_any (A : Option Addr) (n c : Nat) (l : Bdy) (w : World) (hl : Strs w A n (l.map lnS)) (hn : n ≤ 100000) :
    Calls Tryz.prog 60 #[.slice A n c] w fun e w' => e = .returned (.tuple #[.int .i64 (cK l : Int), .int .i64 (cD l : Int), .int .i64 (cA l : Int), .bool true]) ∧ w' = w := by
  have hlen : l.length = n := by simpa using hl.1
  have HL := Lib.hid hl; have HN := Lib.hid hlen; clear hl hlen
  go_enter Tryz.func60, Tryz.ntmps60
  go_wp2_with fail
  go_loopw [6, 7, 8, 13] (fun a b d i wr => ∃ k : Nat, k ≤ n ∧ i = .int .i64 k ∧ wr = w ∧ a = .int .i64 (cK (l.take k)) ∧ b = .int .i64 (cD (l.take k)) ∧ d = .int .i64 (cA (l.take k))) (fun _ _ _ i _ => n - (intOf i).toNat)
  case atStart => exact ⟨0, Nat.zero_le _, rfl, rfl, rfl, rfl, rfl⟩
  case round =>
    obtain ⟨k, hk, rfl, rfl, rfl, rfl, rfl⟩ := hrel
    by_cases hlt : k < n
    · obtain ⟨b, off, s, rfl, hb1, hs1, hs2, hc1⟩ := HL.out.get hlt
      obtain ⟨x, hx⟩ : ∃ x, l[k]? = some x := ⟨_, List.getElem?_eq_getElem (by rw [HN.out]; exact hlt)⟩
      have hs : lnS x = s := by rw [List.getElem?_map, hx] at hs1; simpa using hs1
      have htk : l.take (k + 1) = l.take k ++ [x] := take_succ_of hx
      have e1 := cK_snoc x (l.take k); have e2 := cD_snoc x (l.take k); have e3 := cA_snoc x (l.take k)
      rw [← htk] at e1 e2 e3
      have hle := c_le (l.take k)
      have hll : (l.take k).length ≤ n := by rw [List.length_take]; omega
      obtain ⟨a0, ha0⟩ : ∃ a0, cK (l.take k) = a0 := ⟨_, rfl⟩
      obtain ⟨b0, hb0⟩ : ∃ b0, cD (l.take k) = b0 := ⟨_, rfl⟩
      obtain ⟨d0, hd0⟩ : ∃ d0, cA (l.take k) = d0 := ⟨_, rfl⟩
      rw [ha0] at e1 hle ⊢; rw [hb0] at e2 hle ⊢; rw [hd0] at e3 hle ⊢
      subst hs
      have h1 := fun w => hasp_is x .ctx ⟨#[32]⟩ rfl _ rfl w
      have h2 := fun w => hasp_is x .del ⟨#[45]⟩ rfl _ rfl w
      have h3 := fun w => hasp_is x .add ⟨#[43]⟩ rfl _ rfl w
      have E1 := Lib.hid e1; have E2 := Lib.hid e2; have E3 := Lib.hid e3
      clear hs1 hx htk ha0 hb0 hd0 e1 e2 e3
      obtain ⟨y, ys⟩ := x
      obtain ⟨s, hs⟩ : ∃ s, lnS ⟨y, ys⟩ = s := ⟨_, rfl⟩
      rw [hs] at h1 h2 h3 hc1 hs2
      clear hs
      unfold Reach at hs2
      have H1 := Lib.hid h1; have H2 := Lib.hid h2; have H3 := Lib.hid h3
      clear h1 h2 h3
      cases y
      · go_wp2_with fail
        refine (H1.out _).mono ?_
        rintro e w1 ⟨rfl, rfl⟩
        go_wp2_with fail
        go_roundw
        case rel => exact ⟨k + 1, by omega, by go_num, trivial, by rw [E1.out]; simp, by rw [E2.out]; simp, by rw [E3.out]; simp⟩
        case measure => simp [intOf]; omega
      · go_wp2_with fail
        refine (H1.out _).mono ?_
        rintro e w1 ⟨rfl, rfl⟩
        go_wp2_with fail
        refine (H2.out _).mono ?_
        rintro e w1 ⟨rfl, rfl⟩
        go_wp2_with fail
        go_roundw
        case rel => exact ⟨k + 1, by omega, by go_num, trivial, by rw [E1.out]; simp, by rw [E2.out]; simp, by rw [E3.out]; simp⟩
        case measure => simp [intOf]; omega
      · go_wp2_with fail
        refine (H1.out _).mono ?_
        rintro e w1 ⟨rfl, rfl⟩
        go_wp2_with fail
        refine (H2.out _).mono ?_
        rintro e w1 ⟨rfl, rfl⟩
        go_wp2_with fail
        refine (H3.out _).mono ?_
        rintro e w1 ⟨rfl, rfl⟩
        go_wp2_with fail
        go_roundw
        case rel => exact ⟨k + 1, by omega, by go_num, trivial, by rw [E1.out]; simp, by rw [E2.out]; simp, by rw [E3.out]; simp⟩
        case measure => simp [intOf]; omega
    · go_wp2_with fail
      refine bodyPost_ret (v := .tuple #[.int .i64 (cK (l.take k) : Int), .int .i64 (cD (l.take k) : Int), .int .i64 (cA (l.take k) : Int), .bool true]) (by simp [results, Tryz.results60, go_sem]) rfl ⟨?_, rfl⟩
      rw [List.take_of_length_le (by rw [HN.out]; omega)]

/-! ### The closures of checkBlock -/
def BSmall (m : BkM) : Prop := (0 ≤ m.oa ∧ m.oa ≤ 100000) ∧ (0 ≤ m.ol ∧ m.ol ≤ 100000) ∧ (0 ≤ m.na ∧ m.na ≤ 100000) ∧ (0 ≤ m.nl ∧ m.nl ≤ 100000)
theorem Blk.cells5 {w : World} {g : Nat} {t : TypeId} {a b c d e : Value} (h : Blk w g (.cells #[a, b, c, d, e] t (0, 0))) : w.cell? ⟨g, 0, none⟩ = some a ∧ w.cell? ⟨g, 1, none⟩ = some b ∧ w.cell? ⟨g, 2, none⟩ = some c ∧ w.cell? ⟨g, 3, none⟩ = some d ∧ w.cell? ⟨g, 4, none⟩ = some e :=
  ⟨h.cell 0, h.cell 1, h.cell 2, h.cell 3, h.cell 4⟩
set_option maxHeartbeats 1000000 in
theorem cb1_is {g : Nat} {m : BkM} {w : World} (h : Blk w g m.obj) (hs : BSmall m) :
    Calls Tryz.prog 82 #[.pointer (some ⟨g, 0, none⟩)] w fun e w' => e = .returned (.bool false) ∧ w' = w := by
  obtain ⟨c0, c1, c2, c3, c4⟩ := h.cells5
  obtain ⟨⟨s1, s2⟩, ⟨s3, s4⟩, ⟨s5, s6⟩, ⟨s7, s8⟩⟩ := hs
  go_enter Tryz.func82, Tryz.ntmps82
  go_wp2_with fail
  refine (inrange_is (by omega) (by omega)).mono ?_
  rintro e w1 ⟨rfl, rfl⟩
  go_wp2_with fail
  refine (inrange_is (by omega) (by omega)).mono ?_
  rintro e w1 ⟨rfl, rfl⟩
  go_wp2_with fail
  go_ret
  exact ⟨rfl, rfl⟩
set_option maxHeartbeats 1000000 in
theorem cb2_is {g : Nat} {w : World} (h : Blk w g (.cells #[.bool true] 4)) :
    Calls Tryz.prog 83 #[.pointer (some ⟨g, 0, none⟩)] w fun e w' => e = .returned (.bool false) ∧ w' = w := by
  have c0 := h.cell 0
  replace c0 : w.cell? ⟨g, 0, none⟩ = some (.bool true) := c0
  go_enter Tryz.func83, Tryz.ntmps83
  go_wp2_with fail
  go_ret
  exact ⟨rfl, rfl⟩
set_option maxHeartbeats 1000000 in
theorem cb3_is {g g' : Nat} {x y : Int} {w : World} (h : Blk w g (.cells #[.int .i64 x] 3)) (h' : Blk w g' (.cells #[.int .i64 y] 3)) (hx : 0 ≤ x ∧ x ≤ 100000) (hy : 0 ≤ y ∧ y ≤ 100000) (hxy : 0 < x + y) :
    Calls Tryz.prog 84 #[.pointer (some ⟨g, 0, none⟩), .pointer (some ⟨g', 0, none⟩)] w fun e w' => e = .returned (.bool false) ∧ w' = w := by
  have c0 := h.cell 0; have c1 := h'.cell 0
  replace c0 : w.cell? ⟨g, 0, none⟩ = some (.int .i64 x) := c0
  replace c1 : w.cell? ⟨g', 0, none⟩ = some (.int .i64 y) := c1
  have hne : (x + y == 0) = false := by rw [beq_eq_false_iff_ne]; omega
  go_enter Tryz.func84, Tryz.ntmps84
  go_wp2_with fail
  go_ret
  exact ⟨rfl, rfl⟩
set_option maxHeartbeats 1000000 in
theorem cb4_is {g k d a s : Nat} {m : BkM} {x y z sh : Int} {w : World} (h : Blk w g m.obj) (hk : Blk w k (.cells #[.int .i64 x] 3)) (hd : Blk w d (.cells #[.int .i64 y] 3)) (ha : Blk w a (.cells #[.int .i64 z] 3)) (hs : Blk w s (.cells #[.int .i64 sh] 3))
    (hm : BSmall m) (hx : 0 ≤ x ∧ x ≤ 100000) (hy : 0 ≤ y ∧ y ≤ 100000) (hz : 0 ≤ z ∧ z ≤ 100000) (hsh : -100000 ≤ sh ∧ sh ≤ 100000) (h1 : m.ol = x + y) (h2 : m.nl = x + z) (h3 : m.na = m.oa + sh) :
    Calls Tryz.prog 85 #[.pointer (some ⟨g, 0, none⟩), .pointer (some ⟨k, 0, none⟩), .pointer (some ⟨d, 0, none⟩), .pointer (some ⟨a, 0, none⟩), .pointer (some ⟨s, 0, none⟩)] w fun e w' => e = .returned (.bool false) ∧ w' = w := by
  obtain ⟨c0, c1, c2, c3, c4⟩ := h.cells5
  have d1 := hk.cell 0; have d2 := hd.cell 0; have d3 := ha.cell 0; have d4 := hs.cell 0
  replace d1 : w.cell? ⟨k, 0, none⟩ = some (.int .i64 x) := d1
  replace d2 : w.cell? ⟨d, 0, none⟩ = some (.int .i64 y) := d2
  replace d3 : w.cell? ⟨a, 0, none⟩ = some (.int .i64 z) := d3
  replace d4 : w.cell? ⟨s, 0, none⟩ = some (.int .i64 sh) := d4
  obtain ⟨⟨s1, s2⟩, ⟨s3, s4⟩, ⟨s5, s6⟩, ⟨s7, s8⟩⟩ := hm
  have q1 : (m.ol != x + y) = false := by simp [h1]
  have q2 : (m.nl != x + z) = false := by simp [h2]
  have q3 : (m.na != m.oa + sh) = false := by simp [h3]
  clear h1 h2 h3
  go_enter Tryz.func85, Tryz.ntmps85
  go_wp2_with fail
  go_ret
  exact ⟨rfl, rfl⟩
set_option maxHeartbeats 1000000 in
theorem cb5_is {g : Nat} {m : BkM} {w : World} (h : Blk w g m.obj) (hs : BSmall m) :
    Calls Tryz.prog 86 #[.pointer (some ⟨g, 0, none⟩)] w fun e w' => e = .returned (.bool false) ∧ w' = w := by
  obtain ⟨c0, c1, c2, c3, c4⟩ := h.cells5
  obtain ⟨⟨s1, s2⟩, ⟨s3, s4⟩, ⟨s5, s6⟩, ⟨s7, s8⟩⟩ := hs
  go_enter Tryz.func86, Tryz.ntmps86
  go_wp2_with fail
  refine (inrange_is (by omega) (by omega)).mono ?_
  rintro e w1 ⟨rfl, rfl⟩
  go_wp2_with fail
  refine (inrange_is (by omega) (by omega)).mono ?_
  rintro e w1 ⟨rfl, rfl⟩
  go_wp2_with fail
  go_ret
  exact ⟨rfl, rfl⟩
theorem touch_is {m y : BkM} {w : World} (hm : BSmall m) (hy : BSmall y) (h : y.oa + y.ol < m.oa) :
    Calls Tryz.prog 88 #[y.val, m.val] w fun e w' => e = .returned (.bool false) ∧ Ext w w' := by
  obtain ⟨⟨s1, s2⟩, ⟨s3, s4⟩, -, -⟩ := hm
  obtain ⟨⟨t1, t2⟩, ⟨t3, t4⟩, -, -⟩ := hy
  have hne : (m.oa == y.oa + y.ol) = false := by rw [beq_eq_false_iff_ne]; omega
  go_enter Tryz.func88, Tryz.ntmps88
  go_wp2_with fail
  go_ret
  exact ⟨rfl, ((Ext.refl _).alloc _).alloc _⟩
set_option maxHeartbeats 2000000 in
theorem cb6_is {g gb : Nat} {A : Option Addr} {n c : Nat} {xs : List Bk} {m : BkM} {w : World} (hb : Blk w gb (.cells #[.slice A n c] 44)) (hxs : Bks w A n xs) (h : Blk w g m.obj) (hs : BSmall m) (hn : n ≤ 100000)
    (hlast : ∀ (k : Nat) (y : Bk), k + 1 = n → xs[k]? = some y → (y.oa : Int) + y.ol < m.oa ∧ y.oa ≤ 100000 ∧ y.ol ≤ 100000 ∧ y.na ≤ 100000 ∧ y.nl ≤ 100000) :
    Calls Tryz.prog 87 #[.pointer (some ⟨gb, 0, none⟩), .pointer (some ⟨g, 0, none⟩)] w fun e w' => e = .returned (.bool false) ∧ Ext w w' := by
  have c0 := hb.cell 0
  replace c0 : w.cell? ⟨gb, 0, none⟩ = some (.slice A n c) := c0
  by_cases h0 : n = 0
  · subst h0
    go_enter Tryz.func87, Tryz.ntmps87
    go_wp2_with fail
    go_ret
    exact ⟨rfl, Ext.refl _⟩
  · obtain ⟨k, rfl⟩ : ∃ k, n = k + 1 := ⟨n - 1, by omega⟩
    obtain ⟨b, off, y, x, rfl, hb1, hx, hr, e0, e1, e2, e3, e4⟩ := hxs.get (k := k) (by omega)
    obtain ⟨l1, l2, l3, l4, l5⟩ := hlast k x rfl hx
    have hy : BSmall y := ⟨by rw [hr.oa]; omega, by rw [hr.ol]; omega, by rw [hr.na]; omega, by rw [hr.nl]; omega⟩
    have hlt : y.oa + y.ol < m.oa := by rw [hr.oa, hr.ol]; exact l1
    have HS := Lib.hid hs
    obtain ⟨⟨s1, s2⟩, ⟨s3, s4⟩, ⟨s5, s6⟩, ⟨s7, s8⟩⟩ := hs
    have HY := Lib.hid hy
    obtain ⟨⟨t1, t2⟩, ⟨t3, t4⟩, -, -⟩ := hy
    have f1 := h.alloc y.obj
    obtain ⟨d0, d1, d2, d3, d4⟩ := f1.cells5
    have hi : ((k : Int) + 1 - 1) = k := by omega
    have hnot : ¬ (m.oa < y.oa + y.ol) := by omega
    clear hx hr hxs hlast hb h f1
    go_enter Tryz.func87, Tryz.ntmps87
    go_wp2_with fail
    refine (touch_is HS.out HY.out hlt).mono ?_
    rintro e w1 ⟨rfl, hE⟩
    go_wp2_with fail
    go_ret
    exact ⟨rfl, ((Ext.refl _).alloc _).trans hE⟩
end Go.Proofs.YtmmcjcaccicheaaGreatDoor
/- Contracts: checkBlock; check. -/
namespace Go.Proofs.YtmmcjcaccicheaaGreatDoor
open Go.RowKit

set_option maxRecDepth 100000 in
set_option maxHeartbeats 4000000 in
theorem checkBlock_is {A : Option Addr} {n c : Nat} {xs : List Bk} {m : BkM} {x : Bk} {sh e : Int} {w : World} (hxs : Bks w A n xs) (hn : n ≤ 100000) (hm : BRel w m x) (hok : BkOk sh e x) (hsh : -100000 ≤ sh ∧ sh ≤ 100000) (hl : x.ls.length ≤ 100000)
    (hlast : ∀ (k : Nat) (y : Bk), k + 1 = n → xs[k]? = some y → (y.oa : Int) + y.ol = e ∧ y.oa ≤ 100000 ∧ y.ol ≤ 100000 ∧ y.na ≤ 100000 ∧ y.nl ≤ 100000) :
    Calls Tryz.prog 65 #[.slice A n c, m.val, .int .i64 sh] w fun r w' => r = .returned (.int .i64 0) ∧ Ext w w' := by
  have hmo := hok.mo; have hmn := hok.mn
  have hs : BSmall m := ⟨by rw [hm.oa]; omega, by rw [hm.ol]; omega, by rw [hm.na]; omega, by rw [hm.nl]; omega⟩
  have hll : m.ln = x.ls.length := by have := hm.ls.1; simp at this; exact this.symm
  have hlt := hok.lt
  have hlast' : ∀ (k : Nat) (y : Bk), k + 1 = n → xs[k]? = some y → (y.oa : Int) + y.ol < m.oa ∧ y.oa ≤ 100000 ∧ y.ol ≤ 100000 ∧ y.na ≤ 100000 ∧ y.nl ≤ 100000 := fun k y hk hy => by
    obtain ⟨h1, h2⟩ := hlast k y hk hy
    exact ⟨by rw [hm.oa]; omega, h2⟩
  have k1 := c_old x.ls; have k2 := c_new x.ls; have k3 := c_le x.ls; have k4 := c_chg hok.chg
  have o1 := hok.ol; have o2 := hok.nl; have o3 := hok.na
  have q1 : m.ol = (cK x.ls : Int) + cD x.ls := by rw [hm.ol]; omega
  have q2 : m.nl = (cK x.ls : Int) + cA x.ls := by rw [hm.nl]; omega
  have q3 : m.na = m.oa + sh := by rw [hm.na, hm.oa]; omega
  obtain ⟨K, hK⟩ : ∃ K, cK x.ls = K := ⟨_, rfl⟩
  obtain ⟨D, hD⟩ : ∃ D, cD x.ls = D := ⟨_, rfl⟩
  obtain ⟨R, hR⟩ : ∃ R, cA x.ls = R := ⟨_, rfl⟩
  have hcnt := fun w' (h : Ext w w') => counts_any m.la m.ln m.lc x.ls w' (hm.ls.ext h) (by omega)
  rw [hK, hD, hR] at hcnt
  rw [hK, hD] at q1; rw [hK, hR] at q2; rw [hD, hR] at k4; rw [hK, hD, hR] at k3
  have HX := Lib.hid hxs; have HS := Lib.hid hs; have HL := Lib.hid hlast'; have HC := Lib.hid hcnt; have Q1 := Lib.hid q1; have Q2 := Lib.hid q2; have Q3 := Lib.hid q3
  clear hxs hm hok hlast hlast' k1 k2 o1 o2 o3 hK hD hR hcnt q1 q2 q3 hmo hmn hll hlt hs
  obtain ⟨⟨s1, s2⟩, ⟨s3, s4⟩, ⟨s5, s6⟩, ⟨s7, s8⟩⟩ := HS.out
  obtain ⟨B0, hB0⟩ : ∃ B0, w.heap.size = B0 := ⟨_, rfl⟩
  go_enter Tryz.func65, Tryz.ntmps65
  go_wp2_with fail
  refine (HC.out _ ((((Ext.refl _).alloc _).alloc _).alloc _)).mono ?_
  rintro e1 w1 ⟨rfl, hw1⟩
  have K1 := Lib.hid ((((Know.start w).new (.cells #[.slice A n c] 44) rfl).new m.obj (g := w.heap.size + 1) (by simp)).new (.cells #[.int .i64 sh] 3) (g := w.heap.size + 1 + 1) (by simp))
  rw [← hw1] at K1
  have hz1 : w1.heap.size = w.heap.size + 3 := by rw [hw1]; simp
  have HZ1 := Lib.hid hz1
  clear hw1 hz1
  go_wp2_with fail
  obtain ⟨G, hG⟩ : ∃ G, w1.heap.size = G := ⟨_, rfl⟩
  have K2 := ((((K1.out.new (.cells #[.int .i64 K] 3) hG.symm).new (.cells #[.int .i64 D] 3) (g := G + 1) (by simp [hG])).new (.cells #[.int .i64 R] 3) (g := G + 1 + 1) (by simp [hG])).new (.cells #[.bool true] 4) (g := G + 1 + 1 + 1) (by simp [hG])).new (.cells #[.func (.func 82) #[] #[.pointer (some ⟨B0 + 1, 0, none⟩)], .int .i64 2, .func (.func 83) #[] #[.pointer (some ⟨G + 1 + 1 + 1, 0, none⟩)], .int .i64 3,
    .func (.func 84) #[] #[.pointer (some ⟨G + 1, 0, none⟩), .pointer (some ⟨G + 1 + 1, 0, none⟩)], .int .i64 1,
    .func (.func 85) #[] #[.pointer (some ⟨B0 + 1, 0, none⟩), .pointer (some ⟨G, 0, none⟩), .pointer (some ⟨G + 1, 0, none⟩), .pointer (some ⟨G + 1 + 1, 0, none⟩), .pointer (some ⟨B0 + 1 + 1, 0, none⟩)], .int .i64 10,
    .func (.func 86) #[] #[.pointer (some ⟨B0 + 1, 0, none⟩)], .int .i64 2,
    .func (.func 87) #[] #[.pointer (some ⟨B0, 0, none⟩), .pointer (some ⟨B0 + 1, 0, none⟩)], .int .i64 9] 150) (g := G + 1 + 1 + 1 + 1) (by simp [hG])
  rw [hB0] at K2
  rw [hG]
  obtain ⟨L, hL⟩ : ∃ L, L = [(G + 1 + 1 + 1 + 1, Obj.cells #[.func (.func 82) #[] #[.pointer (some ⟨B0 + 1, 0, none⟩)], .int .i64 2, .func (.func 83) #[] #[.pointer (some ⟨G + 1 + 1 + 1, 0, none⟩)], .int .i64 3,
    .func (.func 84) #[] #[.pointer (some ⟨G + 1, 0, none⟩), .pointer (some ⟨G + 1 + 1, 0, none⟩)], .int .i64 1,
    .func (.func 85) #[] #[.pointer (some ⟨B0 + 1, 0, none⟩), .pointer (some ⟨G, 0, none⟩), .pointer (some ⟨G + 1, 0, none⟩), .pointer (some ⟨G + 1 + 1, 0, none⟩), .pointer (some ⟨B0 + 1 + 1, 0, none⟩)], .int .i64 10,
    .func (.func 86) #[] #[.pointer (some ⟨B0 + 1, 0, none⟩)], .int .i64 2,
    .func (.func 87) #[] #[.pointer (some ⟨B0, 0, none⟩), .pointer (some ⟨B0 + 1, 0, none⟩)], .int .i64 9] 150), (G + 1 + 1 + 1, Obj.cells #[.bool true] 4), (G + 1 + 1, Obj.cells #[.int .i64 R] 3), (G + 1, Obj.cells #[.int .i64 D] 3), (G, Obj.cells #[.int .i64 K] 3), (B0 + 1 + 1, Obj.cells #[.int .i64 sh] 3), (B0 + 1, m.obj), (B0, Obj.cells #[.slice A n c] 44)] := ⟨_, rfl⟩
  rw [← hL] at K2
  have HL' := Lib.hid hL
  have K3 := Lib.hid K2
  clear hL K2 K1 hB0 hG
  obtain ⟨W2, hW2⟩ : ∃ W2, W2 = ((((w1.alloc (.cells #[.int .i64 K] 3)).alloc (.cells #[.int .i64 D] 3)).alloc (.cells #[.int .i64 R] 3)).alloc (.cells #[.bool true] 4)).alloc (.cells #[.func (.func 82) #[] #[.pointer (some ⟨B0 + 1, 0, none⟩)], .int .i64 2, .func (.func 83) #[] #[.pointer (some ⟨G + 1 + 1 + 1, 0, none⟩)], .int .i64 3,
    .func (.func 84) #[] #[.pointer (some ⟨G + 1, 0, none⟩), .pointer (some ⟨G + 1 + 1, 0, none⟩)], .int .i64 1,
    .func (.func 85) #[] #[.pointer (some ⟨B0 + 1, 0, none⟩), .pointer (some ⟨G, 0, none⟩), .pointer (some ⟨G + 1, 0, none⟩), .pointer (some ⟨G + 1 + 1, 0, none⟩), .pointer (some ⟨B0 + 1 + 1, 0, none⟩)], .int .i64 10,
    .func (.func 86) #[] #[.pointer (some ⟨B0 + 1, 0, none⟩)], .int .i64 2,
    .func (.func 87) #[] #[.pointer (some ⟨B0, 0, none⟩), .pointer (some ⟨B0 + 1, 0, none⟩)], .int .i64 9] 150) := ⟨_, rfl⟩
  rw [← hW2] at K3 ⊢
  clear hW2
  go_loopw [37] (fun i wr => ∃ k : Nat, k ≤ 6 ∧ i = .int .i64 k ∧ Know w L wr) (fun i _ => 6 - (intOf i).toNat)
  case atStart => exact ⟨0, by omega, rfl, K3.out⟩
  case round =>
    obtain ⟨k, hk, rfl, hK⟩ := hrel
    have HK := Lib.hid hK; clear hK
    have bC := HK.out.at 0 (by rw [HL'.out]; rfl)
    have bK := Lib.hid (HK.out.at 4 (by rw [HL'.out]; rfl)); have bD := Lib.hid (HK.out.at 3 (by rw [HL'.out]; rfl)); have bR := Lib.hid (HK.out.at 2 (by rw [HL'.out]; rfl))
    have bO := Lib.hid (HK.out.at 1 (by rw [HL'.out]; rfl)); have bS := Lib.hid (HK.out.at 5 (by rw [HL'.out]; rfl)); have bM := Lib.hid (HK.out.at 6 (by rw [HL'.out]; rfl)); have bA := Lib.hid (HK.out.at 7 (by rw [HL'.out]; rfl))
    have hcell := fun i => Blk.cell bC i
    have HCE := Lib.hid hcell
    clear bC hcell
    have hcase : k = 0 ∨ k = 1 ∨ k = 2 ∨ k = 3 ∨ k = 4 ∨ k = 5 ∨ k = 6 := by omega
    clear hk
    rcases hcase with rfl | rfl | rfl | rfl | rfl | rfl | rfl
    · have e0 := HCE.out 0; have e1 := HCE.out 1
      simp only [List.getElem?_toArray, List.getElem?_cons_zero, List.getElem?_cons_succ] at e0 e1
      go_wp2_with fail
      refine (cb1_is (bM.out.alloc _) HS.out).mono ?_
      rintro e2 w2 ⟨rfl, rfl⟩
      go_wp2_with fail
      go_roundw
      case rel => exact ⟨1, by omega, by go_num, HK.out.ext ((Ext.refl _).alloc _)⟩
      case measure => simp [intOf]
    · have e0 := HCE.out 2; have e1 := HCE.out 3
      simp only [List.getElem?_toArray, List.getElem?_cons_zero, List.getElem?_cons_succ] at e0 e1
      go_wp2_with fail
      refine (cb2_is (bO.out.alloc _)).mono ?_
      rintro e2 w2 ⟨rfl, rfl⟩
      go_wp2_with fail
      go_roundw
      case rel => exact ⟨2, by omega, by go_num, HK.out.ext ((Ext.refl _).alloc _)⟩
      case measure => simp [intOf]
    · have e0 := HCE.out 4; have e1 := HCE.out 5
      simp only [List.getElem?_toArray, List.getElem?_cons_zero, List.getElem?_cons_succ] at e0 e1
      go_wp2_with fail
      refine (cb3_is (bD.out.alloc _) (bR.out.alloc _) (by omega) (by omega) (by omega)).mono ?_
      rintro e2 w2 ⟨rfl, rfl⟩
      go_wp2_with fail
      go_roundw
      case rel => exact ⟨3, by omega, by go_num, HK.out.ext ((Ext.refl _).alloc _)⟩
      case measure => simp [intOf]
    · have e0 := HCE.out 6; have e1 := HCE.out 7
      simp only [List.getElem?_toArray, List.getElem?_cons_zero, List.getElem?_cons_succ] at e0 e1
      go_wp2_with fail
      refine (cb4_is (bM.out.alloc _) (bK.out.alloc _) (bD.out.alloc _) (bR.out.alloc _) (bS.out.alloc _) HS.out (by omega) (by omega) (by omega) hsh Q1.out Q2.out Q3.out).mono ?_
      rintro e2 w2 ⟨rfl, rfl⟩
      go_wp2_with fail
      go_roundw
      case rel => exact ⟨4, by omega, by go_num, HK.out.ext ((Ext.refl _).alloc _)⟩
      case measure => simp [intOf]
    · have e0 := HCE.out 8; have e1 := HCE.out 9
      simp only [List.getElem?_toArray, List.getElem?_cons_zero, List.getElem?_cons_succ] at e0 e1
      go_wp2_with fail
      refine (cb5_is (bM.out.alloc _) HS.out).mono ?_
      rintro e2 w2 ⟨rfl, rfl⟩
      go_wp2_with fail
      go_roundw
      case rel => exact ⟨5, by omega, by go_num, HK.out.ext ((Ext.refl _).alloc _)⟩
      case measure => simp [intOf]
    · have e0 := HCE.out 10; have e1 := HCE.out 11
      simp only [List.getElem?_toArray, List.getElem?_cons_zero, List.getElem?_cons_succ] at e0 e1
      go_wp2_with fail
      refine (cb6_is (bA.out.alloc _) (HX.out.ext (HK.out.1.trans ((Ext.refl _).alloc _))) (bM.out.alloc _) HS.out hn HL.out).mono ?_
      rintro e2 w2 ⟨rfl, hE⟩
      go_wp2_with fail
      go_roundw
      case rel => exact ⟨6, by omega, by go_num, HK.out.ext (((Ext.refl _).alloc _).trans hE)⟩
      case measure => simp [intOf]
    · go_wp2_with fail
      go_ret
      exact ⟨rfl, HK.out.1⟩

theorem Bks.take {w : World} {A : Option Addr} {n : Nat} {xs : List Bk} (h : Bks w A n xs) {k : Nat} (hk : k ≤ n) : Bks w A k (xs.take k) := by
  obtain ⟨ms, h1, h2, h3, h4⟩ := h
  refine ⟨ms.take k, by rw [List.length_take]; omega, by rw [List.length_take]; omega, ?_, fun j m x hm hx => ?_⟩
  · have := h3.take (k * 5)
    have e : (ms.flatMap BkM.cells).take (k * 5) = (ms.take k).flatMap BkM.cells := by
      conv => lhs; rw [← List.take_append_drop k ms, List.flatMap_append]
      have hl : ((ms.take k).flatMap BkM.cells).length = k * 5 := by rw [flat_len bk_cells_len, List.length_take]; congr 1; omega
      rw [← hl, List.take_left]
    rw [e] at this; exact this
  · rw [List.getElem?_take] at hm hx
    split at hm
    · rename_i hj; rw [if_pos hj] at hx; exact h4 j m x hm hx
    · cases hm
/-- What holds of check when k blocks have passed. -/
structure ChkS (xs : List Bk) (k : Nat) (sh e : Int) : Prop where
  ok : okKs sh e (xs.drop k)
  last : ∀ (j : Nat) (y : Bk), j + 1 = k → xs[j]? = some y → (y.oa : Int) + y.ol = e ∧ y.oa ≤ 100000 ∧ y.ol ≤ 100000 ∧ y.na ≤ 100000 ∧ y.nl ≤ 100000
  lo : -100000 ≤ sh
  hi : sh ≤ 100000
theorem ChkS.step {xs : List Bk} {k : Nat} {sh e : Int} {x : Bk} (h : ChkS xs k sh e) (hx : xs[k]? = some x) : BkOk sh e x ∧ ChkS xs (k + 1) (sh + x.nl - x.ol) (x.oa + x.ol) := by
  have ho := h.ok
  rw [drop_of hx, okKs] at ho
  have h1 := ho.1.mo; have h2 := ho.1.mn; have h3 := ho.1.na
  refine ⟨ho.1, ho.2, fun j y hj hy => ?_, by omega, by omega⟩
  obtain rfl : j = k := by omega
  rw [hx] at hy
  cases hy
  exact ⟨rfl, by omega, by omega, by omega, by omega⟩
set_option maxRecDepth 100000 in
set_option maxHeartbeats 4000000 in
theorem chk_any (A : Option Addr) (n c : Nat) (xs : List Bk) (w : World) (hxs : Bks w A n xs) (hn : n ≤ 100000) (hnc : n ≤ c) (hc0 : c ≤ maxLen) (hok : okKs 0 (-1) xs) (hl : ∀ x ∈ xs, x.ls.length ≤ 100000) :
    Calls Tryz.prog 40 #[.slice A n c] w fun r w' => r = .returned (.tuple #[.int .i64 0, .int .i64 0]) ∧ Ext w w' := by
  have hlen := hxs.len
  have h0 : ChkS xs 0 0 (-1) := ⟨hok, fun _ _ h _ => by omega, by omega, by omega⟩
  have HX := Lib.hid hxs; have HL := Lib.hid hl; have H0 := Lib.hid h0; have HN := Lib.hid hlen; clear hxs hl h0 hlen hok
  simp only [maxLen] at hc0
  go_enter Tryz.func40, Tryz.ntmps40
  go_wp2_with fail
  go_loopw [4, 10] (fun s i wr => ∃ (k : Nat) (sh e : Int), k ≤ n ∧ i = .int .i64 k ∧ s = .int .i64 sh ∧ Ext w wr ∧ ChkS xs k sh e) (fun _ i _ => n - (intOf i).toNat)
  case atStart => exact ⟨0, 0, -1, Nat.zero_le _, rfl, rfl, Ext.refl _, H0.out⟩
  case round =>
    obtain ⟨k, sh, e, hk, rfl, rfl, hE, hS⟩ := hrel
    have HE := Lib.hid hE; have HS := Lib.hid hS; clear hE
    by_cases hlt : k < n
    · obtain ⟨b, off, m, x, rfl, hb1, hx, hr, c0, c1, c2, c3, c4⟩ := (HX.out.ext HE.out).get hlt
      obtain ⟨hok, hS'⟩ := hS.step hx
      have hll := HL.out x (mem_of_get hx)
      have hlo := hS.lo; have hhi := hS.hi; have hlo' := hS'.lo; have hhi' := hS'.hi
      have HS' := Lib.hid hS'
      have K1 := Lib.hid ((Know.start wr).new m.obj rfl)
      have HR := Lib.hid hr
      have mn1 := hok.mn; have mo1 := hok.mo
      have G1 := Lib.hid hr.nl
      have G2 := Lib.hid hr.ol
      have bs1 : (m.oa : Int) ≤ 100000 := by rw [hr.oa]; omega
      have bs3 : 0 ≤ m.nl ∧ m.nl ≤ 100000 := by rw [hr.nl]; omega
      have bs4 : 0 ≤ m.ol ∧ m.ol ≤ 100000 := by rw [hr.ol]; omega
      have hcall : ∀ wx, Know wr [(wr.heap.size, m.obj)] wx → Calls Tryz.prog 65 #[.slice (some ⟨b, off, none⟩) k c, m.val, .int .i64 sh] wx fun r w' => r = .returned (.int .i64 0) ∧ Ext wx w' := fun wx hx' =>
        checkBlock_is (xs := xs.take k) ((HX.out.ext (HE.out.trans hx'.1)).take hk) (by omega) (HR.out.ext hx'.1) hok ⟨hlo, hhi⟩ hll (fun j y hj hy => by
          rw [List.getElem?_take] at hy
          split at hy
          · exact HS.out.last j y hj hy
          · cases hy)
      have HC := Lib.hid hcall
      have hkc : (k : Int) ≤ c := by omega
      clear hx hr hok hS' hll hcall hS
      go_wp2_with fail
      refine wp_region_text (Know wr [(wr.heap.size, m.obj)]) [0,1,2,3,4,5,6] (by kernel_rfl) (Know.stab _ _) K1.out.drew (by kernel_rfl) (fun _ d _ _ _ h => by cases d <;> exact h) ?_
      iterate 7
        refine wpTk_want rfl (Eq.refl true) ?_
        apply Exists.intro
        refine ⟨fun wx hx => ?_, ?_⟩
        · obtain ⟨d0, d1, d2, d3, d4⟩ := (hx.at 0 rfl).cells5
          have HXX := Lib.hid hx; clear hx
          go_simp
          first
            | with_reducible exact gives_ok _ _ _
            | (have r := HC.out _ HXX.out; with_reducible exact gives_call _ _ _ r)
        simp only [Act.put, List.setIfInBounds_toArray, List.set_cons_zero, List.set_cons_succ]
      refine wpTk_nil ?_
      intro w3 hK
      obtain ⟨d0, d1, d2, d3, d4⟩ := (hK.at 0 rfl).cells5
      have K3 := Lib.hid hK; clear hK
      go_wp2_with fail
      go_roundw
      case rel => exact ⟨k + 1, _, _, by omega, by go_num, by rw [G1.out, G2.out]; exact congrArg (Value.int .i64) (by omega), HE.out.trans K3.out.1, HS'.out⟩
      case measure => simp [intOf]; omega
    · go_wp2_with fail
      refine bodyPost_ret (v := .tuple #[.int .i64 0, .int .i64 0]) (by simp [results, Tryz.results40, go_sem]) rfl ⟨rfl, HE.out⟩
end Go.Proofs.YtmmcjcaccicheaaGreatDoor
