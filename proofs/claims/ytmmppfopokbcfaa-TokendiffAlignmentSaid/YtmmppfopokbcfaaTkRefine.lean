/- Contract: Refine. -/
import Derived.Test.YtmmppfopokbcfaaTkMem
import Derived.Test.YtmmppfopokbcfaaMyDiff
namespace Go.Proofs.Ytmmppfopokbcfaa
open Go.RowKit

/-- Matches behind a place, within the lists. -/
def okF (n m : Nat) : Int → Int → List Mt → Prop
  | _, _, [] => True
  | x, y, k :: r => (1 ≤ k.n ∧ x ≤ k.a ∧ y ≤ k.b ∧ k.a + k.n ≤ n ∧ k.b + k.n ≤ m) ∧ okF n m (k.a + k.n) (k.b + k.n) r
theorem okF_of {a b : Lns} : ∀ (ms : List Mt) (x y : Int), checkV a b x y ms = 0 → okF a.length b.length x y ms
  | [], _, _, _ => trivial
  | m :: r, x, y, h => by
    rw [checkV] at h
    by_cases hc : codeV a b x y m = 0
    · rw [if_pos hc] at h
      obtain ⟨h1, h2, h3, h4, h5, h6, h7, -, -⟩ := codeV_zero hc
      exact ⟨⟨h1, h6, h7, h4, h5⟩, okF_of r _ _ h⟩
    · rw [if_neg hc] at h; exact absurd h hc
theorem okF_start {a b : Lns} {ms : List Mt} (h : checkV a b (-1) (-1) ms = 0) : okF a.length b.length 0 0 ms := by
  cases ms with
  | nil => trivial
  | cons m r =>
    rw [checkV] at h
    by_cases hc : codeV a b (-1) (-1) m = 0
    · rw [if_pos hc] at h
      obtain ⟨h1, h2, h3, h4, h5, -, -, -, -⟩ := codeV_zero hc
      exact ⟨⟨h1, h2, h3, h4, h5⟩, okF_of r _ _ h⟩
    · rw [if_neg hc] at h; exact absurd h hc
theorem cutW_nat (a : Lns) (x y : Nat) : cutW a x y = (a.drop x).take (y - x) := rfl
theorem strs_cutW {w : World} {A A' : Option Addr} {n c : Nat} {a : Lns} (h : Strs w A n a) (hc : n ≤ c) {x y : Nat} (hxy : x ≤ y) (hy : y ≤ n) (hA : (if c = x then A else A.map (fun z => z.add x)) = A') : Strs w A' (y - x) (cutW a x y) := by
  subst hA
  obtain rfl := h.1
  refine ⟨?_, fun s hs => h.2.1 s (List.drop_subset _ _ (List.take_subset _ _ hs)), ?_⟩
  · rw [cutW_nat, List.length_take, List.length_drop]; omega
  · have hk := (h.2.2.cut (k := x) (size := 1) (cap := c) (by simp; omega)).take (y - x)
    rw [Nat.mul_one] at hk
    rw [cutW_nat, List.map_take, List.map_drop]
    exact hk
theorem strs_cutL {w : World} {A A' : Option Addr} {n c : Nat} {a : Lns} (h : Strs w A n a) (hc : n ≤ c) {x l : Nat} (hy : x + l ≤ n) (hA : (if c = x then A else A.map (fun z => z.add x)) = A') : Strs w A' l (cutW a x ((x : Int) + l)) := by
  have := strs_cutW h hc (x := x) (y := x + l) (by omega) hy hA
  rwa [show x + l - x = l by omega, show ((x + l : Nat) : Int) = (x : Int) + l by omega] at this
theorem strs_cutE {w : World} {A A' : Option Addr} {n c : Nat} {a : Lns} (h : Strs w A n a) (hc : n ≤ c) {x : Nat} (hy : x ≤ n) (hA : (if c = x then A else A.map (fun z => z.add x)) = A') : Strs w A' (n - x) (a.drop x) := by
  have := strs_cutW h hc hy (Nat.le_refl _) hA
  rwa [cutW_nat, List.take_of_length_le (by rw [List.length_drop, h.1]; exact Nat.le_refl _)] at this
theorem joinV_cons (z : ByteArray) (l : Lns) : (joinV (z :: l)).size = z.size + (joinV l).size := by
  unfold joinV
  rw [mkS_size, mkS_size, List.map_cons, List.flatten_cons, List.length_append, ← size_len]
theorem joinV_sub {l k : Lns} (h : List.Sublist k l) : (joinV k).size ≤ (joinV l).size := by
  induction h with
  | slnil => exact Nat.le_refl _
  | cons z h ih => rw [joinV_cons]; omega
  | cons_cons z h ih => rw [joinV_cons, joinV_cons]; omega
theorem joinV_le (a : Lns) (x y : Int) : (joinV (cutW a x y)).size ≤ (joinV a).size := joinV_sub ((List.take_sublist _ _).trans (List.drop_sublist _ _))
theorem pcV_len (k : Int) (l : Lns) : (pcV k l).length ≤ 1 := by unfold pcV; split <;> simp
theorem okF_few (n m : Nat) : ∀ (ms : List Mt) (x y : Int), 0 ≤ x → okF n m x y ms → ms.length + x.toNat ≤ n ∨ ms = []
  | [], _, _, _, _ => .inr rfl
  | k :: r, x, y, h0, h => by
    obtain ⟨⟨h1, h2, h3, h4, h5⟩, h6⟩ := h
    left
    rcases okF_few n m r _ _ (by omega) h6 with h | rfl
    · rw [List.length_cons]; omega
    · simp only [List.length_cons, List.length_nil]; omega
/-- What is owned stays so where its block stands. -/
theorem own_stands {w w' : World} {base : Nat} {e : TypeId} {size n : Nat} {v : Value} {xs : List Value} (h : w.ownsRow base e size v n xs) (hk : ∀ k o, v.ownBlock = some k → w.heap[k]? = some o → w'.heap[k]? = some o) : w'.ownsRow base e size v n xs := by
  obtain ⟨h1, h2⟩ := h
  refine ⟨h1, ?_⟩
  rcases h2 with h2 | ⟨g, cap, cur, rfl, hb, hgg, r⟩
  · exact .inl h2
  · exact .inr ⟨g, cap, cur, rfl, hb, hk g _ rfl hgg, r⟩
theorem OutK.drewN {g base : Nat} {a b : World} (h : OutK g base a b) (n : Nat) : OutK g base a (b.drewN n) := by
  refine ⟨Below.trans h.1 (Go.Joins.below_draws _ _ n), fun k o hk hkg hne => ?_⟩
  rw [(Go.Joins.below_draws (k + 1) b n).block k (by omega)]
  exact h.2 k o hk hkg hne
theorem OutAt.drewN {g base : Nat} {L : List Pc} {w : World} (h : OutAt g base L w) (n : Nat) : OutAt g base L (w.drewN n) := by
  obtain ⟨v, h1, h2⟩ := h
  exact ⟨v, h1.ext ((Ext.refl w).drewN n), own_stab3 ((Ext.refl w).drewN n) h2⟩
theorem outK_ext {w w1 w2 : World} {g : Nat} (h : Ext w w1) (hg : w.heap.size = g) (k : OutK g g w1 w2) : Ext w w2 := Below.trans h (by rw [hg]; exact k.1)
theorem OutK.own {g base b0 : Nat} {w w' : World} {e : TypeId} {size n : Nat} {v : Value} {xs : List Value} (h : OutK g base w w') (ho : w.ownsRow b0 e size v n xs) (hg : v.ownBlock ≠ some g) (he : e ≠ 30) : w'.ownsRow b0 e size v n xs := by
  refine own_stands ho fun k o hk hw => h.2 k o hw (fun e => hg (by rw [hk, e])) (fun c fz e2 => ?_)
  obtain ⟨cs, f2, hc⟩ := own_type ho k hk
  rw [hw, e2] at hc
  cases hc
  exact he rfl

theorem okF_at {n m : Nat} {ms : List Mt} {x y : Int} {j : Nat} {k : Mt} (hj : ms[j]? = some k) (h : okF n m x y (ms.drop j)) : (1 ≤ k.n ∧ x ≤ k.a ∧ y ≤ k.b ∧ k.a + k.n ≤ n ∧ k.b + k.n ≤ m) ∧ okF n m (k.a + k.n) (k.b + k.n) (ms.drop (j + 1)) := by
  rw [drop_of hj] at h; exact h

set_option maxRecDepth 100000 in
set_option maxHeartbeats 8000000 in
theorem refine_any (s t : ByteArray) (w : World) (hs : s.size ≤ 110) (ht : t.size ≤ 110) :
    Calls Try.prog 14 #[.string s, .string t] w fun e w' => ∃ v base, e = .returned v ∧ w'.ownsRow base 30 2 v (refineV s t).length ((refineV s t).flatMap Pc.cells) ∧ w.heap.size ≤ base ∧ Ext w w' := by
  go_enter Try.func14, Try.ntmps14
  go_wp2_with fail
  refine (words_is (by omega)).mono ?_
  rintro e w1 ⟨A, c, rfl, hc, hA, hE⟩
  have HA := Lib.hid hA; have HE := Lib.hid hE; clear hA hE
  go_wp2_with fail
  refine (words_is (by omega)).mono ?_
  rintro e w2 ⟨B, d, rfl, hd, hB, hE⟩
  have HB := Lib.hid hB; have HE2 := Lib.hid (HE.out.trans hE); replace HA := Lib.hid (HA.out.ext hE); clear hB hE HE
  obtain ⟨a, ha⟩ : ∃ a, wordsV s = a := ⟨_, rfl⟩
  obtain ⟨b, hb⟩ : ∃ b, wordsV t = b := ⟨_, rfl⟩
  have hla : a.length ≤ 110 := by rw [← ha]; exact Nat.le_trans (words_few s) hs
  have hlb : b.length ≤ 110 := by rw [← hb]; exact Nat.le_trans (words_few t) ht
  have hja : (joinV a).size ≤ 110 := by rw [← ha, join_words]; exact hs
  have hjb : (joinV b).size ≤ 110 := by rw [← hb, join_words]; exact ht
  have hre : refineV s t = refL a b 0 0 (diffV a b (dist a b)) := by rw [refineV, ha, hb]
  have hok := okF_start (diff_ok a b).1
  have hdl := diff_len a b
  have hdd := dist_le a b
  rw [ha] at HA hc ⊢
  rw [hb] at HB hd ⊢
  have HRE := Lib.hid hre; clear hre
  clear ha hb
  go_wp2_with fail
  obtain ⟨g, hg⟩ : ∃ g, w2.heap.size = g := ⟨_, rfl⟩
  rw [hg]
  have hE3 : Ext w2 (w2.alloc (.cells #[.slice none 0 0] 25)) := (Ext.refl _).alloc _
  refine (diff_any A B a.length c b.length d a b _ (HA.out.ext hE3) (HB.out.ext hE3) (by omega) (by omega) (dist a b) (by omega) (last_dist a b)).mono ?_
  rintro e w3 ⟨v, N, rfl, ho, hwf, hE⟩
  obtain ⟨ms, hms⟩ : ∃ ms, diffV a b (dist a b) = ms := ⟨_, rfl⟩
  rw [hms] at ho hwf hok hdl
  obtain ⟨C, cc, rfl, hcc, hM⟩ := ownM_mts ho hwf
  obtain rfl := hM.1
  have hvg : (Value.slice C ms.length cc).ownBlock ≠ some g := by
    intro e
    have := (ho.lt g e).1
    simp only [World.size_alloc] at this
    omega
  have hOut : OutAt g g [] w3 := ⟨_, (Blk.new w2 _ hg.symm).ext hE, by rw [← hg]; exact World.ownsRow_nil _ _ _ _⟩
  have hE4 : Ext w2 w3 := hE3.trans hE
  have hgw : g < w3.heap.size := by have := hE.size; simp only [World.size_alloc] at this; omega
  have HM := Lib.hid hms; have HO := Lib.hid ho; have HWF := Lib.hid hwf; have HOK := Lib.hid hok; have HVG := Lib.hid hvg; have HOut := Lib.hid hOut; have HE4 := Lib.hid hE4; have HG := Lib.hid hg
  clear hms ho hwf hok hvg hOut hE4 hE3 hE hM
  go_wp2_with fail
  go_loopw [9, 10, 22] (fun v9 v10 v22 wr => ∃ (j x y : Nat) (L : List Pc), v9 = .int .i64 x ∧ v10 = .int .i64 y ∧ v22 = .int .i64 j ∧ j ≤ ms.length ∧ x ≤ a.length ∧ y ≤ b.length ∧ L.length ≤ 3 * j ∧
    okF a.length b.length x y (ms.drop j) ∧ L ++ refL a b x y (ms.drop j) = refL a b 0 0 ms ∧ OutAt g g L wr ∧ OutK g g w3 wr) (fun _ _ v22 _ => ms.length - (intOf v22).toNat)
  case atStart => exact ⟨0, 0, 0, [], rfl, rfl, rfl, Nat.zero_le _, Nat.zero_le _, Nat.zero_le _, Nat.zero_le _, HOK.out, rfl, HOut.out, OutK.refl _ _ _⟩
  case round =>
    obtain ⟨j, x, y, L, rfl, rfl, rfl, hj, hx, hy, hL, hok, hre, hout, hK⟩ := hrel
    have HK := Lib.hid hK; have HRL := Lib.hid hre; have HOT := Lib.hid hout; clear hK hre hout
    have hoM := HK.out.own HO.out HVG.out (by decide)
    obtain ⟨C', cc', hv', -, hM⟩ := ownM_mts hoM HWF.out
    obtain ⟨rfl, rfl⟩ : C = C' ∧ cc = cc' := by simpa using hv'
    clear hv' hoM
    by_cases hlt : j < ms.length
    · obtain ⟨bk, off, m, hA, hb1, hm, hwf, c0, c1, c2⟩ := hM.get hlt
      cases hA
      obtain ⟨⟨m1, m2, m3, m4, m5⟩, hok2⟩ := okF_at hm hok
      obtain ⟨ma, mb, mn⟩ := m
      dsimp only at m1 m2 m3 m4 m5 hok2 c0 c1 c2
      obtain ⟨p, rfl⟩ : ∃ p : Nat, ma = p := ⟨ma.toNat, by omega⟩
      obtain ⟨q, rfl⟩ : ∃ p : Nat, mb = p := ⟨mb.toNat, by omega⟩
      obtain ⟨l, rfl⟩ : ∃ p : Nat, mn = p := ⟨mn.toNat, by omega⟩
      have HOK2 := Lib.hid hok2; have HMJ := Lib.hid hm; clear hok2 hm hok hwf hM
      obtain ⟨z, hz⟩ : ∃ z, wr.heap.size = z := ⟨_, rfl⟩
      have hE5 : Ext wr (wr.alloc (Mt.obj ⟨(p : Int), (q : Int), (l : Int)⟩)) := (Ext.refl _).alloc _
      have hbz : Blk (wr.alloc (Mt.obj ⟨(p : Int), (q : Int), (l : Int)⟩)) z (Mt.obj ⟨(p : Int), (q : Int), (l : Int)⟩) := Blk.new wr _ hz.symm
      have hzg : z ≠ g := by have := HK.out.1.size; omega
      have hgr : g < wr.heap.size := Nat.lt_of_lt_of_le hgw HK.out.1.size
      have hot : OutAt g g L (wr.alloc (Mt.obj ⟨(p : Int), (q : Int), (l : Int)⟩)) := by
        obtain ⟨v0, h1, h2⟩ := HOT.out
        exact ⟨v0, h1.ext hE5, own_stab3 hE5 h2⟩
      have hk5 : OutK g g w3 (wr.alloc (Mt.obj ⟨(p : Int), (q : Int), (l : Int)⟩)) := HK.out.trans ⟨Ext.below hE5 (by omega), (Lib.OthersKept.refl _ _ _).alloc _⟩
      have HBZ5 := Lib.hid hbz; have HZG := Lib.hid hzg; have HT5 := Lib.hid hot; have HK5 := Lib.hid hk5; clear hbz hzg hot hk5 hE5
      go_wp2_with fail
      skip
      obtain ⟨W5, hW5⟩ : ∃ W5, wr.alloc (Mt.obj ⟨(p : Int), (q : Int), (l : Int)⟩) = W5 := ⟨_, rfl⟩
      rw [hW5] at HBZ5 HT5 HK5 ⊢
      have hg5 : g ≤ W5.heap.size := by have := HK5.out.1.size; omega
      clear hW5 hz c0 c1 c2
      refine (add_any 1 _ (p - x) (c - x) (cutW a x p) g g L W5 (strs_cutW (HA.out.ext (outK_ext HE4.out HG.out HK5.out)) hc (by omega) (by omega) (if_neg (by omega))) (by omega) (by omega) HT5.out (Nat.le_refl _) (Nat.le_trans (joinV_le _ _ _) (by omega)) (by omega) (by omega)).mono ?_
      rintro e W6 ⟨rfl, hot, hk⟩
      have HK6 := Lib.hid (HK5.out.trans hk); have HT6 := Lib.hid hot; have HBZ6 := Lib.hid (hk.blk HBZ5.out HZG.out (by decide)); have hg6 : g ≤ W6.heap.size := Nat.le_trans hg5 hk.1.size
      clear hk hot
      obtain ⟨d0, d1, d2⟩ := HBZ6.out.cells3
      have hl1 := pcV_len 1 (cutW a x p)
      go_wp2_with fail
      refine (add_any 2 _ (q - y) (d - y) (cutW b y q) g g (L ++ pcV 1 (cutW a x p)) W6 (strs_cutW (HB.out.ext (outK_ext HE4.out HG.out HK6.out)) hd (by omega) (by omega) (if_neg (by omega))) (by omega) (by omega) HT6.out (Nat.le_refl _) (Nat.le_trans (joinV_le _ _ _) (by omega)) (by rw [List.length_append]; omega) (by omega)).mono ?_
      rintro e W7 ⟨rfl, hot, hk⟩
      have HK7 := Lib.hid (HK6.out.trans hk); have HT7 := Lib.hid hot; have HBZ7 := Lib.hid (hk.blk HBZ6.out HZG.out (by decide)); have hg7 : g ≤ W7.heap.size := Nat.le_trans hg6 hk.1.size
      clear hk hot
      obtain ⟨d0, d1, d2⟩ := HBZ7.out.cells3
      have hl2 := pcV_len 2 (cutW b y q)
      clear d0 d1 d2
      obtain ⟨d0, d1, d2⟩ := HBZ7.out.cells3
      go_wp2_with fail
      clear d0 d1 d2
      refine (add_any 0 _ l (c - p) (cutW a p ((p : Int) + l)) g g (L ++ pcV 1 (cutW a x p) ++ pcV 2 (cutW b y q)) W7 (strs_cutL (HA.out.ext (outK_ext HE4.out HG.out HK7.out)) hc (by omega) (if_neg (by omega))) (by omega) (by omega) HT7.out (Nat.le_refl _) (Nat.le_trans (joinV_le _ _ _) (by omega)) (by rw [List.length_append, List.length_append]; omega) (by omega)).mono ?_
      rintro e W8 ⟨rfl, hot, hk⟩
      have HK8 := Lib.hid (HK7.out.trans hk); have HT8 := Lib.hid hot; have HBZ8 := Lib.hid (hk.blk HBZ7.out HZG.out (by decide))
      clear hk hot
      obtain ⟨d0, d1, d2⟩ := HBZ8.out.cells3
      have hl3 := pcV_len 0 (cutW a p ((p : Int) + l))
      go_wp2_with fail
      go_quiet (fail)
      go_wp2_with fail
      go_roundw
      case rel =>
        refine ⟨j + 1, p + l, q + l, _, by go_num, by go_num, by go_num, by omega, by omega, by omega, ?_, HOK2.out, ?_, HT8.out.drewN _, HK8.out.drewN _⟩
        · rw [List.length_append, List.length_append, List.length_append]; omega
        · rw [← HRL.out, drop_of HMJ.out, refL]; simp only [List.append_assoc]; rfl
      case measure => simp [intOf]; omega
    · have hjN : j = ms.length := by omega
      have hre := HRL.out
      rw [hjN, List.drop_length, refL] at hre
      have HRF := Lib.hid hre
      have hgr : g ≤ wr.heap.size := by have := HK.out.1.size; omega
      clear hre hok hM hjN
      by_cases e1 : c = x <;> by_cases e2 : d = y
      · skip
        go_wp2_with fail
        refine (add_any 1 _ (a.length - x) _ (a.drop x) g g L wr (strs_cutE (HA.out.ext (outK_ext HE4.out HG.out HK.out)) hc (by omega) (by first | exact if_neg (by omega) | exact if_pos (by omega))) (by omega) (by omega) HOT.out (Nat.le_refl _) (Nat.le_trans (joinV_sub (List.drop_sublist _ _)) (by omega)) (by omega) (by omega)).mono ?_
        rintro e W5 ⟨rfl, hot, hk⟩
        have HK5 := Lib.hid (HK.out.trans hk); have HT5 := Lib.hid hot; have hg5 : g ≤ W5.heap.size := Nat.le_trans hgr hk.1.size
        have hl1 := pcV_len 1 (a.drop x)
        clear hot hk
        go_wp2_with fail
        refine (add_any 2 _ (b.length - y) _ (b.drop y) g g (L ++ pcV 1 (a.drop x)) W5 (strs_cutE (HB.out.ext (outK_ext HE4.out HG.out HK5.out)) hd (by omega) (by first | exact if_neg (by omega) | exact if_pos (by omega))) (by omega) (by omega) HT5.out (Nat.le_refl _) (Nat.le_trans (joinV_sub (List.drop_sublist _ _)) (by omega)) (by rw [List.length_append]; omega) (by omega)).mono ?_
        rintro e W6 ⟨rfl, ⟨v6, hb6, ho6⟩, hk⟩
        have HK6 := Lib.hid (HK5.out.trans hk); have HB6 := Lib.hid hb6; have HO6 := Lib.hid ho6
        have hc6 := hb6.cell 0
        replace hc6 : W6.cell? ⟨g, 0, none⟩ = some v6 := hc6
        clear hb6 ho6 hk
        go_wp2_with fail
        go_ret
        have h9 := HO6.out
        refine ⟨v6, g, rfl, ?_, ?_, ?_⟩
        · rw [HRE.out, HM.out, ← HRF.out, ← List.append_assoc]; exact h9
        · rw [← HG.out]; exact HE2.out.size
        · exact HE2.out.trans (outK_ext HE4.out HG.out HK6.out)
      · skip
        go_wp2_with fail
        refine (add_any 1 _ (a.length - x) _ (a.drop x) g g L wr (strs_cutE (HA.out.ext (outK_ext HE4.out HG.out HK.out)) hc (by omega) (by first | exact if_neg (by omega) | exact if_pos (by omega))) (by omega) (by omega) HOT.out (Nat.le_refl _) (Nat.le_trans (joinV_sub (List.drop_sublist _ _)) (by omega)) (by omega) (by omega)).mono ?_
        rintro e W5 ⟨rfl, hot, hk⟩
        have HK5 := Lib.hid (HK.out.trans hk); have HT5 := Lib.hid hot; have hg5 : g ≤ W5.heap.size := Nat.le_trans hgr hk.1.size
        have hl1 := pcV_len 1 (a.drop x)
        clear hot hk
        go_wp2_with fail
        refine (add_any 2 _ (b.length - y) _ (b.drop y) g g (L ++ pcV 1 (a.drop x)) W5 (strs_cutE (HB.out.ext (outK_ext HE4.out HG.out HK5.out)) hd (by omega) (by first | exact if_neg (by omega) | exact if_pos (by omega))) (by omega) (by omega) HT5.out (Nat.le_refl _) (Nat.le_trans (joinV_sub (List.drop_sublist _ _)) (by omega)) (by rw [List.length_append]; omega) (by omega)).mono ?_
        rintro e W6 ⟨rfl, ⟨v6, hb6, ho6⟩, hk⟩
        have HK6 := Lib.hid (HK5.out.trans hk); have HB6 := Lib.hid hb6; have HO6 := Lib.hid ho6
        have hc6 := hb6.cell 0
        replace hc6 : W6.cell? ⟨g, 0, none⟩ = some v6 := hc6
        clear hb6 ho6 hk
        go_wp2_with fail
        go_ret
        have h9 := HO6.out
        refine ⟨v6, g, rfl, ?_, ?_, ?_⟩
        · rw [HRE.out, HM.out, ← HRF.out, ← List.append_assoc]; exact h9
        · rw [← HG.out]; exact HE2.out.size
        · exact HE2.out.trans (outK_ext HE4.out HG.out HK6.out)
      · skip
        go_wp2_with fail
        refine (add_any 1 _ (a.length - x) _ (a.drop x) g g L wr (strs_cutE (HA.out.ext (outK_ext HE4.out HG.out HK.out)) hc (by omega) (by first | exact if_neg (by omega) | exact if_pos (by omega))) (by omega) (by omega) HOT.out (Nat.le_refl _) (Nat.le_trans (joinV_sub (List.drop_sublist _ _)) (by omega)) (by omega) (by omega)).mono ?_
        rintro e W5 ⟨rfl, hot, hk⟩
        have HK5 := Lib.hid (HK.out.trans hk); have HT5 := Lib.hid hot; have hg5 : g ≤ W5.heap.size := Nat.le_trans hgr hk.1.size
        have hl1 := pcV_len 1 (a.drop x)
        clear hot hk
        go_wp2_with fail
        refine (add_any 2 _ (b.length - y) _ (b.drop y) g g (L ++ pcV 1 (a.drop x)) W5 (strs_cutE (HB.out.ext (outK_ext HE4.out HG.out HK5.out)) hd (by omega) (by first | exact if_neg (by omega) | exact if_pos (by omega))) (by omega) (by omega) HT5.out (Nat.le_refl _) (Nat.le_trans (joinV_sub (List.drop_sublist _ _)) (by omega)) (by rw [List.length_append]; omega) (by omega)).mono ?_
        rintro e W6 ⟨rfl, ⟨v6, hb6, ho6⟩, hk⟩
        have HK6 := Lib.hid (HK5.out.trans hk); have HB6 := Lib.hid hb6; have HO6 := Lib.hid ho6
        have hc6 := hb6.cell 0
        replace hc6 : W6.cell? ⟨g, 0, none⟩ = some v6 := hc6
        clear hb6 ho6 hk
        go_wp2_with fail
        go_ret
        have h9 := HO6.out
        refine ⟨v6, g, rfl, ?_, ?_, ?_⟩
        · rw [HRE.out, HM.out, ← HRF.out, ← List.append_assoc]; exact h9
        · rw [← HG.out]; exact HE2.out.size
        · exact HE2.out.trans (outK_ext HE4.out HG.out HK6.out)
      · skip
        go_wp2_with fail
        refine (add_any 1 _ (a.length - x) _ (a.drop x) g g L wr (strs_cutE (HA.out.ext (outK_ext HE4.out HG.out HK.out)) hc (by omega) (by first | exact if_neg (by omega) | exact if_pos (by omega))) (by omega) (by omega) HOT.out (Nat.le_refl _) (Nat.le_trans (joinV_sub (List.drop_sublist _ _)) (by omega)) (by omega) (by omega)).mono ?_
        rintro e W5 ⟨rfl, hot, hk⟩
        have HK5 := Lib.hid (HK.out.trans hk); have HT5 := Lib.hid hot; have hg5 : g ≤ W5.heap.size := Nat.le_trans hgr hk.1.size
        have hl1 := pcV_len 1 (a.drop x)
        clear hot hk
        go_wp2_with fail
        refine (add_any 2 _ (b.length - y) _ (b.drop y) g g (L ++ pcV 1 (a.drop x)) W5 (strs_cutE (HB.out.ext (outK_ext HE4.out HG.out HK5.out)) hd (by omega) (by first | exact if_neg (by omega) | exact if_pos (by omega))) (by omega) (by omega) HT5.out (Nat.le_refl _) (Nat.le_trans (joinV_sub (List.drop_sublist _ _)) (by omega)) (by rw [List.length_append]; omega) (by omega)).mono ?_
        rintro e W6 ⟨rfl, ⟨v6, hb6, ho6⟩, hk⟩
        have HK6 := Lib.hid (HK5.out.trans hk); have HB6 := Lib.hid hb6; have HO6 := Lib.hid ho6
        have hc6 := hb6.cell 0
        replace hc6 : W6.cell? ⟨g, 0, none⟩ = some v6 := hc6
        clear hb6 ho6 hk
        go_wp2_with fail
        go_ret
        have h9 := HO6.out
        refine ⟨v6, g, rfl, ?_, ?_, ?_⟩
        · rw [HRE.out, HM.out, ← HRF.out, ← List.append_assoc]; exact h9
        · rw [← HG.out]; exact HE2.out.size
        · exact HE2.out.trans (outK_ext HE4.out HG.out HK6.out)
end Go.Proofs.Ytmmppfopokbcfaa
