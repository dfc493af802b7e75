/- UdClo UdCat UdNear UdLin: parts of the proof of TopDifferences, one text behind the other. No condition. -/
import Derived.Test.YtmmcjcaccicheaaGreatDoorT25
import Derived.Test.YtmmcjcaccicheaaGreatDoorT30
import Derived.Test.YtmmcjcaccicheaaGreatDoorT06
import Derived.Test.YtmmcjcaccicheaaGreatDoorT08
import Derived.Test.YtmmcjcaccicheaaGreatDoorT26
import Derived.Test.YtmmcjcaccicheaaGreatDoorT03
import Derived.Test.YtmmcjcaccicheaaGreatDoorT28
/- The contracts of slices.Clone of strings and of matches; whole hunks added to a list. -/
namespace Go.Proofs.YtmmcjcaccicheaaGreatDoor
open Go.RowKit

set_option maxHeartbeats 1000000 in
theorem sclone_any {l : Lns} (A : Option Addr) (n c : Nat) (w : World) (hh : Strs w A n l) (hn : n ≤ 10000) :
    Calls Tryz.prog 30 #[.slice A n c] w fun e w' => Ext w w' ∧ ∃ v, e = .returned v ∧ w'.ownsRow w.heap.size 9 1 v n (l.map Value.string) := by
  have HH := Lib.hid hh; clear hh
  obtain ⟨inf, i1, i2, i3, i4⟩ := info_of infoS
  have I1 := Lib.hid i1; have I2 := Lib.hid i2; have I3 := Lib.hid i3; have I4 := Lib.hid i4; clear i1 i2 i3 i4
  cases A with
  | none =>
    have hnil : ∀ (A : Option Addr) (w : World), (binOp .eql 22 (.slice A n c) (.slice none 0 0)).run Tryz.prog w = .ok (.bool A.isNone) w := fun A w => Lib.run_eql_slice_nil w _ _ A n c 0 0 underSs
    go_enter Tryz.func30, Tryz.ntmps30
    go_wp2_with fail
    go_ret
    have he : l = [] := by
      rcases HH.out.2.2 with h | ⟨b, off, h, _⟩
      · cases l with
        | nil => rfl
        | cons x t => simp at h
      · cases h
    subst he
    obtain rfl : n = 0 := HH.out.1.symm
    exact ⟨Ext.refl _, _, rfl, World.ownsRow_nil _ _ _ _⟩
  | some ad =>
    have hnil : ∀ (A : Option Addr) (w : World), (binOp .eql 22 (.slice A n c) (.slice none 0 0)).run Tryz.prog w = .ok (.bool A.isNone) w := fun A w => Lib.run_eql_slice_nil w _ _ A n c 0 0 underSs
    go_enter Tryz.func30, Tryz.ntmps30
    go_wp2_with (at_builtin; refine wpList_append_size (w := w.alloc (.cells #[] 9)) rfl (.tmp 5) (.tmp 6) 22 rfl w.heap.size 9 inf _ 1 16 underSs I1.out I2.out I3.out I4.out rfl (by decide) (.slice (some ⟨w.heap.size, 0, none⟩) 0 0) 0 [] (some ad) n c (l.map Value.string) rfl rfl (by simp [HH.out.1]) (one_str _) (by simp only [maxLen]; omega) (by omega) (World.ownsRow_made w #[] 0 (Nat.le_refl _) (by decide) rfl) (HH.out.2.2.ext ((Ext.refl _).alloc _)) ((Ext.refl w).alloc _).size ?_; intro v2 w2 hown2 hg2)
    have HO := Lib.hid hown2; have HE := Lib.hid (((Ext.refl w).alloc (.cells #[] 9)).own3 (World.ownsRow_made (size := 1) (e := 9) w #[] 0 (Nat.le_refl _) (by decide) rfl) hg2); clear hown2 hg2
    go_wp2_with fail
    go_ret
    exact ⟨HE.out, _, rfl, by simpa using HO.out⟩
set_option maxHeartbeats 1000000 in
theorem mclone_any {l : List Mt} (A : Option Addr) (n c : Nat) (w : World) (hh : Mts w A n l) (hn : n ≤ 10000) :
    Calls Tryz.prog 56 #[.slice A n c] w fun e w' => Ext w w' ∧ ∃ v, e = .returned v ∧ w'.ownsRow w.heap.size 104 3 v n (l.flatMap Mt.cells) := by
  have HH := Lib.hid hh; clear hh
  obtain ⟨inf, i1, i2, i3, i4⟩ := info_of infoM
  have I1 := Lib.hid i1; have I2 := Lib.hid i2; have I3 := Lib.hid i3; have I4 := Lib.hid i4; clear i1 i2 i3 i4
  cases A with
  | none =>
    have hnil : ∀ (A : Option Addr) (w : World), (binOp .eql 66 (.slice A n c) (.slice none 0 0)).run Tryz.prog w = .ok (.bool A.isNone) w := fun A w => Lib.run_eql_slice_nil w _ _ A n c 0 0 underM
    go_enter Tryz.func56, Tryz.ntmps56
    go_wp2_with fail
    go_ret
    have he : l = [] := by
      rcases HH.out.2.2 with h | ⟨b, off, h, _⟩
      · cases l with
        | nil => rfl
        | cons x t => simp [Mt.cells] at h
      · cases h
    subst he
    obtain rfl : n = 0 := HH.out.1.symm
    exact ⟨Ext.refl _, _, rfl, World.ownsRow_nil _ _ _ _⟩
  | some ad =>
    have hnil : ∀ (A : Option Addr) (w : World), (binOp .eql 66 (.slice A n c) (.slice none 0 0)).run Tryz.prog w = .ok (.bool A.isNone) w := fun A w => Lib.run_eql_slice_nil w _ _ A n c 0 0 underM
    go_enter Tryz.func56, Tryz.ntmps56
    go_wp2_with (at_builtin; refine wpList_append_size (w := w.alloc (.cells #[] 104)) rfl (.tmp 5) (.tmp 6) 66 rfl w.heap.size 104 inf _ 3 24 underM I1.out I2.out I3.out I4.out rfl (by decide) (.slice (some ⟨w.heap.size, 0, none⟩) 0 0) 0 [] (some ad) n c (l.flatMap Mt.cells) rfl rfl (by rw [flat3_len _ (fun _ => rfl), HH.out.1]) (by intro u hu; obtain ⟨h, _, hu⟩ := List.mem_flatMap.1 hu; simp only [Mt.cells, List.mem_cons, List.not_mem_nil, or_false] at hu; rcases hu with rfl | rfl | rfl <;> rfl) (by simp only [maxLen]; omega) (by omega) (World.ownsRow_made w #[] 0 (Nat.le_refl _) (by decide) rfl) (HH.out.2.2.ext ((Ext.refl _).alloc _)) ((Ext.refl w).alloc _).size ?_; intro v2 w2 hown2 hg2)
    have HO := Lib.hid hown2; have HE := Lib.hid (((Ext.refl w).alloc (.cells #[] 104)).own3 (World.ownsRow_made (size := 3) (e := 104) w #[] 0 (Nat.le_refl _) (by decide) rfl) hg2); clear hown2 hg2
    go_wp2_with fail
    go_ret
    exact ⟨HE.out, _, rfl, by simpa using HO.out⟩

theorem SRows.add2 {W : World} {n1 : Nat} {vs : List Value} {ls : List Lns} {u : Value} {l : Lns} (h : SRows W n1 vs ls) (ho : W.ownsRow n1 9 1 u l.length (l.map Value.string)) (ha : ∀ (g : Nat), u.ownBlock = some g → ∀ x ∈ vs, x.ownBlock ≠ some g) : SRows W n1 (vs ++ [u]) (ls ++ [l]) := by
  have cs : ∀ (k : Nat) (x : Value), (vs ++ [u])[k]? = some x → vs[k]? = some x ∨ k = vs.length ∧ x = u := fun k x hx => by
    rcases Nat.lt_or_ge k vs.length with hk | hk
    · rw [List.getElem?_append_left hk] at hx; exact .inl hx
    · have : k = vs.length := by have := (List.getElem?_eq_some_iff.1 hx).1; simp at this; omega
      subst this
      rw [List.getElem?_concat_length] at hx
      exact .inr ⟨rfl, (Option.some.inj hx).symm⟩
  refine ⟨by simp [h.len], fun j x y hx hy => ?_, fun i j x y g hx hy hij hgx hgy => ?_⟩
  · rcases cs j x hx with hx | ⟨rfl, rfl⟩
    · rw [List.getElem?_append_left (by rw [← h.len]; exact (List.getElem?_eq_some_iff.1 hx).1)] at hy
      exact h.own j x y hx hy
    · rw [h.len, List.getElem?_concat_length] at hy
      cases hy; exact ho
  · rcases cs i x hx with hx' | ⟨hi, ex⟩
    · rcases cs j y hy with hy' | ⟨hj, ey⟩
      · exact h.sep i j x y g hx' hy' hij hgx hgy
      · exact ha g (ey ▸ hgy) x (mem_of_get hx') hgx
    · rcases cs j y hy with hy' | ⟨hj, ey⟩
      · exact ha g (ex ▸ hgx) y (mem_of_get hy') hgy
      · exact hij (hi.trans hj.symm)
/-- A whole hunk more, whose lines lie in rows of their own that are newer than the world W0, in which the others lay. -/
theorem HMem.pushW {base : Nat} {v v' u1 u2 : Value} {va : List Value} {out : List Hp} {x : Hp} {W0 W W' : World} (h : HMem base v va va out (hls out) W) (hz : ∀ (y : Value), y ∈ va → ∀ g, y.ownBlock = some g → g < W0.heap.size)
    (h1 : W.ownsRow W0.heap.size 9 1 u1 x.old.length (x.old.map Value.string)) (h2 : W.ownsRow W0.heap.size 9 1 u2 x.new.length (x.new.map Value.string)) (h12 : ∀ g, u1.ownBlock = some g → u2.ownBlock ≠ some g) (hb : base ≤ W0.heap.size)
    (hg : W.grownBy W' v.ownBlock) (ho : W'.ownsRow base 69 3 v' (out.length + 1) (hcs out va ++ [.int .i64 x.at_, u1, u2])) :
    HMem base v' (va ++ [u1, u2]) (va ++ [u1, u2]) (out ++ [x]) (hls (out ++ [x])) W' := by
  refine ⟨by rw [hcs_snoc x _ _ out va h.lva, List.length_append]; exact ho, ?_, by simp [h.lva]; omega⟩
  have r1 := h.rows.add2 (own_base h1 hb) (fun g hgu y hy hgy => by have := hz y hy g hgy; have := (own_blk h1 hgu).1; omega)
  have r2 := r1.add2 (own_base h2 hb) (fun g hgu y hy hgy => by
    rcases List.mem_append.1 hy with hy | hy
    · have := hz y hy g hgy; have := (own_blk h2 hgu).1; omega
    · obtain rfl := List.mem_singleton.1 hy
      exact h12 g hgy hgu)
  have r3 := r2.grown h.own (by decide) hg
  rw [hls_app, List.append_assoc, List.append_assoc] at *
  exact r3
theorem HMem.sz {base : Nat} {v : Value} {va : List Value} {out : List Hp} {ls : List Lns} {W : World} (h : HMem base v va va out ls W) : ∀ (y : Value), y ∈ va → ∀ g, y.ownBlock = some g → g < W.heap.size := by
  intro y hy g hg
  obtain ⟨j, hj⟩ := List.getElem?_of_mem hy
  obtain ⟨l, _, ho⟩ := h.rows.get hj
  obtain ⟨_, c, hc⟩ := own_blk ho hg
  exact hc.lt
end Go.Proofs.YtmmcjcaccicheaaGreatDoor
/- The contract of slices.Concat of any number of lists of strings. -/
namespace Go.Proofs.YtmmcjcaccicheaaGreatDoor
open Go.RowKit

/-- A list of strings in memory. -/
structure Ent where
  A : Option Addr
  n : Nat
  c : Nat
  l : Lns
abbrev Ent.v (e : Ent) : Value := .slice e.A e.n e.c
def tot : List Ent → Nat
  | [] => 0
  | e :: r => e.n + tot r
def cat : List Ent → Lns
  | [] => []
  | e :: r => e.l ++ cat r
theorem tot_app (a b : List Ent) : tot (a ++ b) = tot a + tot b := by
  induction a with
  | nil => simp [tot]
  | cons e r ih => simp [tot, ih]; omega
theorem cat_app (a b : List Ent) : cat (a ++ b) = cat a ++ cat b := by
  induction a with
  | nil => rfl
  | cons e r ih => simp [cat, ih]
theorem tot_take (es : List Ent) (k : Nat) : tot (es.take k) ≤ tot es := by
  have h := tot_app (es.take k) (es.drop k)
  rw [List.take_append_drop] at h
  omega
theorem tot_next {es : List Ent} {k : Nat} {e : Ent} (h : es[k]? = some e) : tot (es.take (k + 1)) = tot (es.take k) + e.n := by
  rw [take_succ_of h, tot_app]; simp [tot]
theorem cat_next {es : List Ent} {k : Nat} {e : Ent} (h : es[k]? = some e) : cat (es.take (k + 1)) = cat (es.take k) ++ e.l := by
  rw [take_succ_of h, cat_app]; simp [cat]
theorem cat_len {w : World} : ∀ es : List Ent, (∀ e ∈ es, Strs w e.A e.n e.l) → (cat es).length = tot es
  | [], _ => rfl
  | e :: r, h => by
    have h1 := (h e (by simp)).1
    have h2 := cat_len r (fun x hx => h x (by simp [hx]))
    simp only [cat, tot, List.length_append]; omega
set_option maxRecDepth 100000 in
set_option maxHeartbeats 2000000 in
theorem concat_any (es : List Ent) (m g : Nat) (w : World) (hm : es.length = m) (hm2 : m ≤ 100) (hb : Blk w g (.cells (es.map Ent.v).toArray 22)) (hs : ∀ e ∈ es, Strs w e.A e.n e.l) (hn : tot es ≤ 2000) :
    Calls Tryz.prog 38 #[.slice (some ⟨g, 0, none⟩) m m] w fun e w' => Ext w w' ∧ ∃ v, e = .returned v ∧ w'.ownsRow w.heap.size 9 1 v (cat es).length ((cat es).map Value.string) := by
  obtain ⟨inf, i1, i2, i3, i4⟩ := info_of infoS
  have I1 := Lib.hid i1; have I2 := Lib.hid i2; have I3 := Lib.hid i3; have I4 := Lib.hid i4; clear i1 i2 i3 i4
  have HB := Lib.hid hb; have HS := Lib.hid hs; have HM := Lib.hid hm; have HCL := Lib.hid (cat_len es hs); clear hb hs hm
  go_enter Tryz.func38, Tryz.ntmps38
  go_wp2_with fail
  go_loopw [3, 11] (fun s i wr => Ext w wr ∧ ∃ k : Nat, k ≤ m ∧ i = .int .i64 k ∧ s = .int .i64 (tot (es.take k))) (fun _ i _ => m - (intOf i).toNat)
  case atStart => exact ⟨Ext.refl _, 0, by omega, rfl, by simp [tot]⟩
  case round =>
    obtain ⟨hE, k, hk, rfl, rfl⟩ := hrel
    have HE := Lib.hid hE; clear hE
    have htk := tot_take es k
    by_cases hlt : k < m
    · obtain ⟨x, hx⟩ : ∃ x, es[k]? = some x := ⟨_, List.getElem?_eq_getElem (by rw [HM.out]; exact hlt)⟩
      have c0 := (HB.out.ext HE.out).cell k
      rw [List.getElem?_toArray, List.getElem?_map, hx] at c0
      have hnx := tot_next hx
      have htn := tot_take es (k + 1)
      have HNX := Lib.hid hnx
      obtain ⟨xA, xn, xc, xl⟩ := x
      dsimp only [Option.map_some, Ent.v] at c0 hnx
      have hneg : ¬ (((tot (es.take k) : Nat) : Int) + xn < 0) := by omega
      rw [hnx] at htn
      clear hx hnx
      go_wp2_with fail
      go_roundw
      case rel => exact ⟨HE.out, k + 1, by omega, by go_num, by rw [HNX.out]; go_num⟩
      case measure => simp [intOf]; omega
    · have hkm : k = m := by omega
      have htt : es.take k = es := List.take_of_length_le (by rw [HM.out]; omega)
      rw [htt]
      clear htk hkm htt
      go_wp2_with fail
      refine (grow_any (tot es) _ (by omega)).mono ?_
      rintro e w1 ⟨hE, v, rfl, ho⟩
      have HO := Lib.hid (own_base (base' := w.heap.size) ho HE.out.size); have HE1 := Lib.hid (HE.out.trans hE); clear hE ho
      go_wp2_with fail
      go_loopw [6, 27] (fun v i wr => ∃ k : Nat, k ≤ m ∧ i = .int .i64 k ∧ Ext w wr ∧ wr.ownsRow w.heap.size 9 1 v (tot (es.take k)) ((cat (es.take k)).map Value.string)) (fun _ i _ => m - (intOf i).toNat)
      case atStart => exact ⟨0, by omega, rfl, HE1.out, by simpa [tot, cat] using HO.out⟩
      case round =>
        obtain ⟨k, hk, rfl, hE, ho⟩ := hrel
        have HO2 := Lib.hid ho; have HE2 := Lib.hid hE; clear hE ho
        have htk := tot_take es k
        by_cases hlt : k < m
        · obtain ⟨x, hx⟩ : ∃ x, es[k]? = some x := ⟨_, List.getElem?_eq_getElem (by rw [HM.out]; exact hlt)⟩
          have c0 := (HB.out.ext HE2.out).cell k
          rw [List.getElem?_toArray, List.getElem?_map, hx] at c0
          have hnx := tot_next hx
          have htn := tot_take es (k + 1)
          have hsx := HS.out x (mem_of_get hx)
          have HNX := Lib.hid hnx; have HCX := Lib.hid (cat_next hx)
          obtain ⟨xA, xn, xc, xl⟩ := x
          dsimp only [Option.map_some, Ent.v] at c0 hnx hsx
          have HSX := Lib.hid hsx
          rw [hnx] at htn
          clear hx hnx hsx
          go_wp2_with (at_builtin; refine wpList_append_size rfl (.tmp 31) (.tmp 32) 22 rfl w.heap.size 9 inf _ 1 16 underSs I1.out I2.out I3.out I4.out rfl (by decide) _ (tot (es.take k)) ((cat (es.take k)).map Value.string) xA xn xc (xl.map Value.string) rfl rfl (by simp [HSX.out.1]) (one_str _) (by simp only [maxLen]; omega) (by omega) HO2.out (HSX.out.2.2.ext HE2.out) HE2.out.size ?_; intro v2 w2 hown2 hg2)
          have HO3 := Lib.hid hown2; have HE3 := Lib.hid (HE2.out.own3 HO2.out hg2); clear hown2 hg2
          go_wp2_with fail
          go_roundw
          case rel => exact ⟨k + 1, by omega, by go_num, HE3.out, by rw [HNX.out, HCX.out, List.map_append]; exact HO3.out⟩
          case measure => simp [intOf]; omega
        · have htt : es.take k = es := List.take_of_length_le (by rw [HM.out]; omega)
          have ho := HO2.out
          rw [htt, ← HCL.out] at ho
          have HO4 := Lib.hid ho
          clear ho htt
          go_wp2_with fail
          go_ret
          exact ⟨HE2.out, _, rfl, HO4.out⟩
end Go.Proofs.YtmmcjcaccicheaaGreatDoor
/- The contract of unified's nearest at reach 0. -/
namespace Go.Proofs.YtmmcjcaccicheaaGreatDoor
open Go.RowKit

set_option maxRecDepth 100000 in
set_option maxHeartbeats 4000000 in
theorem nearest_any (A B : Option Addr) (n c m d : Nat) (xs ys : Lns) (f e : Nat) (w : World) (ha : Strs w A n xs) (hb : Strs w B m ys) (hn : n ≤ 100000) (hm : m ≤ 100000) (hnc : n ≤ c) (hc0 : c ≤ maxLen) (hfe : f ≤ e) (hem : e + m ≤ n) (hxy : (xs.drop e).take m = ys) :
    Calls Tryz.prog 46 #[.slice A n c, .slice B m d, .int .i64 f, .int .i64 e, .int .i64 0] w fun r w' => r = .returned (.tuple #[.int .i64 e, .bool true]) ∧ Ext w w' := by
  have HA := Lib.hid ha; have HB := Lib.hid hb; have HXY := Lib.hid hxy; clear ha hb hxy
  simp only [maxLen] at hc0
  go_enter Tryz.func46, Tryz.ntmps46
  go_wp2_with fail
  go_loopw [12, 13, 14] (fun b g p wr => ∃ q : Nat, f ≤ q ∧ q ≤ n + 1 ∧ p = .int .i64 q ∧ Ext w wr ∧ (q ≤ e ∧ b = .int .i64 0 ∧ g = .bool false ∨ e < q ∧ b = .int .i64 e ∧ g = .bool true)) (fun _ _ p _ => n + 1 - (intOf p).toNat)
  case atStart => exact ⟨f, Nat.le_refl _, by omega, rfl, Ext.refl _, .inl ⟨hfe, rfl, rfl⟩⟩
  case round =>
    obtain ⟨q, hfq, hq, rfl, hE, h⟩ := hrel
    have HE := Lib.hid hE; clear hE
    rcases h with ⟨hqe, rfl, rfl⟩ | ⟨hqe, rfl, rfl⟩
    · have hqm : q + m ≤ n := by omega
      have hdist := distance_is (a := q) (b := e) (d := e - q) (w := wr) (by omega) (by omega) (by omega) (by omega) (by omega)
      rcases Nat.lt_or_eq_of_le hqe with hlt | rfl
      · go_wp2_with fail
        refine hdist.mono ?_
        rintro r w1 ⟨rfl, rfl⟩
        go_wp2_with fail
        go_roundw
        case rel => exact ⟨q + 1, by omega, by omega, by go_num, HE.out, .inl ⟨by omega, rfl, rfl⟩⟩
        case measure => simp [intOf]; omega
      · have hz : ((q : Int) - q) = 0 := by omega
        rw [hz] at hdist
        obtain ⟨A', hA'⟩ : ∃ A', (if c = q then A else A.map (fun x => x.add q)) = A' := ⟨_, rfl⟩
        have hcut := strs_cut (HA.out.ext HE.out) hnc hqm hA'
        rw [HXY.out] at hcut
        have heq := equal_any A' B m m (c - q) d ys ys wr hcut (HB.out.ext HE.out) (by unfold Reach; omega) (by unfold Reach; omega)
        rw [decide_eq_true rfl] at heq
        clear hcut
        go_wp2_with fail
        refine hdist.mono ?_
        rintro r w1 ⟨rfl, rfl⟩
        go_wp2_with fail
        refine heq.mono ?_
        rintro r w1 ⟨rfl, hE1⟩
        have HE1 := Lib.hid (HE.out.trans hE1); clear hE1
        go_wp2_with fail
        go_roundw
        case rel => exact ⟨q + 1, by omega, by omega, by go_num, HE1.out, .inr ⟨by omega, rfl, rfl⟩⟩
        case measure => simp [intOf]; omega
    · by_cases hqm : q + m ≤ n
      · have hdist := distance_is (a := q) (b := e) (d := q - e) (w := wr) (by omega) (by omega) (by omega) (by omega) (by omega)
        go_wp2_with fail
        refine hdist.mono ?_
        rintro r w1 ⟨rfl, rfl⟩
        go_wp2_with fail
        go_roundw
        case rel => exact ⟨q + 1, by omega, by omega, by go_num, HE.out, .inr ⟨by omega, rfl, rfl⟩⟩
        case measure => simp [intOf]; omega
      · go_wp2_with fail
        exact bodyPost_ret (v := .tuple #[.int .i64 e, .bool true]) (by simp [results, Tryz.results46, go_sem]) rfl ⟨rfl, HE.out⟩
end Go.Proofs.YtmmcjcaccicheaaGreatDoor
/- The iterator of the lines of a text. No condition but that the text is short. -/
namespace Go.Proofs.YtmmcjcaccicheaaGreatDoor
open Go.RowKit
attribute [local go_sem] Oper.semAt_some

theorem emp_yes {r : ByteArray} (h : r.size = 0) : r.toList.isEmpty = true := by
  rw [ByteArray.toList_eq, List.isEmpty_iff]
  exact List.eq_nil_of_length_eq_zero (by rw [Array.length_toList]; exact h)
theorem emp_no {r : ByteArray} (h : r.size ≠ 0) : r.toList.isEmpty = false := by
  cases e : r.toList.isEmpty with
  | false => rfl
  | true =>
    rw [ByteArray.toList_eq, List.isEmpty_iff] at e
    exact absurd (by have := congrArg List.length e; rw [Array.length_toList] at this; exact this) h
/-- A line, as it is yielded. -/
def EncL (t : Tk) (vs : Array Value) (_S : Nat → Prop) (_W : World) : Prop := ∃ n : Nat, n ≤ 1000000 ∧ vs = #[.int .i64 n, .agg #[.string (mkS (tkL t)), .bool true]]
/-- What the iterator asks. -/
structure PreL (q : Nat) (ts : List Tk) (S : Nat → Prop) (W : World) : Prop where
  box : Blk W q (.cells #[.string (mkS (joinT ts))] 9)
  nq : ¬ S q
  n0 : ¬ S 0
  q0 : q ≠ 0
  mx : Mx W
theorem PreL.ext {q : Nat} {ts : List Tk} {S : Nat → Prop} {W W' : World} (h : PreL q ts S W) (e : Ext W W') : PreL q ts S W' := ⟨h.box.ext e, h.nq, h.n0, h.q0, h.mx.ext e⟩
theorem cell_lv {S : Nat → Prop} {W W' : World} {p : Addr} {v : Value} (h : W.cell? p = some v) (k : Lv S W W') (hS : ¬ S p.block) : W'.cell? p = some v := by
  have hlt := cell_lt h
  have hb := k.2 p.block hlt hS
  unfold World.cell? at h ⊢
  rw [hb]; exact h
theorem PreL.next {q : Nat} {ts : List Tk} {S S' : Nat → Prop} {W W' : World} (h : PreL q ts S W) (k : Lv S W W') (hS : ∀ g, S' g → S g ∨ W.heap.size ≤ g) : PreL q ts S' W' := by
  obtain ⟨m, hm⟩ := h.mx
  have h0 : 0 < W.heap.size := cell_lt hm
  exact ⟨h.box.lv k h.nq, fun x => (hS _ x).elim h.nq (by have := h.box.lt; omega), fun x => (hS _ x).elim h.n0 (by omega), h.q0, m, cell_lv hm k h.n0⟩
theorem PreL.put {q : Nat} {ts ts' : List Tk} {S : Nat → Prop} {W : World} (h : PreL q ts S W) : PreL q ts' S (W.setCell ⟨q, 0, none⟩ (.string (mkS (joinT ts')))) := by
  obtain ⟨m, hm⟩ := h.mx
  exact ⟨h.box.put 0 _, h.nq, h.n0, h.q0, m, cell_lv (S := fun g => g = q) hm ((Lv.refl (fun g => g = q) W).setCell (p := ⟨q, 0, none⟩) (fun _ => rfl) (.string (mkS (joinT ts')))) (fun e => h.q0 e.symm)⟩
set_option maxRecDepth 100000 in
set_option maxHeartbeats 4000000 in
theorem lines_iter (ts : List Tk) (hok : ∀ t ∈ ts, TkOk t) (hl : (joinT ts).length ≤ 1000000000) (hn : ts.length ≤ 1000000 - 1) (q : Nat) :
    Iter Tryz.prog 76 #[.pointer (some ⟨q, 0, none⟩)] EncL ts (fun g => g = q) (PreL q ts) := by
  intro ly J Jx S W hP hSz hJ hJx hY h0
  have HP := Lib.hid hP; have HJ := Lib.hid hJ; have HJX := Lib.hid hJx; have HY := Lib.hid hY; have H0 := Lib.hid h0; have HZ := Lib.hid hSz; have HOK := Lib.hid hok; clear hP hSz hJ hJx hY h0 hok
  refine callsIn_wide.2 ?_
  simp only [List.append_toArray, List.cons_append, List.nil_append]
  go_enter Tryz.func76, Tryz.ntmps76
  go_wp2_with fail
  go_loopw [3] (fun v wr => ∃ (i : Nat) (S' : Nat → Prop), i ≤ ts.length ∧ v = .int .i64 ((i + 1 : Nat) : Int) ∧ J (ts.take i) S' wr ∧ PreL q (ts.drop i) S' wr ∧ (∀ h, S' h → h < wr.heap.size)) (fun v _ => ts.length + 1 - (intOf v).toNat)
  case atStart => exact ⟨0, S, Nat.zero_le _, rfl, H0.out, HP.out, HZ.out⟩
  case round =>
    obtain ⟨i, S1, hi, rfl, hJ1, hP1, hZ1⟩ := hrel
    have HJ1 := Lib.hid hJ1; have HP1 := Lib.hid hP1; have HZ1 := Lib.hid hZ1; clear hJ1 hP1 hZ1
    have cq : wr.cell? ⟨q, 0, none⟩ = some (.string (mkS (joinT (ts.drop i)))) := HP1.out.box.cell 0
    by_cases h : i < ts.length
    · obtain ⟨t, ht⟩ : ∃ t, ts[i]? = some t := ⟨_, List.getElem?_eq_getElem h⟩
      rw [drop_of ht] at cq
      have hcut := cut_line (HOK.out t (mem_of_get ht)) (ts.drop (i + 1))
      have hlen2 : (joinT (t :: ts.drop (i + 1))).length ≤ (joinT ts).length := by
        conv => rhs; rw [← List.take_append_drop i ts, joinT_app, drop_of ht, List.length_append]
        omega
      have hpos : 0 < (joinT (t :: ts.drop (i + 1))).length := by simp only [joinT, List.length_append, List.length_cons]; omega
      obtain ⟨s, hs⟩ : ∃ s, mkS (joinT (t :: ts.drop (i + 1))) = s := ⟨_, rfl⟩
      have hne : s.toList.isEmpty = false := emp_no (by rw [← hs, mkS_size]; omega)
      have hcl : ∀ w, Mx w → Calls Tryz.prog 77 #[.string s, .string ⟨#[10]⟩] w fun e w' => e = .returned (.tuple #[.string (mkS (tkL t)), .string (mkS (joinT (ts.drop (i + 1)))), .bool true]) ∧ Ext w w' := fun w hm => cut_is hs.symm (P := [10]) rfl hcut (by omega) hm
      rw [hs] at cq
      obtain ⟨s2, hs2⟩ : ∃ s2, mkS (tkL t) = s2 := ⟨_, rfl⟩
      obtain ⟨s3, hs3⟩ : ∃ s3, mkS (joinT (ts.drop (i + 1))) = s3 := ⟨_, rfl⟩
      rw [hs2, hs3] at hcl
      have HT := Lib.hid ht; have HCL := Lib.hid hcl; have HS2 := Lib.hid hs2; have HS3 := Lib.hid hs3
      clear ht hcl hs hs2 hs3 hcut hlen2 hpos
      go_wp2_with fail
      refine (HCL.out _ HP1.out.mx).mono ?_
      rintro e w1 ⟨rfl, hE1⟩
      have hJw : J (ts.take i) S1 w1 := HJ.out _ _ _ _ HJ1.out (Lv.of_ext hE1)
      have hPw := HP1.out.ext hE1
      have hZw : ∀ h, S1 h → h < w1.heap.size := fun h hh => Nat.lt_of_lt_of_le (HZ1.out h hh) hE1.size
      have hpx : ts.take i ++ [t] <+: ts := by rw [← take_succ_of HT.out]; exact List.take_prefix _ _
      have hR := HY.out _ t #[.int .i64 ((i : Int) + 1), .agg #[.string s2, .bool true]] S1 w1 hJw hpx ⟨i + 1, by omega, by rw [HS2.out, Int.natCast_add]; rfl⟩
      have HR1 := Lib.hid hR; have HPW := Lib.hid hPw; have HPX := Lib.hid hpx
      clear hR hJw hPw hZw hpx hE1 cq hne
      obtain ⟨fn, tmps, assign, body, hy, hRR⟩ := HR1.out
      rename ∀ a w, Code.wp Tryz.prog (((Code.region 4 _ _).seq _).seq _) _ a w → _ => hK3
      have HK3 := Lib.hid hK3; clear hK3
      go_wp2_with fail
      refine HK3.out _ _ ?_
      clear HK3
      refine wp_of_In ?_
      gi_wp2
      refine ⟨rfl, hRR.mono ?_⟩
      rintro e W6 ⟨S3, hv2, hs2, hz2, (⟨rfl, hJ2⟩ | ⟨rfl, hJx2⟩)⟩
      case inr =>
        clear hy hRR
        have HX := Lib.hid hJx2; clear hv2 hs2 hz2 hJx2
        gi_wp2
        go_wp2_with fail
        refine bodyPost_ret (results_none rfl _ _ _) rfl ?_
        exact ⟨⟨_, rfl⟩, .inr ⟨_, _, HPX.out, HX.out⟩⟩
      case inl =>
        have HP6 := Lib.hid (HPW.out.next hv2 hs2); have HZ6 := Lib.hid hz2
        rw [← take_succ_of HT.out] at hJ2
        have HJ6 := Lib.hid hJ2
        clear hy hRR hv2 hs2 hz2 hJ2 HPW HR1
        have d0 : W6.cell? ⟨q, 0, none⟩ = some (.string (mkS (joinT (ts.drop i)))) := HP6.out.box.cell 0
        have f0 := HP6.out.box.free 0
        gi_wp2
        have hP7 : PreL q (ts.drop (i + 1)) S3 (W6.setCell ⟨q, 0, none⟩ (.string s3)) := by rw [← HS3.out]; exact HP6.out.put
        have l7 : Lv (fun g => g = q) W6 (W6.setCell ⟨q, 0, none⟩ (.string s3)) := (Lv.refl (fun g => g = q) W6).setCell (p := ⟨q, 0, none⟩) (fun _ => rfl) _
        have hJ7 := HJ.out _ _ _ _ HJ6.out l7
        have hZ7 : ∀ h, S3 h → h < (W6.setCell ⟨q, 0, none⟩ (.string s3)).heap.size := fun h hh => Nat.lt_of_lt_of_le (HZ6.out h hh) l7.size
        have HP7 := Lib.hid hP7; have HJ7 := Lib.hid hJ7; have HZ7 := Lib.hid hZ7
        clear hP7 hJ7 hZ7 l7 d0 f0
        go_wp2_with fail
        go_roundw
        case rel => exact ⟨i + 1, S3, by omega, by go_num, HJ7.out, HP7.out, HZ7.out⟩
        case measure => simp [intOf]; omega
    · have hi2 : i = ts.length := by omega
      have hnil : joinT (ts.drop i) = [] := by rw [hi2, List.drop_length]; rfl
      rw [hnil] at cq
      have hem : (mkS []).toList.isEmpty = true := emp_yes rfl
      obtain ⟨s, hs⟩ : ∃ s, mkS [] = s := ⟨_, rfl⟩
      rw [hs] at cq hem
      have HI := Lib.hid hi2
      clear hs hnil hi2
      go_wp2_with fail
      have hJ9 := HJ1.out
      rw [List.take_of_length_le (by have := HI.out; omega)] at hJ9
      refine bodyPost_end (results_none rfl _ _ _) rfl ⟨⟨_, rfl⟩, .inl ⟨_, hJ9⟩⟩
end Go.Proofs.YtmmcjcaccicheaaGreatDoor
