/- The contract of Apply for one hunk. -/
import Derived.Test.YtilogolnoifigaaApply
namespace Go.Proofs.Ytilogolnoifigaa
open Go.RowKit

/-- What Apply makes of lines by one hunk. -/
def applyV (ls : List ByteArray) (x : AH) : Option (List ByteArray) :=
  if x.at_ < 0 ∨ 1099511627776 < x.at_ ∨ x.old.length + x.new.length = 0 then none
  else if ls.length < x.at_.toNat + x.old.length then none
  else if (ls.drop x.at_.toNat).take x.old.length = x.old then some (ls.take x.at_.toNat ++ x.new ++ ls.drop (x.at_.toNat + x.old.length)) else none

/-- The two results, as they lie in memory. -/
def Applied (r : Option (List ByteArray)) (e : Ending) (w' : World) : Prop := match r with
  | none => ∃ er : Int, er ≠ 0 ∧ e = .returned (.tuple #[.slice none 0 0, .int .i64 er])
  | some ss => ∃ B c, ss.length ≤ c ∧ Strs w' B ss.length ss ∧ e = .returned (.tuple #[.slice B ss.length c, .int .i64 0])

theorem ok_rh {w : World} {h : Hk} {x : AH} (r : RH w h x) : h.ok = true ↔ ¬ (x.at_ < 0 ∨ 1099511627776 < x.at_ ∨ x.old.length + x.new.length = 0) := by
  rw [ok_iff, r.2.1, r.2.2.1.1, r.2.2.2.1]
  omega

/-- What is known of the loop's round: nothing is out yet, or all but the rest is. -/
def ApplyAt (w : World) (ls : List ByteArray) (h : Hk) (x : AH) (out at_ i : Value) (wr : World) : Prop :=
  Ext w wr ∧ ((i = .int .i64 0 ∧ out = .slice none 0 0 ∧ at_ = .int .i64 0) ∨
    (i = .int .i64 1 ∧ at_ = .int .i64 (x.at_ + h.ol) ∧ x.at_.toNat + h.ol ≤ ls.length ∧ (ls.drop x.at_.toNat).take x.old.length = x.old ∧ wr.ownsRow w.heap.size 9 1 out (x.at_.toNat + h.nl) ((ls.take x.at_.toNat ++ x.new).map .string)))

set_option maxHeartbeats 1000000 in
theorem apply_bad {ls : List ByteArray} {h : Hk} {x : AH} (A : Option Addr) (n c : Nat) (G : Option Addr) (cc : Nat) (w : World) (hh : Hks w G 1 [h]) (hx : RH w h x) (hok : h.ok = false) :
    Calls Try.prog 33 #[.slice A n c, .slice G 1 cc] w fun e w' => Ext w w' ∧ Applied (applyV ls x) e w' := by
  have hV : applyV ls x = none := by
    unfold applyV
    rw [if_pos (Classical.byContradiction fun h' => by rw [(ok_rh hx).2 h'] at hok; cases hok)]
  have hE : checkFrom (-1) [h] ≠ 0 := fun e => by rw [ok_check, e] at hok; cases hok
  have HH := Lib.hid hh; have HV := Lib.hid hV; have HN := Lib.hid hE; clear hh hx hV hok
  obtain ⟨er, her⟩ : ∃ er, checkFrom (-1) [h] = er := ⟨_, rfl⟩
  have hne : (er != 0) = true := by subst her; simpa using hE
  have HER := Lib.hid her; clear her hE
  go_enter Try.func33, Try.ntmps33
  go_wp2_with fail
  refine (check_any G 1 cc [h] _ HH.out (by decide)).mono ?_
  rintro e w1 ⟨rfl, hE⟩
  have HE := Lib.hid hE; clear hE
  rw [HER.out]
  go_wp2_with fail
  refine bodyPost_ret (v := .tuple #[.slice none 0 0, .int .i64 er]) (by simp [results, Try.results33, go_sem]) rfl ⟨HE.out, ?_⟩
  rw [HV.out]
  exact ⟨er, fun e => by subst e; simp at hne, rfl⟩

-- GOOD
theorem applyV_range {ls : List ByteArray} {x : AH} (h : ls.length < x.at_.toNat + x.old.length) : applyV ls x = none := by
  unfold applyV; rw [if_pos h, ite_self]
theorem applyV_conflict {ls : List ByteArray} {x : AH} (h : (ls.drop x.at_.toNat).take x.old.length ≠ x.old) : applyV ls x = none := by
  unfold applyV; rw [if_neg h, ite_self, ite_self]
theorem applyV_fits {ls : List ByteArray} {x : AH} (h0 : ¬ (x.at_ < 0 ∨ 1099511627776 < x.at_ ∨ x.old.length + x.new.length = 0)) (h1 : x.at_.toNat + x.old.length ≤ ls.length) (h : (ls.drop x.at_.toNat).take x.old.length = x.old) :
    applyV ls x = some (ls.take x.at_.toNat ++ x.new ++ ls.drop (x.at_.toNat + x.old.length)) := by
  unfold applyV; rw [if_neg h0, if_neg (by omega), if_pos h]

theorem strs_cut {w : World} {A A' : Option Addr} {n c lo k : Nat} {ss : List ByteArray} (h : Strs w A n ss) (hn : n ≤ c) (hi : lo + k ≤ n) (hA : (if c = lo then A else A.map (fun x => x.add lo)) = A') :
    Strs w A' k ((ss.drop lo).take k) := by
  subst hA
  refine ⟨by rw [List.length_take, List.length_drop, h.1]; omega, fun s hs => h.2.1 s (List.mem_of_mem_drop (List.mem_of_mem_take hs)), ?_⟩
  have := (h.2.2.cut (k := lo) (size := 1) (cap := c) (by rw [List.length_map, h.1]; omega)).take k
  simpa [List.map_take, List.map_drop] using this

theorem equal_is {A B : Option Addr} {n m c d : Nat} {xs ys : List ByteArray} {r : Bool} (w : World) (ha : Strs w A n xs) (hb : Strs w B m ys) (hn : n ≤ Reach) (hm : m ≤ Reach) (hr : decide (xs = ys) = r) :
    Calls Try.prog 20 #[.slice A n c, .slice B m d] w fun e w' => e = .returned (.bool r) ∧ Ext w w' := by
  subst hr; exact equal_any A B n m c d xs ys w ha hb hn hm

theorem infoS : ∃ i, Try.prog.info? 9 = some i ∧ i.zero = some (.string ⟨#[]⟩) ∧ i.size = 1 ∧ i.bytes = 16 := by
  have h : (Try.prog.info? 9).map (fun i => (i.zero, i.size, i.bytes)) = some (some (.string ⟨#[]⟩), 1, 16) := by kernel_rfl
  cases hi : Try.prog.info? 9 with
  | none => rw [hi] at h; cases h
  | some i =>
    rw [hi] at h
    simp only [Option.map_some, Option.some.injEq, Prod.mk.injEq] at h
    exact ⟨i, rfl, h.1, h.2.1, h.2.2⟩
theorem underS : Try.prog.underlying 22 = some (.slice 9) := by kernel_rfl
theorem one_str (ss : List ByteArray) : ∀ u ∈ ss.map Value.string, u.oneCell' = true := by
  intro u hu
  obtain ⟨s, _, rfl⟩ := List.mem_map.1 hu
  rfl
theorem strs_take {w : World} {A : Option Addr} {n : Nat} {ss : List ByteArray} (h : Strs w A n ss) (p : Nat) : Cells w A ((ss.take p).map .string) := by
  rw [List.map_take]; exact h.2.2.take p
theorem strs_drop {w : World} {A : Option Addr} {n c : Nat} {ss : List ByteArray} (h : Strs w A n ss) (hn : n ≤ c) (lo : Nat) : Cells w (if c = lo then A else A.map (fun x => x.add lo)) ((ss.drop lo).map .string) := by
  have := h.2.2.cut (k := lo) (size := 1) (cap := c) (by rw [List.length_map, h.1]; omega)
  simpa [List.map_drop] using this
theorem know_own {w0 w w' : World} {v : Value} {n : Nat} {xs : List Value} {g : Nat} {h : Hk} (k : Know w0 [(g, h.obj)] w) (ho : w.ownsRow w0.heap.size 9 1 v n xs) (hg : w.grownBy w' v.ownBlock) : Know w0 [(g, h.obj)] w' :=
  ⟨k.1.own ho hg, fun q hq => by
    obtain rfl := List.mem_singleton.1 hq
    exact (k.at 0 rfl).own ho (by decide) hg⟩

set_option maxHeartbeats 2000000 in
theorem apply_ok {ls : List ByteArray} {h : Hk} {x : AH} (A : Option Addr) (n c : Nat) (G : Option Addr) (cc : Nat) (w : World) (hl : Strs w A n ls) (hnc : n ≤ c) (hn : n ≤ 1099511627776) (hnl : h.nl ≤ 1099511627776) (hh : Hks w G 1 [h]) (hx : RH w h x) (hok : h.ok = true) :
    Calls Try.prog 33 #[.slice A n c, .slice G 1 cc] w fun e w' => Ext w w' ∧ Applied (applyV ls x) e w' := by
  have HO := Lib.hid ((ok_rh hx).1 hok)
  have HC := Lib.hid (ok_check h)
  obtain ⟨p0, p1⟩ := ok_bounds hok
  obtain ⟨at_, oa, ol, oc, na, nl, nc⟩ := h
  simp only at p0 p1 hnl
  obtain ⟨p, rfl⟩ := Int.eq_ofNat_of_zero_le p0
  have hat : x.at_ = (p : Int) := hx.2.1.symm
  have HAT := Lib.hid hat
  have hE : checkFrom (-1) [(⟨p, oa, ol, oc, na, nl, nc⟩ : Hk)] = 0 := by have := HC.out; rw [hok] at this; simpa using this.symm
  have HE0 := Lib.hid hE
  have hol : x.old.length = ol := hx.2.2.1.1
  have hnl' : x.new.length = nl := hx.2.2.2.1
  have HOL := Lib.hid hol; have HNL := Lib.hid hnl'
  have HL := Lib.hid hl; have HH := Lib.hid hh; have HX := Lib.hid hx
  have hsm : ol ≤ Reach := hx.1.1
  unfold Reach at hsm
  have hlen : ls.length = n := hl.1
  have HLEN := Lib.hid hlen
  have hxa : x.at_.toNat = p := by rw [hat]; simp
  have HXA := Lib.hid hxa
  clear hl hh hx hok hE hat hol hnl' hlen hxa HC
  go_enter Try.func33, Try.ntmps33
  go_wp2_with fail
  refine (check_any G 1 cc [⟨p, oa, ol, oc, na, nl, nc⟩] _ HH.out (by decide)).mono ?_
  rintro e w1 ⟨rfl, hE⟩
  have HE := Lib.hid hE; clear hE
  rw [HE0.out]
  go_wp2_with fail
  go_loopw [7, 8, 18] (fun o a i wr => ApplyAt w ls ⟨p, oa, ol, oc, na, nl, nc⟩ x o a i wr) (fun _ _ i _ => 1 - (intOf i).toNat)
  case atStart => exact ⟨HE.out, .inl ⟨rfl, rfl, rfl⟩⟩
  case round =>
    obtain ⟨hE, ⟨rfl, rfl, rfl⟩ | ⟨rfl, rfl, h1, h2, hown⟩⟩ := hrel
    · have HE2 := Lib.hid hE; clear hE
      obtain ⟨gb, off, x', rfl, hb, hx', hxs, hc0, hc1, hc2⟩ := (HH.out.ext HE2.out).get (k := 0) (by omega)
      obtain rfl : (⟨p, oa, ol, oc, na, nl, nc⟩ : Hk) = x' := by simpa using hx'
      simp only [Nat.zero_mul, Nat.add_zero] at hc0 hc1 hc2
      clear hx' hxs
      by_cases hr : n < p + ol
      · have hr' : ((n : Int) < (p : Int) + ol) := by omega
        have HR := Lib.hid hr; clear hr
        go_wp2_with fail
        refine (end_any ⟨p, oa, ol, oc, na, nl, nc⟩ _ p0 p1 HX.out.1).mono ?_
        rintro e w2 ⟨rfl, hE⟩
        have HE3 := Lib.hid ((HE2.out.alloc _).trans hE); clear hE
        go_wp2_with fail
        refine bodyPost_ret (v := .tuple #[.slice none 0 0, .int .i64 2]) (by simp [results, Try.results33, go_sem]) rfl ⟨HE3.out, ?_⟩
        rw [applyV_range (by rw [HLEN.out, HXA.out, HOL.out]; exact HR.out)]
        exact ⟨2, by decide, rfl⟩
      have hr' : ¬ ((n : Int) < (p : Int) + ol) := by omega
      go_wp2_with fail
      refine (end_any ⟨p, oa, ol, oc, na, nl, nc⟩ _ p0 p1 HX.out.1).mono ?_
      rintro e w2 ⟨rfl, hE⟩
      have K1 : Know w [] wr := ⟨HE2.out, by simp⟩
      have K2 := Lib.hid ((K1.new (Hk.obj ⟨p, oa, ol, oc, na, nl, nc⟩) rfl).ext hE); clear K1; clear hE
      have hs1 : (p : Int) ≤ (p : Int) + ol := by omega
      have hs2 : (p : Int) + ol ≤ (c : Int) := by omega
      have hs3 : ((p : Int) + ol).toNat - p = ol := by omega
      have hr2 : p + ol ≤ n := by omega
      obtain ⟨A', hA'⟩ : ∃ A', (if c = p then A else A.map (fun x => x.add p)) = A' := ⟨_, rfl⟩
      have HA' := Lib.hid hA'; clear hA'
      go_wp2_with fail
      by_cases hm : (ls.drop p).take ol = x.old
      · have hmd : decide ((ls.drop p).take ol = x.old) = true := by simp [hm]
        have HM := Lib.hid hm; have HMD := Lib.hid hmd; clear hm hmd
        refine wp_region_text (Know w [(wr.heap.size, Hk.obj ⟨p, oa, ol, oc, na, nl, nc⟩)]) [0,1,2,3,4,5,6,7,8,9] (by kernel_rfl) (Know.stab _ _) K2.out.drew (by kernel_rfl) (fun _ d _ _ _ h => by cases d <;> exact h) ?_
        iterate 5
          refine wpTk_want rfl (Eq.refl true) ?_
          apply Exists.intro
          refine ⟨fun wx hx => ?_, ?_⟩
          · obtain ⟨d00, d01, d02⟩ := (hx.at 0 rfl).cells3
            clear hx
            go_simp
            first
              | with_reducible exact gives_ok _ _ _
              | (have r := end_any ⟨p, oa, ol, oc, na, nl, nc⟩ wx p0 p1 HX.out.1; with_reducible exact gives_call _ _ _ r)
          simp only [Act.put, List.setIfInBounds_toArray, List.set_cons_zero, List.set_cons_succ]
        refine wpTk_want rfl (Eq.refl true) ⟨.slice A' ol (c - p), fun wx hx => ?_, ?_⟩
        · clear hx
          go_simp
          rw [HA'.out]
          with_reducible exact gives_ok _ _ _
        simp only [Act.put, List.setIfInBounds_toArray, List.set_cons_zero, List.set_cons_succ]
        iterate 4
          refine wpTk_want rfl (Eq.refl true) ?_
          apply Exists.intro
          refine ⟨fun wx hx => ?_, ?_⟩
          · obtain ⟨d00, d01, d02⟩ := (hx.at 0 rfl).cells3
            have HXX := Lib.hid hx; clear hx
            go_simp
            first
              | with_reducible exact gives_ok _ _ _
              | (have r := equal_is (c := c - p) (d := oc) wx (strs_cut (HL.out.ext HXX.out.1) hnc hr2 HA'.out) (HX.out.ext HXX.out.1).2.2.1 (by unfold Reach; omega) HX.out.1.1 HMD.out; with_reducible exact gives_call _ _ _ r)
          simp only [Act.put, List.setIfInBounds_toArray, List.set_cons_zero, List.set_cons_succ]
        refine wpTk_nil ?_
        intro w3 hK
        have K3 := Lib.hid hK; clear hK
        go_wp2_with fail
        have hp1 : (p : Int) ≤ (c : Int) := by omega
        refine wp_region_X (T := Know w [(wr.heap.size, Hk.obj ⟨p, oa, ol, oc, na, nl, nc⟩)]) (Know w [(wr.heap.size, Hk.obj ⟨p, oa, ol, oc, na, nl, nc⟩)]) (by kernel_rfl) K3.out.drew (wpX_takes (by kernel_rfl) (fun _ d _ _ _ h => by cases d <;> exact h) (Know.stab _ _) (fun _ h => h) (fuel := 3) [0,1,2,3,4,5,7,8] _ _ (by kernel_rfl) ?_)
        iterate 8
          refine wpTk_want rfl (Eq.refl true) ?_
          apply Exists.intro
          refine ⟨fun wx hx => ?_, ?_⟩
          · obtain ⟨d00, d01, d02⟩ := (hx.at 0 rfl).cells3
            clear hx
            go_simp
            with_reducible exact gives_ok _ _ _
          simp only [Act.put, List.setIfInBounds_toArray, List.set_cons_zero, List.set_cons_succ]
        refine wpTk_nil ?_
        obtain ⟨inf, i1, i2, i3, i4⟩ := infoS
        refine wpX_append 6 (by kernel_rfl) rfl rfl (.tmp 37) (.tmp 42) 22 rfl w.heap.size 9 inf _ 16 underS i1 i2 i3 i4 rfl (.slice none 0 0) 0 [] A p c ((ls.take p).map .string) rfl rfl (by rw [List.length_map, List.length_take, HLEN.out]; omega) (one_str _) (by simp only [maxLen]; omega) (by omega)
          (fun wx hx => ⟨World.ownsRow_nil _ _ _ _, strs_take (HL.out.ext hx.1) p, hx.1.size⟩) (fun wx hx v1 wy hown hg => ?_)
        refine ⟨fun wz => Know w [(wr.heap.size, Hk.obj ⟨p, oa, ol, oc, na, nl, nc⟩)] wz ∧ wz.ownsRow w.heap.size 9 1 v1 (0 + p) ([] ++ (ls.take p).map .string), (Know.stab _ _).and (own_stab _ _ _ _ _), fun _ h => h.1, ⟨know_own hx (World.ownsRow_nil _ _ _ _) hg, hown⟩, ?_⟩
        clear hg hown hx wx wy
        refine wpX_append 9 (by kernel_rfl) rfl rfl (.tmp 43) (.tmp 45) 22 rfl w.heap.size 9 inf _ 16 underS i1 i2 i3 i4 rfl v1 (0 + p) ([] ++ (ls.take p).map .string) na nl nc (x.new.map .string) rfl rfl (by rw [List.length_map, HNL.out]) (one_str _) (by simp only [maxLen]; omega) (by omega)
          (fun wx hx => ⟨hx.2, (HX.out.ext hx.1.1).2.2.2.2.2, hx.1.1.size⟩) (fun wx hx v2 wy hown hg => ?_)
        refine ⟨fun wz => Know w [(wr.heap.size, Hk.obj ⟨p, oa, ol, oc, na, nl, nc⟩)] wz ∧ wz.ownsRow w.heap.size 9 1 v2 (0 + p + nl) ([] ++ (ls.take p).map .string ++ x.new.map .string), (Know.stab _ _).and (own_stab _ _ _ _ _), fun _ h => h.1, ⟨know_own hx.1 hx.2 hg, hown⟩, ?_⟩
        clear hg hown hx wx wy
        refine wpX_one 10 (by kernel_rfl) rfl rfl (fun wz hz K hK => ?_)
        go_simp
        refine hK _ _ ⟨fun wz => Know w [(wr.heap.size, Hk.obj ⟨p, oa, ol, oc, na, nl, nc⟩)] wz ∧ wz.ownsRow w.heap.size 9 1 v2 (0 + p + nl) ([] ++ (ls.take p).map .string ++ x.new.map .string), (Know.stab _ _).and (own_stab _ _ _ _ _), fun _ h => h.1, hz, ?_⟩
        clear hK K hz wz
        refine wpX_done (by kernel_rfl) (fun wz hz => ?_) _
        obtain ⟨hz, hz7⟩ := hz
        obtain ⟨d00, d01, d02⟩ := (hz.at 0 rfl).cells3
        have HZ := Lib.hid hz; have HZ7 := Lib.hid hz7; clear hz hz7
        go_wp2_with fail
        refine (end_any ⟨p, oa, ol, oc, na, nl, nc⟩ _ p0 p1 HX.out.1).mono ?_
        rintro e w4 ⟨rfl, hE⟩
        have HE4 := Lib.hid hE; clear hE d00 d01 d02
        go_wp2_with fail
        go_roundw
        case rel =>
          refine ⟨HZ.out.1.trans HE4.out, .inr ⟨by go_num, by rw [HAT.out], by rw [HXA.out, HLEN.out]; exact hr2, by rw [HXA.out, HOL.out]; exact HM.out, ?_⟩⟩
          have := own_stab _ _ _ _ _ _ _ HE4.out HZ7.out
          simpa [HXA.out] using this
        case measure => simp [intOf]
      · have hmd : decide ((ls.drop p).take ol = x.old) = false := by simp [hm]
        have HM := Lib.hid hm; have HMD := Lib.hid hmd; clear hm hmd
        refine wp_region_text (Know w [(wr.heap.size, Hk.obj ⟨p, oa, ol, oc, na, nl, nc⟩)]) [0,1,2,3,4,5,6,7,8,9] (by kernel_rfl) (Know.stab _ _) K2.out.drew (by kernel_rfl) (fun _ d _ _ _ h => by cases d <;> exact h) ?_
        iterate 5
          refine wpTk_want rfl (Eq.refl true) ?_
          apply Exists.intro
          refine ⟨fun wx hx => ?_, ?_⟩
          · obtain ⟨d00, d01, d02⟩ := (hx.at 0 rfl).cells3
            clear hx
            go_simp
            first
              | with_reducible exact gives_ok _ _ _
              | (have r := end_any ⟨p, oa, ol, oc, na, nl, nc⟩ wx p0 p1 HX.out.1; with_reducible exact gives_call _ _ _ r)
          simp only [Act.put, List.setIfInBounds_toArray, List.set_cons_zero, List.set_cons_succ]
        refine wpTk_want rfl (Eq.refl true) ⟨.slice A' ol (c - p), fun wx hx => ?_, ?_⟩
        · clear hx
          go_simp
          rw [HA'.out]
          with_reducible exact gives_ok _ _ _
        simp only [Act.put, List.setIfInBounds_toArray, List.set_cons_zero, List.set_cons_succ]
        iterate 4
          refine wpTk_want rfl (Eq.refl true) ?_
          apply Exists.intro
          refine ⟨fun wx hx => ?_, ?_⟩
          · obtain ⟨d00, d01, d02⟩ := (hx.at 0 rfl).cells3
            have HXX := Lib.hid hx; clear hx
            go_simp
            first
              | with_reducible exact gives_ok _ _ _
              | (have r := equal_is (c := c - p) (d := oc) wx (strs_cut (HL.out.ext HXX.out.1) hnc hr2 HA'.out) (HX.out.ext HXX.out.1).2.2.1 (by unfold Reach; omega) HX.out.1.1 HMD.out; with_reducible exact gives_call _ _ _ r)
          simp only [Act.put, List.setIfInBounds_toArray, List.set_cons_zero, List.set_cons_succ]
        refine wpTk_nil ?_
        intro w3 hK
        have K3 := Lib.hid hK; clear hK
        go_wp2_with fail
        refine bodyPost_ret (v := .tuple #[.slice none 0 0, .int .i64 15]) (by simp [results, Try.results33, go_sem]) rfl ⟨K3.out.1, ?_⟩
        rw [applyV_conflict (by rw [HXA.out, HOL.out]; exact HM.out)]
        exact ⟨15, by decide, rfl⟩
    · have HE2 := Lib.hid hE; have H2 := Lib.hid h2; clear hE h2
      rw [HXA.out] at hown
      have HOWN := Lib.hid hown; clear hown
      have hpn : p + ol ≤ n := by rw [HXA.out, HLEN.out] at h1; exact h1
      clear h1
      rw [HAT.out]
      obtain ⟨inf, i1, i2, i3, i4⟩ := infoS
      have I1 := Lib.hid i1; have I2 := Lib.hid i2; have I3 := Lib.hid i3; have I4 := Lib.hid i4; clear i1 i2 i3 i4
      have hs1 : (p : Int) + ol ≤ (n : Int) := by omega
      have hs2 : (p : Int) + ol ≤ (c : Int) := by omega
      have hs0 : 0 ≤ (p : Int) + ol := by omega
      have hs3 : ((p : Int) + ol).toNat = p + ol := by omega
      go_wp2_with (at_builtin; refine wpList_append_cells rfl (.tmp 50) (.tmp 53) 22 rfl w.heap.size 9 inf _ 16 underS I1.out I2.out I3.out I4.out rfl _ (p + nl) _ _ _ _ ((ls.drop (p + ol)).map .string) rfl rfl (by rw [List.length_map, List.length_drop, HLEN.out]) (one_str _) (by simp only [maxLen]; omega) (by omega) HOWN.out (strs_drop (HL.out.ext HE2.out) hnc (p + ol)) HE2.out.size ?_; intro v2 w2 hown2 hg2)
      all_goals
        have HE3 := Lib.hid (HE2.out.own HOWN.out hg2)
        have hss : applyV ls x = some (ls.take p ++ x.new ++ ls.drop (p + ol)) := by
          have := applyV_fits HO.out (by rw [HXA.out, HOL.out, HLEN.out]; exact hpn) H2.out
          rw [HXA.out, HOL.out] at this; exact this
        obtain ⟨B, c', hv, hc', hS⟩ := own_strs (ss := ls.take p ++ x.new ++ ls.drop (p + ol)) (by simpa using hown2) (by
          intro s hs
          rcases List.mem_append.1 hs with hs | hs
          · rcases List.mem_append.1 hs with hs | hs
            · exact HL.out.2.1 _ (List.mem_of_mem_take hs)
            · exact HX.out.2.2.2.2.1 _ hs
          · exact HL.out.2.1 _ (List.mem_of_mem_drop hs))
        subst hv
        have hlen : (ls.take p ++ x.new ++ ls.drop (p + ol)).length = p + nl + (n - (p + ol)) := by
          rw [List.length_append, List.length_append, List.length_take, List.length_drop, HLEN.out, HNL.out]; omega
        have HS := Lib.hid hS; have HSS := Lib.hid hss; have HLN := Lib.hid hlen; have HC' := Lib.hid hc'; clear hS hss hlen hc' hown2 hg2
        go_wp2_with fail
        refine bodyPost_ret (v := .tuple #[.slice B (p + nl + (n - (p + ol))) c', .int .i64 0]) (by simp [results, Try.results33, go_sem]) rfl ⟨HE3.out, ?_⟩
        rw [HSS.out]
        unfold Applied
        simp only [HLN.out]
        exact ⟨B, c', HC'.out, HS.out, rfl⟩

end Go.Proofs.Ytilogolnoifigaa
