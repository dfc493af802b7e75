/- The contract of the law's 'follow'. -/
import Derived.Test.YtilogolnoifigaaApplied
namespace Go.Proofs.Ytilogolnoifigaa
open Go.RowKit

theorem apply_all {ls : List ByteArray} {h : Hk} {x : AH} (A : Option Addr) (n c : Nat) (G : Option Addr) (cc : Nat) (w : World) (hl : Strs w A n ls) (hnc : n ≤ c) (hn : n ≤ 1099511627776) (hnl : h.nl ≤ 1099511627776) (hh : Hks w G 1 [h]) (hx : RH w h x) :
    Calls Try.prog 33 #[.slice A n c, .slice G 1 cc] w fun e w' => Ext w w' ∧ Applied (applyV ls x) e w' := by
  cases hok : h.ok with
  | true => exact apply_ok A n c G cc w hl hnc hn hnl hh hx hok
  | false => exact apply_bad A n c G cc w hh hx hok
theorem apply_none {ls : List ByteArray} {h : Hk} {x : AH} (A : Option Addr) (n c : Nat) (G : Option Addr) (cc : Nat) (w : World) (hl : Strs w A n ls) (hnc : n ≤ c) (hn : n ≤ 1099511627776) (hnl : h.nl ≤ 1099511627776) (hh : Hks w G 1 [h]) (hx : RH w h x) (hv : applyV ls x = none) :
    Calls Try.prog 33 #[.slice A n c, .slice G 1 cc] w fun e w' => Ext w w' ∧ ∃ er : Int, er ≠ 0 ∧ e = .returned (.tuple #[.slice none 0 0, .int .i64 er]) := by
  have := apply_all A n c G cc w hl hnc hn hnl hh hx
  rw [hv] at this; exact this
theorem apply_some {ls ss : List ByteArray} {h : Hk} {x : AH} (A : Option Addr) (n c : Nat) (G : Option Addr) (cc : Nat) (w : World) (hl : Strs w A n ls) (hnc : n ≤ c) (hn : n ≤ 1099511627776) (hnl : h.nl ≤ 1099511627776) (hh : Hks w G 1 [h]) (hx : RH w h x) (hv : applyV ls x = some ss) :
    Calls Try.prog 33 #[.slice A n c, .slice G 1 cc] w fun e w' => Ext w w' ∧ ∃ B c, ss.length ≤ c ∧ Strs w' B ss.length ss ∧ e = .returned (.tuple #[.slice B ss.length c, .int .i64 0]) := by
  have := apply_all A n c G cc w hl hnc hn hnl hh hx
  rw [hv] at this; exact this

theorem applyV_len {ls ss : List ByteArray} {x : AH} (h : applyV ls x = some ss) : ss.length ≤ ls.length + x.new.length := by
  unfold applyV at h
  split at h
  · cases h
  · split at h
    · cases h
    · split at h
      · cases h; simp only [List.length_append, List.length_take, List.length_drop]; omega
      · cases h

/-- What hunks make of lines one after the other. -/
def followV (ls : List ByteArray) : List AH → Option (List ByteArray)
  | [] => some ls
  | x :: t => match applyV ls x with
    | none => none
    | some ss => followV ss t

/-- The two results, as they lie in memory. -/
def Followed (r : Option (List ByteArray)) (e : Ending) (w' : World) : Prop := match r with
  | none => e = .returned (.tuple #[.slice none 0 0, .bool false])
  | some ss => ∃ B c, ss.length ≤ c ∧ ss.length ≤ 2000000 ∧ Strs w' B ss.length ss ∧ e = .returned (.tuple #[.slice B ss.length c, .bool true])

def FollowAt (w : World) (ls : List ByteArray) (xs : List AH) (k : Nat) (v : Value) (wr : World) : Prop :=
  Ext w wr ∧ ∃ B d l, v = .slice B l.length d ∧ l.length ≤ d ∧ Strs wr B l.length l ∧ l.length ≤ 1000 + 1000 * k ∧ followV ls xs = followV l (xs.drop k)

set_option maxHeartbeats 1000000 in
theorem follow_any {ls : List ByteArray} (A : Option Addr) (n c : Nat) (s : HS) (w : World) (hl : Strs w A n ls) (hnc : n ≤ c) (hn : n ≤ 1000) (hs : RHS w s) (hsn : s.n ≤ 1000) (hnl : ∀ x ∈ s.xs, x.new.length ≤ 1000) :
    Calls Try.prog 19 #[.slice A n c, .slice s.a s.n s.c] w fun e w' => Ext w w' ∧ Followed (followV ls s.xs) e w' := by
  obtain ⟨G, gn, gc, hs', xs⟩ := s
  simp only at hsn hnl
  obtain ⟨hs1, hs2, hs3, hs4⟩ := hs
  simp only at hs1 hs2 hs3 hs4
  obtain rfl : ls.length = n := hl.1
  have HL := Lib.hid hl; have HH := Lib.hid hs2; have HX := Lib.hid hs4; have HLX := Lib.hid hs3; have HNL := Lib.hid hnl
  clear hl hs1 hs2 hs3 hs4 hnl
  go_enter Try.func19, Try.ntmps19
  go_wp2_with fail
  go_loopw [0, 12] (fun v i wr => ∃ k : Nat, k ≤ gn ∧ i = .int .i64 k ∧ FollowAt w ls xs k v wr) (fun _ i _ => gn - (intOf i).toNat)
  case atStart => exact ⟨0, Nat.zero_le _, rfl, Ext.refl _, A, c, ls, rfl, hnc, HL.out, by omega, rfl⟩
  case round =>
    obtain ⟨k, hk, rfl, hE, B, d, l, rfl, hld, hl, hlb, hf⟩ := hrel
    have HE := Lib.hid hE; have HL2 := Lib.hid hl; have HF := Lib.hid hf; clear hE hl hf
    by_cases hlt : k < gn
    · obtain ⟨gb, off, h, rfl, hb, hx, hxs, hc0, hc1, hc2⟩ := (HH.out.ext HE.out).get hlt
      obtain ⟨x, hxx⟩ : ∃ x, xs[k]? = some x := ⟨_, List.getElem?_eq_getElem (by rw [HLX.out]; exact hlt)⟩
      have hr := (HX.out k h x hx hxx).ext HE.out
      have HR := Lib.hid hr; have HK := Lib.hid hxx
      have hn1 : h.nl ≤ 1000 := by rw [← HR.out.2.2.2.1]; exact HNL.out x (List.mem_of_getElem? hxx)
      have hn2 : x.new.length = h.nl := HR.out.2.2.2.1
      have HN2 := Lib.hid hn2
      clear hr hxx hx hxs hn2
      cases hv : applyV l x with
      | none =>
        have HV := Lib.hid hv; clear hv
        go_wp2_with fail
        refine (apply_none B l.length d _ 1 _ ((HL2.out.ext ((Ext.refl _).alloc _)).ext ((Ext.refl _).alloc _)) hld (by omega) (by omega) (hks_one h HR.out.1 _ (by simp)) ((HR.out.ext ((Ext.refl _).alloc _)).ext ((Ext.refl _).alloc _)) HV.out).mono ?_
        rintro e w1 ⟨hE, er, hne, rfl⟩
        have HE2 := Lib.hid (((HE.out.alloc _).alloc _).trans hE); clear hE
        have hne' : (er != 0) = true := by simpa using hne
        clear hne
        go_wp2_with fail
        refine bodyPost_ret (v := .tuple #[.slice none 0 0, .bool false]) (by simp [results, Try.results19, go_sem]) rfl ⟨HE2.out, ?_⟩
        rw [HF.out, drop_of HK.out]
        simp only [followV, HV.out]
        exact rfl
      | some ss =>
        have HV := Lib.hid hv; clear hv
        go_wp2_with fail
        refine (apply_some B l.length d _ 1 _ ((HL2.out.ext ((Ext.refl _).alloc _)).ext ((Ext.refl _).alloc _)) hld (by omega) (by omega) (hks_one h HR.out.1 _ (by simp)) ((HR.out.ext ((Ext.refl _).alloc _)).ext ((Ext.refl _).alloc _)) HV.out).mono ?_
        rintro e w1 ⟨hE, B', d', hd', hS, rfl⟩
        have HE2 := Lib.hid (((HE.out.alloc _).alloc _).trans hE); have HS := Lib.hid hS; clear hE hS
        go_wp2_with fail
        go_roundw
        case rel =>
          refine ⟨k + 1, by omega, by go_num, HE2.out, B', d', ss, rfl, hd', HS.out, ?_, ?_⟩
          · have := applyV_len HV.out
            rw [HN2.out] at this
            omega
          · rw [HF.out, drop_of HK.out]
            simp only [followV, HV.out]
        case measure => simp [intOf]; omega
    · go_wp2_with fail
      refine bodyPost_ret (v := .tuple #[.slice B l.length d, .bool true]) (by simp [results, Try.results19, go_sem]) rfl ⟨HE.out, ?_⟩
      rw [HF.out, List.drop_of_length_le (by rw [HLX.out]; omega)]
      exact ⟨B, d, hld, by omega, HL2.out, rfl⟩

end Go.Proofs.Ytilogolnoifigaa
