/- Contracts: Great, great. -/
import Derived.Test.YtkkjhkmfoeblaaaMyDefs
import Derived.Test.YtkkjhkmfoeblaaaEqual
namespace Go.Proofs.Ytkkjhkmfoeblaaa
open Go.RowKit

/-- Is a list of lines larger than the statements examine? -/
def great03 (l : Lns) : Bool := decide (12 < l.length) || l.any (fun s => decide (20 < s.size))

set_option maxHeartbeats 1000000 in
theorem great03_any (A : Option Addr) (n c : Nat) (xs : Lns) (w : World) (ha : Strs w A n xs) (hn : n ≤ Reach) :
    Calls Try.prog 25 #[.slice A n c] w fun e w' => e = .returned (.bool (great03 xs)) ∧ w = w' := by
  unfold Reach at hn
  have HA := Lib.hid ha; clear ha
  by_cases h12 : 12 < n
  · go_enter Try.func25, Try.ntmps25
    go_wp2_with fail
    go_ret
    exact ⟨ret_bool (by rw [great03, HA.out.1]; simp [h12]), rfl⟩
  go_enter Try.func25, Try.ntmps25
  go_wp2_with fail
  go_loop [3] (fun i => ∃ k : Nat, k ≤ n ∧ i = .int .i64 k ∧ (xs.take k).any (fun s => decide (20 < s.size)) = false) (fun i => n - (intOf i).toNat)
  case atStart => exact ⟨0, Nat.zero_le _, rfl, rfl⟩
  case round =>
    obtain ⟨k, hk, rfl, hany⟩ := hrel
    have HY := Lib.hid hany; clear hany
    by_cases hlt : k < n
    · obtain ⟨b, off, s, rfl, hb, hs, hs2, hc⟩ := HA.out.get hlt
      have HS := Lib.hid hs; clear hs
      unfold Reach at hs2
      by_cases hg : 20 < s.size
      · go_wp2_with fail
        go_ret
        have : xs.any (fun s => decide (20 < s.size)) = true := List.any_eq_true.2 ⟨s, List.mem_of_getElem? HS.out, by simpa using hg⟩
        exact ⟨ret_bool (by rw [great03, this]; simp), rfl⟩
      · go_wp2_with fail
        go_round
        case rel => exact ⟨k + 1, by omega, by go_num, by rw [take_succ_of HS.out, List.any_append, HY.out]; simpa using hg⟩
        case measure => simp [intOf]; omega
    · have hkn : xs.take k = xs := List.take_of_length_le (by rw [HA.out.1]; omega)
      have HK := Lib.hid hkn; clear hkn
      go_wp2_with fail
      go_ret
      exact ⟨ret_bool (by have := HY.out; rw [HK.out] at this; rw [great03, this, HA.out.1]; simp [h12]), rfl⟩

/-- A slice of slices of strings. -/
structure SS where
  a : Option Addr
  n : Nat
  c : Nat
  l : Lns
def RSS (w : World) (s : SS) : Prop := s.n ≤ Reach ∧ Strs w s.a s.n s.l
theorem RSS.ext {w w' : World} {s : SS} (r : RSS w s) (e : Ext w w') : RSS w' s := ⟨r.1, r.2.ext e⟩
def RSSs (w : World) (A : Option Addr) (n : Nat) (L : List SS) : Prop := n ≤ Reach ∧ L.length = n ∧ (∀ s ∈ L, RSS w s) ∧ Cells w A (L.map fun s => .slice s.a s.n s.c)
theorem RSSs.ext {w w' : World} {A : Option Addr} {n : Nat} {L : List SS} (r : RSSs w A n L) (e : Ext w w') : RSSs w' A n L := ⟨r.1, r.2.1, fun s hs => (r.2.2.1 s hs).ext e, r.2.2.2.ext e⟩
theorem RSSs.get {w : World} {A : Option Addr} {n : Nat} {L : List SS} (h : RSSs w A n L) {k : Nat} (hk : k < n) : ∃ b off s, A = some ⟨b, off, none⟩ ∧ b < w.heap.size ∧ L[k]? = some s ∧ RSS w s ∧ w.cell? ⟨b, off + k, none⟩ = some (.slice s.a s.n s.c) := by
  have hl : k < L.length := by rw [h.2.1]; exact hk
  obtain ⟨b, off, h1, h2, h3⟩ := h.2.2.2.get (k := k) (by simpa using hl)
  exact ⟨b, off, L[k], h1, h2, List.getElem?_eq_getElem hl, h.2.2.1 _ (List.getElem_mem hl), h3 k _ (by simp [hl])⟩
theorem RSSs.of_blk {w : World} {g : Nat} {t : TypeId} {L : List SS} (h : Blk w g (.cells (L.map fun s => Value.slice s.a s.n s.c).toArray t (0, 0))) (hn : L.length ≤ Reach) (hr : ∀ s ∈ L, RSS w s) : RSSs w (some ⟨g, 0, none⟩) L.length L := by
  refine ⟨hn, rfl, hr, .inr ⟨g, 0, rfl, fun j u hu => ?_⟩⟩
  rw [h.cell]; simpa using hu

/-- The index of the first great one from k on. -/
def gIdx (k : Nat) : List SS → Int
  | [] => -1
  | s :: t => if great03 s.l = true then k else gIdx (k + 1) t

set_option maxHeartbeats 1000000 in
theorem indexGreat_any (A : Option Addr) (n c : Nat) (L : List SS) (w : World) (hr : RSSs w A n L) :
    Calls Try.prog 39 #[.slice A n c, .func (.func 25) #[] #[]] w fun e w' => e = .returned (.int .i64 (gIdx 0 L)) ∧ Ext w w' := by
  have HR := Lib.hid hr
  obtain ⟨hn, -⟩ := hr
  unfold Reach at hn
  go_enter Try.func39, Try.ntmps39
  go_wp2_with fail
  go_loopw [8] (fun i wr => ∃ k : Nat, k ≤ n ∧ i = .int .i64 k ∧ gIdx 0 L = gIdx k (L.drop k) ∧ Ext w wr) (fun i _ => n - (intOf i).toNat)
  case atStart => exact ⟨0, Nat.zero_le _, rfl, rfl, Ext.refl _⟩
  case round =>
    obtain ⟨k, hk, rfl, hg, hE⟩ := hrel
    have HE := Lib.hid hE; have HG := Lib.hid hg; clear hE hg
    by_cases hlt : k < n
    · obtain ⟨b, off, ⟨sa, sn, sc, s⟩, rfl, hb, hs, hrs, hc0⟩ := (HR.out.ext HE.out).get hlt
      dsimp only at hc0
      have HS := Lib.hid hs; have HRS := Lib.hid hrs; clear hs hrs
      by_cases h1 : great03 s = true
      · go_wp2_with fail
        refine (great03_any sa sn sc s _ HRS.out.2 HRS.out.1).mono ?_
        rintro e w1 ⟨rfl, rfl⟩
        go_wp2_with fail
        go_ret
        exact ⟨ret_int (by rw [HG.out, drop_of HS.out, gIdx, if_pos h1]), HE.out⟩
      · have h1' : great03 s = false := by simpa using h1
        have H1 := Lib.hid h1; clear h1
        go_wp2_with fail
        refine (great03_any sa sn sc s _ HRS.out.2 HRS.out.1).mono ?_
        rintro e w1 ⟨rfl, rfl⟩
        go_wp2_with fail
        go_roundw
        case rel => exact ⟨k + 1, by omega, by go_num, by rw [HG.out, drop_of HS.out, gIdx, if_neg H1.out], HE.out⟩
        case measure => simp [intOf]; omega
    · go_wp2_with fail
      go_ret
      exact ⟨ret_int (by rw [HG.out, List.drop_of_length_le (by rw [HR.out.2.1]; omega)]; rfl), HE.out⟩

theorem gIdx_neg : ∀ (L : List SS) (k : Nat), (0 ≤ gIdx k L ↔ L.any (fun s => great03 s.l) = true)
  | [], k => by simp [gIdx]
  | s :: t, k => by
    unfold gIdx
    by_cases h : great03 s.l = true
    · rw [if_pos h]; simp [h]
    · rw [if_neg h, gIdx_neg t (k + 1)]; simp [h]

set_option maxHeartbeats 1000000 in
theorem containsGreat_any (A : Option Addr) (n c : Nat) (L : List SS) (w : World) (hr : RSSs w A n L) :
    Calls Try.prog 24 #[.slice A n c, .func (.func 25) #[] #[]] w fun e w' => e = .returned (.bool (L.any fun s => great03 s.l)) ∧ Ext w w' := by
  have HR := Lib.hid hr; clear hr
  go_enter Try.func24, Try.ntmps24
  go_wp2_with fail
  refine (indexGreat_any A n c L _ HR.out).mono ?_
  rintro e w1 ⟨rfl, hE⟩
  have HE := Lib.hid hE; clear hE
  go_wp2_with fail
  go_ret
  exact ⟨ret_bool (by rw [Bool.eq_iff_iff, ← gIdx_neg L 0]; simp), HE.out⟩

set_option maxHeartbeats 1000000 in
theorem great_any (A : Option Addr) (n c : Nat) (L : List SS) (w : World) (hr : RSSs w A n L) :
    Calls Try.prog 10 #[.slice A n c] w fun e w' => e = .returned (.bool (L.any fun s => great03 s.l)) ∧ Ext w w' := by
  have HR := Lib.hid hr; clear hr
  go_enter Try.func10, Try.ntmps10
  go_wp2_with fail
  refine (containsGreat_any A n c L _ HR.out).mono ?_
  rintro e w1 ⟨rfl, hE⟩
  have HE := Lib.hid hE; clear hE
  go_wp2_with fail
  go_ret
  exact ⟨rfl, HE.out⟩
end Go.Proofs.Ytkkjhkmfoeblaaa
