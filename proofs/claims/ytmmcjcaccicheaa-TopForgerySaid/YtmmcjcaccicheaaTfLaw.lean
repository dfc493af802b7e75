/- Lamport's signatures as plain functions, and the law for them. No condition. -/
import Derived.Test.YtmmcjcaccicheaaTfPubl
namespace Go.Proofs.Ytmmcjcaccicheaa
def bitM (m : Bs) (p : Nat) : Nat := bitV (tagV sumV m) p
def besideV (k : Nat) : Nat := if k % 2 = 0 then k + 1 else k - 1
def otherV (k : Nat) : Nat := if k < 2 then 2 else 0
def signV (sd : Bs) (k : Nat) (m : Bs) : Sg :=
  ⟨k, (List.range 128).map (fun p => secV sd k p (bitM m p)), (List.range 128).map (fun p => pubV sd k p (1 - bitM m p)), [lfOf sd (besideV k), nodV (lfOf sd (otherV k)) (lfOf sd (otherV k + 1))]⟩
theorem sign_wf (sd : Bs) (k : Nat) (m : Bs) : (signV sd k m).wf := by
  refine ⟨by simp [signV], by simp [signV], rfl, ?_, ?_, ?_⟩
  · intro d hd; obtain ⟨p, -, rfl⟩ := List.mem_map.1 hd; rfl
  · intro d hd; obtain ⟨p, -, rfl⟩ := List.mem_map.1 hd; rfl
  · intro d hd
    rcases List.mem_cons.1 hd with rfl | hd
    · rfl
    · rcases List.mem_cons.1 hd with rfl | hd
      · rfl
      · cases hd
theorem bitM_two (m : Bs) (p : Nat) : bitM m p = 0 ∨ bitM m p = 1 := bit_two _ _
theorem range_pairs {α : Type} (f : Nat → α) : ∀ n, (List.range (2 * n)).map f = (List.range n).flatMap fun p => [f (2 * p), f (2 * p + 1)]
  | 0 => rfl
  | n + 1 => by
    rw [show 2 * (n + 1) = 2 * n + 1 + 1 by omega, List.range_succ, List.range_succ, List.range_succ, List.map_append, List.map_append, List.flatMap_append, ← range_pairs f n]
    simp
theorem pubs_pairs (sd : Bs) (k : Nat) : (pubsV sd k).flatten = (List.range 128).flatMap fun p => pubV sd k p 0 ++ pubV sd k p 1 := by
  unfold pubsV
  rw [show (256 : Nat) = 2 * 128 from rfl, range_pairs]
  have : ∀ l : List Nat, (l.flatMap fun p => [pubV sd k (2 * p / 2) (2 * p % 2), pubV sd k ((2 * p + 1) / 2) ((2 * p + 1) % 2)]).flatten = l.flatMap fun p => pubV sd k p 0 ++ pubV sd k p 1 := by
    intro l
    induction l with
    | nil => rfl
    | cons x r ih =>
      rw [List.flatMap_cons, List.flatten_append, ih, List.flatMap_cons, show 2 * x / 2 = x by omega, show 2 * x % 2 = 0 by omega, show (2 * x + 1) / 2 = x by omega, show (2 * x + 1) % 2 = 1 by omega]
      simp
  exact this _
theorem sign_leaf (sd : Bs) (k : Nat) (m : Bs) : sumV (lfV sumV (tagV sumV m) (signV sd k m)) = lfOf sd k := by
  unfold lfOf lfV leafS
  rw [pubs_pairs]
  congr 2
  rw [List.flatMap_def, List.flatMap_def]
  congr 1
  refine List.map_congr_left fun p hp => ?_
  have hp := List.mem_range.1 hp
  have h1 : (signV sd k m).rev.getD p [] = secV sd k p (bitM m p) := by
    simp only [signV]; rw [List.getD_eq_getElem?_getD, List.getElem?_map, List.getElem?_range hp]; rfl
  have h2 : (signV sd k m).oth.getD p [] = pubV sd k p (1 - bitM m p) := by
    simp only [signV]; rw [List.getD_eq_getElem?_getD, List.getElem?_map, List.getElem?_range hp]; rfl
  unfold pairV
  rw [h1, h2, show bitV (tagV sumV m) p = bitM m p from rfl]
  rcases bitM_two m p with h | h
  · rw [h, if_neg (by omega)]; rfl
  · rw [h, if_pos rfl]; rfl
theorem sign_root (sd : Bs) {k : Nat} (hk : k < 4) (m : Bs) : sumV (n2V sumV (tagV sumV m) (signV sd k m)) = rootV sd := by
  have hl := sign_leaf sd k m
  unfold n2V n1V
  generalize lfV sumV (tagV sumV m) (signV sd k m) = L at hl ⊢
  unfold upV rootV nodV
  rw [hl]
  match k, hk with
  | 0, _ => rfl
  | 1, _ => rfl
  | 2, _ => rfl
  | 3, _ => rfl
end Go.Proofs.Ytmmcjcaccicheaa
