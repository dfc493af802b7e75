/- One signature, one message: the law at SHA-256. No condition. -/
import Derived.Test.YtmmcjcaccicheaaTfAwk
namespace Go.Proofs.Ytmmcjcaccicheaa
theorem above_len {a b : Bs} (ha : a.length = 32) (hb : b.length = 32) : (aboveV a b).length = 65 := by unfold aboveV; simp [ha, hb]
theorem up_len {c : Bool} {s d : Bs} (hd : d.length = 32) : (upV sumV c s d).length = 65 := by
  unfold upV; cases c
  · exact above_len rfl hd
  · exact above_len hd rfl
theorem strings_small (t : Bs) (g : Sg) (hg : g.wf) : ∀ x ∈ stringsV sumV t g, x.length < 1073741824 := by
  obtain ⟨h1, h2, h3, h4, h5, h6⟩ := hg
  intro x hx
  unfold stringsV at hx
  rcases List.mem_append.1 hx with hx | hx
  · obtain ⟨p, hp, rfl⟩ := List.mem_map.1 hx
    rw [getD_len h4 (by rw [h1]; exact List.mem_range.1 hp)]; omega
  · have hl : (lfV sumV t g).length = 8193 := by
      unfold lfV
      rw [leafS_len (fun _ => rfl) h5 128 (by omega)]
    have p0 : (g.path.getD 0 []).length = 32 := getD_len h6 (by omega)
    have p1 : (g.path.getD 1 []).length = 32 := getD_len h6 (by omega)
    simp only [List.mem_cons, List.not_mem_nil, or_false] at hx
    rcases hx with rfl | rfl | rfl
    · omega
    · unfold n1V; rw [up_len p0]; omega
    · unfold n2V; rw [up_len p1]; omega
theorem strings_len (t : Bs) (g : Sg) : (stringsV sumV t g).length = 131 := by unfold stringsV; simp
theorem collide_true (sd a b : Bs) {k : Nat} (hk : k < 4) (g : Sg) (hg : g.wf) (hi : g.i = k) (hv : verV b g = rootV sd) (hne : tagV sumV a ≠ tagV sumV b)
    (hno : ∀ p, p < 128 → bitV (tagV sumV a) p ≠ bitV (tagV sumV b) p → sumV (g.rev.getD p []) ≠ (signV sd k a).oth.getD p []) :
    collF sumV (stringsV sumV (tagV sumV a) (signV sd k a) ++ stringsV sumV (tagV sumV b) g) [] = true := by
  refine coll_any sumV _ [] [] (by simp) ?_
  have h := forged (H := sumV) (fun _ => rfl) (h := signV sd k a) (g := g) (s := tagV sumV a) (t := tagV sumV b) rfl rfl (sign_wf sd k a) hg hi.symm ((sign_root sd hk a).trans hv.symm) hne hno
  simpa using h
end Go.Proofs.Ytmmcjcaccicheaa
