/- The pieces of what is yielded are the pieces of the parts. No condition. -/
import Derived.Test.YtmmhbnlafcmloaaPaIter
import Derived.Test.YtmmhbnlafcmloaaPaAsc
namespace Go.Proofs.Ytmmhbnlafcmloaa

def ptPc (f : Nat) (a b : Lns) (x : Pt × Mt) : List Mt := shV (pcV f (cutV a x.1.a x.1.a') (cutV b x.1.b x.1.b')) x.1.a x.1.b ++ [x.2]
theorem cut_drop (a : Lns) (x x' p : Nat) : (cutV a x x').drop p = cutV a (p + x) x' := by
  unfold cutV
  rw [List.drop_take, List.drop_drop, Nat.add_comm p x]
  congr 1
  omega
theorem cut_part (a : Lns) (x x' p q : Nat) (hq : q + x ≤ x') : cutV (cutV a x x') p q = cutV a (p + x) (q + x) := by
  unfold cutV
  rw [List.drop_take, List.drop_drop, List.take_take, Nat.add_comm p x]
  congr 1
  omega
theorem fold_pts (f : Nat) (a b : Lns) (pa pa' pb pb' : Nat) (hpa : pa ≤ pa') (hpb : pb ≤ pb') (ha : pa' ≤ a.length) (hb : pb' ≤ b.length) : ∀ (cs : List Mt) (p q : Nat) (acc : List Mt), Asc (pa' - pa) (pb' - pb) p q cs →
    ((ptsV ⟨pa, pa', pb, pb'⟩ (p + pa) (q + pb) cs).flatMap (ptPc f a b)).foldl keepV acc = (shV (partG (pcV f) (cutV a pa pa') (cutV b pb pb') p q cs) pa pb).foldl keepV acc
  | [], p, q, acc, _ => by
    simp only [ptsV, partG, ptPc, List.flatMap_cons, List.flatMap_nil, List.append_nil, List.foldl_append, List.foldl_cons, List.foldl_nil]
    rw [keepV_zero (by show (0 : Int) < 1; omega), shV_shV, cut_drop, cut_drop]
    congr 2 <;> push_cast <;> omega
  | c :: cs, p, q, acc, h => by
    obtain ⟨h1, h2, h3, h4, h5, h6⟩ := h
    have ih := fold_pts f a b pa pa' pb pb' hpa hpb ha hb cs (c.a.toNat + 1) (c.b.toNat + 1)
    rw [ptsV]
    dsimp only
    rw [show c.a.toNat + pa + 1 = c.a.toNat + 1 + pa by omega, show c.b.toNat + pb + 1 = c.b.toNat + 1 + pb by omega]
    simp only [List.flatMap_cons, List.foldl_append, partG, shV_append]
    rw [ih _ h6]
    congr 1
    simp only [ptPc, List.foldl_append, List.foldl_cons, List.foldl_nil]
    rw [shV_shV, cut_part a pa pa' p c.a.toNat (by omega), cut_part b pb pb' q c.b.toNat (by omega)]
    congr 1
end Go.Proofs.Ytmmhbnlafcmloaa
