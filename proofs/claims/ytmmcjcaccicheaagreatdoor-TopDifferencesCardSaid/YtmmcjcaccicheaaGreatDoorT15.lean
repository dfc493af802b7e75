/- PaAsc PaDif PaPts: parts of the proof of TopDifferences, one text behind the other. No condition. -/
import Derived.Test.YtmmcjcaccicheaaGreatDoorT12
import Derived.Test.YtmmcjcaccicheaaGreatDoorT13
import Derived.Test.YtmmcjcaccicheaaGreatDoorT14
/- The chain ascends; how many pieces there are, and where they lie. No condition. -/
namespace Go.Proofs.YtmmcjcaccicheaaGreatDoor

theorem whP_lt' (b : Lns) (s : ByteArray) : ∀ n, 0 < n → whP b s n < n
  | 0, h => by omega
  | n + 1, _ => by
    rw [whP_succ]
    split
    · omega
    · rcases Nat.eq_zero_or_pos n with rfl | h0
      · simp [whP]
      · have := whP_lt' b s n h0; omega
theorem uniq_mem (a b : Lns) : ∀ k, k ≤ a.length → ∀ m ∈ uniqP a b k, 0 ≤ m.a ∧ m.a < k ∧ 0 ≤ m.b ∧ m.b < b.length ∧ m.n = 1
  | 0, _, m, hm => by simp [uniqP] at hm
  | k + 1, hk, m, hm => by
    obtain ⟨s, hs⟩ : ∃ s, a[k]? = some s := ⟨a[k], List.getElem?_eq_getElem (by omega)⟩
    rw [uniqP_succ b hs] at hm
    by_cases h : cnt a s = 1 ∧ cnt b s = 1
    · rw [if_pos h] at hm
      rcases List.mem_append.1 hm with hm | hm
      · have := uniq_mem a b k (by omega) m hm; omega
      · simp only [List.mem_singleton] at hm
        subst hm
        have hw : whV b s < b.length := whP_lt' b s _ (by have := cnt_le b s; omega)
        dsimp only; omega
    · rw [if_neg h] at hm
      have := uniq_mem a b k (by omega) m hm; omega
theorem uniq_pair (a b : Lns) : ∀ k, k ≤ a.length → (uniqP a b k).Pairwise (fun x y => x.a < y.a)
  | 0, _ => by simp [uniqP]
  | k + 1, hk => by
    obtain ⟨s, hs⟩ : ∃ s, a[k]? = some s := ⟨a[k], List.getElem?_eq_getElem (by omega)⟩
    rw [uniqP_succ b hs]
    by_cases h : cnt a s = 1 ∧ cnt b s = 1
    · rw [if_pos h]
      refine List.pairwise_append.2 ⟨uniq_pair a b k (by omega), by simp, fun x hx y hy => ?_⟩
      simp only [List.mem_singleton] at hy
      subst hy
      have := uniq_mem a b k (by omega) x hx
      dsimp only; omega
    · rw [if_neg h]; exact uniq_pair a b k (by omega)
theorem pair_get {l : List Mt} (h : l.Pairwise (fun x y => x.a < y.a)) {i j : Nat} {x y : Mt} (hij : i < j) (hx : l[i]? = some x) (hy : l[j]? = some y) : x.a < y.a := by
  have hj := (List.getElem?_eq_some_iff.1 hy).1
  have hi := (List.getElem?_eq_some_iff.1 hx).1
  have := List.pairwise_iff_getElem.1 h i j hi hj hij
  rw [(List.getElem?_eq_some_iff.1 hx).2, (List.getElem?_eq_some_iff.1 hy).2] at this
  exact this
theorem getD_at {l : List Mt} {k : Nat} (h : k < l.length) : l[k]? = some (l.getD k ⟨0, 0, 0⟩) := by
  rw [List.getElem?_eq_getElem h, List.getD_eq_getElem?_getD, List.getElem?_eq_getElem h]; rfl
/-- The chain ascends in both lists. -/
theorem chain_asc {l : List Mt} (hl : l.Pairwise (fun x y => x.a < y.a)) : ∀ j, j ≤ mostV (tailsV l) → (chainP l (tailsV l) (mostV (tailsV l)) j).Pairwise (fun x y => x.a < y.a ∧ x.b < y.b) ∧ (∀ x ∈ chainP l (tailsV l) (mostV (tailsV l)) j, x ∈ l) ∧
      (∀ k : Nat, lastI l (tailsV l) (mostV (tailsV l)) j = k → k < l.length ∧ ∀ x ∈ chainP l (tailsV l) (mostV (tailsV l)) j, x = l.getD k ⟨0, 0, 0⟩ ∨ (x.a < (l.getD k ⟨0, 0, 0⟩).a ∧ x.b < (l.getD k ⟨0, 0, 0⟩).b))
  | 0, _ => ⟨by simp [chainP], by simp [chainP], fun k h => by have : (-1 : Int) = k := h; omega⟩
  | j + 1, hj => by
    obtain ⟨h1, h2, h3⟩ := chain_asc hl j (by omega)
    obtain ⟨k, hk, e1, e2, _⟩ := last_ok l j (by omega)
    have hkx := getD_at hk
    have key : ∀ x ∈ chainP l (tailsV l) (mostV (tailsV l)) j, x.a < (l.getD k ⟨0, 0, 0⟩).a ∧ x.b < (l.getD k ⟨0, 0, 0⟩).b := by
      intro x hx
      rcases Nat.eq_zero_or_pos j with rfl | h0
      · simp [chainP] at hx
      · obtain ⟨j', rfl⟩ : ∃ i, j = i + 1 := ⟨j - 1, by omega⟩
        obtain ⟨q, hq, g1, _, _⟩ := last_ok l j' (by omega)
        have hqk : q < k := by have := e2.1; rw [g1] at this; omega
        have hqx := getD_at hq
        have ha := pair_get hl hqk hqx hkx
        have hb : (l.getD q ⟨0, 0, 0⟩).b < (l.getD k ⟨0, 0, 0⟩).b := by
          rcases e2.2.2 with h | h
          · rw [g1] at h; omega
          · rw [g1] at h; simpa [bOf] using h
        rcases (h3 q g1).2 x hx with rfl | ⟨u1, u2⟩
        · exact ⟨ha, hb⟩
        · omega
    rw [chainP_succ, e1, Int.toNat_natCast]
    refine ⟨List.pairwise_append.2 ⟨h1, by simp, fun x hx y hy => ?_⟩, fun x hx => ?_, fun k' hk' => ?_⟩
    · simp only [List.mem_singleton] at hy
      subst hy; exact key x hx
    · rcases List.mem_append.1 hx with hx | hx
      · exact h2 x hx
      · simp only [List.mem_singleton] at hx
        subst hx; exact List.mem_of_getElem? hkx
    · obtain rfl : k' = k := by omega
      refine ⟨hk, fun x hx => ?_⟩
      rcases List.mem_append.1 hx with hx | hx
      · exact .inr (key x hx)
      · simp only [List.mem_singleton] at hx
        exact .inl hx
/-- A chain that ascends from (x, y) on, within (A, B). -/
def Asc (A B : Nat) : Nat → Nat → List Mt → Prop
  | x, y, [] => x ≤ A ∧ y ≤ B
  | x, y, c :: cs => (x : Int) ≤ c.a ∧ (y : Int) ≤ c.b ∧ c.a < A ∧ c.b < B ∧ c.n = 1 ∧ Asc A B (c.a.toNat + 1) (c.b.toNat + 1) cs
theorem asc_of {A B : Nat} : ∀ (cs : List Mt) (x y : Nat), x ≤ A → y ≤ B → cs.Pairwise (fun x y => x.a < y.a ∧ x.b < y.b) → (∀ c ∈ cs, (x : Int) ≤ c.a ∧ (y : Int) ≤ c.b ∧ c.a < A ∧ c.b < B ∧ c.n = 1) → Asc A B x y cs
  | [], _, _, hx, hy, _, _ => ⟨hx, hy⟩
  | c :: cs, x, y, hx, hy, hp, h => by
    obtain ⟨h1, h2, h3, h4, h5⟩ := h c (by simp)
    obtain ⟨p1, p2⟩ := List.pairwise_cons.1 hp
    refine ⟨h1, h2, h3, h4, h5, asc_of cs _ _ (by omega) (by omega) p2 (fun d hd => ?_)⟩
    have := h d (by simp [hd])
    have := p1 d hd
    omega
theorem uniq_asc (a b : Lns) : Asc a.length b.length 0 0 (longV (uniqV a b)) := by
  obtain ⟨h1, h2, _⟩ := chain_asc (uniq_pair a b a.length (Nat.le_refl _)) (mostV (tailsV (uniqV a b))) (Nat.le_refl _)
  refine asc_of _ _ _ (Nat.zero_le _) (Nat.zero_le _) h1 (fun c hc => ?_)
  have := uniq_mem a b a.length (Nat.le_refl _) c (h2 c hc)
  omega

/-! ### How many pieces -/
theorem cut_len (a : Lns) (x y : Nat) : (cutV a x y).length ≤ y - x := by unfold cutV; rw [List.length_take]; omega
theorem part_len {D : Lns → Lns → List Mt} {a b : Lns} (hD : ∀ x y : Lns, x.length < a.length + 1 → (D x y).length ≤ 5 * (x.length + y.length) + 2) : ∀ (cs : List Mt) (p q : Nat), Asc a.length b.length p q cs → (partG D a b p q cs).length + 5 * (p + q) + 7 * cs.length ≤ 5 * (a.length + b.length) + 2
  | [], p, q, h => by
    obtain ⟨h1, h2⟩ := h
    simp only [partG, shV, List.length_map, List.length_nil]
    have := hD (a.drop p) (b.drop q) (by rw [List.length_drop]; omega)
    rw [List.length_drop, List.length_drop] at this
    omega
  | c :: cs, p, q, h => by
    obtain ⟨h1, h2, h3, h4, h5, h6⟩ := h
    have ih := part_len hD cs _ _ h6
    have h7 := cut_len a p c.a.toNat
    have h8 := cut_len b q c.b.toNat
    have := hD (cutV a p c.a.toNat) (cutV b q c.b.toNat) (by omega)
    simp only [partG, shV, List.length_append, List.length_map, List.length_cons, List.length_nil]
    omega
theorem pc_len : ∀ (f : Nat) (a b : Lns), (pcV f a b).length ≤ 5 * (a.length + b.length) + 2
  | 0, a, b => by simp [pcV]
  | f + 1, a, b => by
    have hs := suf_le a b
    have hx := cut_len a (preN a b) (a.length - sufN a b)
    have hy := cut_len b (preN a b) (b.length - sufN a b)
    rw [pcV]
    simp only [List.length_append, List.length_singleton]
    split
    · simp
    · rename_i hne
      have hx0 : (cutV a (preN a b) (a.length - sufN a b)) ≠ [] := fun h => hne (.inl h)
      have hy0 : (cutV b (preN a b) (b.length - sufN a b)) ≠ [] := fun h => hne (.inr h)
      have hx1 := List.length_pos_iff.2 hx0
      have hy1 := List.length_pos_iff.2 hy0
      simp only [shV, List.length_map]
      unfold midG
      split
      · have h1 := diff_len (cutV a (preN a b) (a.length - sufN a b)) (cutV b (preN a b) (b.length - sufN a b))
        have h2 := dist_le (cutV a (preN a b) (a.length - sufN a b)) (cutV b (preN a b) (b.length - sufN a b))
        omega
      · rename_i hc
        have h1 := part_len (D := pcV f) (a := cutV a (preN a b) (a.length - sufN a b)) (b := cutV b (preN a b) (b.length - sufN a b)) (fun x y _ => pc_len f x y) _ 0 0 (uniq_asc _ _)
        have h2 := List.length_pos_iff.2 hc
        omega
end Go.Proofs.YtmmcjcaccicheaaGreatDoor
/- Contracts: diff, middle, Diff. -/
namespace Go.Proofs.YtmmcjcaccicheaaGreatDoor
open Go.RowKit
attribute [local go_sem] Oper.semAt_some

section
variable {wO w w' : World} {gm base : Nat} {A : Option Addr} {n c : Nat} {B : Option Addr} {m d : Nat} {ms : List Mt} {v : Value}
theorem MatS.ext (h : MatS w gm base A n c B m d ms v) (e : Ext w w') : MatS w' gm base A n c B m d ms v := ⟨h.blk.ext e, own_stab3 e h.own, h.lt, Nat.le_trans h.le e.size⟩
theorem MatS.org (h : MatS w gm base A n c B m d ms v) (hO : Ext wO w) (hg : wO.heap.size ≤ gm) (k : Lv (fun g => g = gm ∨ v.ownBlock = some g) w w') : Ext wO w' :=
  k.extBelow hO (fun g hg' hs => hs.elim (fun h => by omega) (fun h' => by have := (h.own.lt g h').1; have := h.lt; omega))
theorem MatS.box (h : MatS w gm base A n c B m d ms v) {g : Nat} {cs : Array Value} {t : TypeId} (hb : Blk w g (.cells cs t (0, 0))) (ht : t ≠ 104) (hg : g ≠ gm) (k : Lv (fun g => g = gm ∨ v.ownBlock = some g) w w') : Blk w' g (.cells cs t (0, 0)) :=
  hb.lv k (fun hs => hs.elim hg (fun h' => by
    obtain ⟨_, cur, hc⟩ := own_blk h.own h'
    exact ht (blk_type hb hc)))
/-- From w, where the matcher held v0, to w', where it holds v. -/
structure Run (wO w : World) (gm base : Nat) (A : Option Addr) (n c : Nat) (B : Option Addr) (m d : Nat) (v0 : Value) (ms : List Mt) (v : Value) (w' : World) : Prop where
  mat : MatS w' gm base A n c B m d ms v
  lv : Lv (fun g => g = gm ∨ v0.ownBlock = some g) w w'
  ob : ∀ g, v.ownBlock = some g → v0.ownBlock = some g ∨ w.heap.size ≤ g
  org : Ext wO w'
theorem Run.ext {v0 : Value} {w'' : World} (h : Run wO w gm base A n c B m d v0 ms v w') (e : Ext w' w'') : Run wO w gm base A n c B m d v0 ms v w'' := ⟨h.mat.ext e, h.lv.ext e, h.ob, h.org.trans e⟩
theorem Run.upd {v0 : Value} {ms2 : List Mt} {w'' : World} (h : Run wO w gm base A n c B m d v0 ms v w') (hg : wO.heap.size ≤ gm) (k : Upd w' gm base A n c B m d ms2 v w'') : ∃ v2, Run wO w gm base A n c B m d v0 ms2 v2 w'' ∧ Lv (fun g => g = gm ∨ v.ownBlock = some g) w' w'' := by
  have k' := k
  obtain ⟨v2, k1, k2, k3⟩ := k
  refine ⟨v2, ⟨k1, h.lv.trans k2 (fun g hg h' => ?_), fun g hg => ?_, h.mat.org h.org hg k2⟩, k2⟩
  · rcases h' with h' | h'
    · exact .inl h'
    · rcases h.ob g h' with h'' | h''
      · exact .inr h''
      · omega
  · rcases k3 g hg with h' | h'
    · exact h.ob g h'
    · have := h.lv.size; exact .inr (by omega)
theorem Run.next {v0 v2 : Value} {ms2 : List Mt} {w'' : World} (h : Run wO w gm base A n c B m d v0 ms v w') (hg : wO.heap.size ≤ gm) (k1 : MatS w'' gm base A n c B m d ms2 v2) (k2 : Lv (fun g => g = gm ∨ v.ownBlock = some g) w' w'') (k3 : ∀ g, v2.ownBlock = some g → v.ownBlock = some g ∨ w'.heap.size ≤ g) : Run wO w gm base A n c B m d v0 ms2 v2 w'' := by
  refine ⟨k1, h.lv.trans k2 (fun g hg h' => ?_), fun g hg => ?_, h.mat.org h.org hg k2⟩
  · rcases h' with h' | h'
    · exact .inl h'
    · rcases h.ob g h' with h'' | h''
      · exact .inr h''
      · omega
  · rcases k3 g hg with h' | h'
    · exact h.ob g h'
    · have := h.lv.size; exact .inr (by omega)
theorem Run.done {v0 : Value} (h : Run wO w gm base A n c B m d v0 ms v w') : Upd w gm base A n c B m d ms v0 w' := ⟨v, h.mat, h.lv, h.ob⟩
end

/-- What diff promises, for parts whose first list is shorter than f. -/
def DiffC (f : Nat) (wO : World) (gm base : Nat) (A : Option Addr) (c : Nat) (B : Option Addr) (d : Nat) (a b : Lns) : Prop :=
  ∀ (p : Pt) (ms : List Mt) (v : Value) (w : World), MatS w gm base A a.length c B b.length d ms v → Ext wO w → Bnd 500 ms → p.a ≤ p.a' → p.a' ≤ a.length → p.b ≤ p.b' → p.b' ≤ b.length → p.a' - p.a < f → ms.length + (5 * ((p.a' - p.a) + (p.b' - p.b)) + 2) ≤ 1900 →
    Calls Tryz.prog 53 #[.pointer (some ⟨gm, 0, none⟩), p.val] w fun e w' => (∃ u, e = .returned u) ∧ Bnd 500 ((shV (pcV f (cutV a p.a p.a') (cutV b p.b p.b')) p.a p.b).foldl keepV ms) ∧ Upd w gm base A a.length c B b.length d ((shV (pcV f (cutV a p.a p.a') (cutV b p.b p.b')) p.a p.b).foldl keepV ms) v w'
/-- What middle promises. -/
def MidC (f : Nat) (wO : World) (gm base : Nat) (A : Option Addr) (c : Nat) (B : Option Addr) (d : Nat) (a b : Lns) : Prop :=
  ∀ (p : Pt) (ms : List Mt) (v : Value) (w : World), MatS w gm base A a.length c B b.length d ms v → Ext wO w → Bnd 500 ms → p.a ≤ p.a' → p.a' ≤ a.length → p.b ≤ p.b' → p.b' ≤ b.length → p.a' - p.a < f + 1 → ms.length + (5 * ((p.a' - p.a) + (p.b' - p.b)) + 2) ≤ 1902 →
    Calls Tryz.prog 73 #[.pointer (some ⟨gm, 0, none⟩), p.val] w fun e w' => (∃ u, e = .returned u) ∧ Bnd 500 ((if cutV a p.a p.a' = [] ∨ cutV b p.b p.b' = [] then [] else shV (midG (pcV f) (cutV a p.a p.a') (cutV b p.b p.b')) p.a p.b).foldl keepV ms) ∧ Upd w gm base A a.length c B b.length d ((if cutV a p.a p.a' = [] ∨ cutV b p.b p.b' = [] then [] else shV (midG (pcV f) (cutV a p.a p.a') (cutV b p.b p.b')) p.a p.b).foldl keepV ms) v w'
theorem fold_len : ∀ (l ms : List Mt), (l.foldl keepV ms).length ≤ ms.length + l.length
  | [], _ => by simp
  | m :: l, ms => by
    have h1 := fold_len l (keepV ms m)
    have h2 := keepV_len ms m
    simp only [List.foldl_cons, List.length_cons]; omega
theorem cut_cut (a : Lns) {x x' i j : Nat} (_h : i + j ≤ x' - x) (hx : x' ≤ a.length) : cutV (cutV a x x') i ((cutV a x x').length - j) = cutV a (x + i) (x' - j) := by
  rw [cutV_len hx]
  unfold cutV
  rw [List.drop_take, List.drop_drop, List.take_take]
  congr 1
  omega
theorem Bnd.one {L : Nat} {x y l : Int} (h : (0 ≤ x ∧ x + l ≤ L) ∧ (0 ≤ y ∧ y + l ≤ L) ∧ 0 ≤ l) : Bnd L [⟨x, y, l⟩] := by
  intro m hm; simp only [List.mem_singleton] at hm; subst hm; exact h
theorem strs_part {w : World} {A A' : Option Addr} {c : Nat} {a : Lns} (h : Strs w A a.length a) (hc : a.length ≤ c) {x y : Nat} (hxy : x ≤ y) (hy : y ≤ a.length) (hA : (if c = x then A else A.map (fun z => z.add x)) = A') : Strs w A' (y - x) (cutV a x y) :=
  strs_cut h hc (by omega) hA
theorem common_is (A B : Option Addr) (n c m d : Nat) (a b : Lns) (w : World) (ha : Strs w A n a) (hb : Strs w B m b) (hn : n ≤ 1000) (hm : m ≤ 1000) (x y : Nat) (hx : preN a b = x) (hy : sufN a b = y) :
    Calls Tryz.prog 71 #[.slice A n c, .slice B m d] w fun e w' => e = .returned (.tuple #[.int .i64 x, .int .i64 y]) ∧ Ext w w' := by
  subst hx; subst hy; exact common_any A B n c m d a b w ha hb hn hm

set_option maxRecDepth 100000 in
set_option maxHeartbeats 8000000 in
theorem diff_of_middle (f : Nat) (wO : World) (gm base : Nat) (A : Option Addr) (c : Nat) (B : Option Addr) (d : Nat) (a b : Lns) (hoA : Strs wO A a.length a) (hoB : Strs wO B b.length b) (hgO : wO.heap.size ≤ gm) (hc : a.length ≤ c) (hd : b.length ≤ d) (hn : a.length ≤ 200) (hm : b.length ≤ 200) (hM : MidC f wO gm base A c B d a b) : DiffC (f + 1) wO gm base A c B d a b := by
  intro p ms v w hS hO hB h1 h2 h3 h4 hf hlen
  have ha := hoA.ext hO
  have hb := hoB.ext hO
  obtain ⟨pa, pa', pb, pb'⟩ := p
  dsimp only at h1 h2 h3 h4 hf hlen
  have HM := Lib.hid hM; have HS := Lib.hid hS; have HB := Lib.hid hB; have HA := Lib.hid ha; have HBB := Lib.hid hb; have HO := Lib.hid hO; clear hM hS hB ha hb hO hoA hoB
  obtain ⟨xs, hxs⟩ : ∃ xs, cutV a pa pa' = xs := ⟨_, rfl⟩
  obtain ⟨ys, hys⟩ : ∃ ys, cutV b pb pb' = ys := ⟨_, rfl⟩
  have hxl : xs.length = pa' - pa := by rw [← hxs]; exact cutV_len h2
  have hyl : ys.length = pb' - pb := by rw [← hys]; exact cutV_len h4
  obtain ⟨i, hi⟩ : ∃ i, preN xs ys = i := ⟨_, rfl⟩
  obtain ⟨j, hj⟩ : ∃ j, sufN xs ys = j := ⟨_, rfl⟩
  have hij := suf_le xs ys
  rw [hi, hj, hxl, hyl] at hij
  obtain ⟨hij1, hij2⟩ := hij
  obtain ⟨A', hA'⟩ : ∃ A', (if c = pa then A else A.map (fun z => z.add pa)) = A' := ⟨_, rfl⟩
  obtain ⟨B', hB'⟩ : ∃ B', (if d = pb then B else B.map (fun z => z.add pb)) = B' := ⟨_, rfl⟩
  have sA : ∀ wx, Ext w wx → Strs wx A' (pa' - pa) xs := fun wx hx => by rw [← hxs]; exact strs_part (HA.out.ext hx) hc h1 h2 hA'
  have sB : ∀ wx, Ext w wx → Strs wx B' (pb' - pb) ys := fun wx hx => by rw [← hys]; exact strs_part (HBB.out.ext hx) hd h3 h4 hB'
  have hpc : pcV (f + 1) xs ys = [⟨0, 0, (i : Int)⟩] ++ (if cutV xs i (xs.length - j) = [] ∨ cutV ys i (ys.length - j) = [] then [] else shV (midG (pcV f) (cutV xs i (xs.length - j)) (cutV ys i (ys.length - j))) i i) ++ [⟨(xs.length : Int) - j, (ys.length : Int) - j, (j : Int)⟩] := by rw [pcV, hi, hj]
  have HXS := Lib.hid hxs; have HYS := Lib.hid hys; have HXL := Lib.hid hxl; have HYL := Lib.hid hyl; have HI := Lib.hid hi; have HJ := Lib.hid hj; have AA := Lib.hid hA'; have BB := Lib.hid hB'; have SA := Lib.hid sA; have SB := Lib.hid sB; have HPC := Lib.hid hpc
  clear hxs hys hxl hyl hi hj hA' hB' sA sB hpc
  dsimp only [Pt.val]
  go_enter Tryz.func53, Tryz.ntmps53
  go_wp2_with fail
  obtain ⟨gp, hgp⟩ : ∃ gp, gp = w.heap.size := ⟨_, rfl⟩
  obtain ⟨w1, hw1, hp1, hE1⟩ : ∃ w1, w1 = w.alloc (Pt.obj ⟨pa, pa', pb, pb'⟩) ∧ Blk w1 gp (Pt.obj ⟨pa, pa', pb, pb'⟩) ∧ Ext w w1 := ⟨_, rfl, Blk.new w _ hgp, (Ext.refl w).alloc _⟩
  rw [← hw1, ← hgp]
  have HP1 := Lib.hid hp1; have HE1 := Lib.hid hE1; have HGP := Lib.hid hgp
  clear hw1 hp1 hE1 hgp
  have b1 : (pa' : Int) ≤ c := by omega
  have b2 : (pb' : Int) ≤ d := by omega
  have b3 : (pa : Int) ≤ pa' := by omega
  have b4 : (pb : Int) ≤ pb' := by omega
  refine wp_region_text (fun wx => Ext w1 wx) [0,1,2,3,4,5,6,7,8,9,10,11,12,13,14,15,16,17,18,19,20,21,22,23] (by kernel_rfl) (Stab.ext _) (Ext.refl w1).drew (by kernel_rfl) (fun _ d _ _ _ h => by cases d <;> exact h) ?_
  iterate 8
    refine wpTk_want rfl (Eq.refl true) ?_
    apply Exists.intro
    refine ⟨fun wx hx => ?_, ?_⟩
    · obtain ⟨m0, m1, m2⟩ := (HS.out.blk.ext (HE1.out.trans hx)).cells3
      obtain ⟨p0, p1, p2, p3⟩ := (HP1.out.ext hx).cells4
      clear hx
      go_simp
      with_reducible exact gives_ok _ _ _
    simp only [Act.put, List.setIfInBounds_toArray, List.set_cons_zero, List.set_cons_succ]
  refine wpTk_want rfl (Eq.refl true) ⟨.slice A' (pa' - pa) (c - pa), fun wx hx => ?_, ?_⟩
  · clear hx
    go_simp
    rw [AA.out]
    with_reducible exact gives_ok _ _ _
  simp only [Act.put, List.setIfInBounds_toArray, List.set_cons_zero, List.set_cons_succ]
  iterate 8
    refine wpTk_want rfl (Eq.refl true) ?_
    apply Exists.intro
    refine ⟨fun wx hx => ?_, ?_⟩
    · obtain ⟨m0, m1, m2⟩ := (HS.out.blk.ext (HE1.out.trans hx)).cells3
      obtain ⟨p0, p1, p2, p3⟩ := (HP1.out.ext hx).cells4
      clear hx
      go_simp
      with_reducible exact gives_ok _ _ _
    simp only [Act.put, List.setIfInBounds_toArray, List.set_cons_zero, List.set_cons_succ]
  refine wpTk_want rfl (Eq.refl true) ⟨.slice B' (pb' - pb) (d - pb), fun wx hx => ?_, ?_⟩
  · clear hx
    go_simp
    rw [BB.out]
    with_reducible exact gives_ok _ _ _
  simp only [Act.put, List.setIfInBounds_toArray, List.set_cons_zero, List.set_cons_succ]
  refine wpTk_want rfl (Eq.refl true) ⟨.tuple #[.int .i64 i, .int .i64 j], fun wx hx => ?_, ?_⟩
  · have r := common_is A' B' (pa' - pa) (c - pa) (pb' - pb) (d - pb) xs ys wx (SA.out wx (HE1.out.trans hx)) (SB.out wx (HE1.out.trans hx)) (by omega) (by omega) i j HI.out HJ.out
    clear hx
    go_simp
    with_reducible exact gives_call _ _ _ r
  simp only [Act.put, List.setIfInBounds_toArray, List.set_cons_zero, List.set_cons_succ]
  iterate 5
    refine wpTk_want rfl (Eq.refl true) ?_
    apply Exists.intro
    refine ⟨fun wx hx => ?_, ?_⟩
    · obtain ⟨m0, m1, m2⟩ := (HS.out.blk.ext (HE1.out.trans hx)).cells3
      obtain ⟨p0, p1, p2, p3⟩ := (HP1.out.ext hx).cells4
      clear hx
      go_simp
      with_reducible exact gives_ok _ _ _
    simp only [Act.put, List.setIfInBounds_toArray, List.set_cons_zero, List.set_cons_succ]
  refine wpTk_nil ?_
  intro w2 hx
  have HE2 := Lib.hid (HE1.out.trans hx); have HP2 := Lib.hid (HP1.out.ext hx); clear hx
  obtain ⟨p0, p1, p2, p3⟩ := HP2.out.cells4
  go_wp2_with fail
  have hR2 : Run wO w gm base A a.length c B b.length d v ms v w2 := ⟨HS.out.ext HE2.out, Lv.of_ext HE2.out, fun g h => .inl h, HO.out.trans HE2.out⟩
  have HR2 := Lib.hid hR2; clear hR2
  have hgpm : gp ≠ gm := by have := HGP.out; have := HS.out.blk.lt; omega
  refine (keep_any gm base A a.length c B b.length d ms v pa pb i 500 w2 HR2.out.mat HB.out (Bnd.one (by omega)) (by omega) (by omega)).mono ?_
  rintro e w3 ⟨⟨u, rfl⟩, hU⟩
  obtain ⟨v3, hR3, hL3⟩ := HR2.out.upd hgO hU
  have HR3 := Lib.hid hR3; have HP3 := Lib.hid (HR2.out.mat.box HP2.out (by decide) hgpm hL3)
  have HB3 := Lib.hid (HB.out.keep (m := ⟨pa, pb, i⟩) (Bnd.one (L := 500) (by omega)))
  have hln3 := keepV_len ms ⟨pa, pb, i⟩
  clear hU hR3 hL3 HR2 HP2 p0 p1 p2 p3
  obtain ⟨p0, p1, p2, p3⟩ := HP3.out.cells4
  go_wp2_with fail
  have hi1 : pa + i ≤ pa' - j := by omega
  have hi2 : pb + i ≤ pb' - j := by omega
  have hmid := HM.out ⟨pa + i, pa' - j, pb + i, pb' - j⟩ (keepV ms ⟨pa, pb, i⟩) v3 w3 HR3.out.mat HR3.out.org HB3.out hi1 (by dsimp only; omega) hi2 (by dsimp only; omega) (by dsimp only; omega) (by dsimp only; omega)
  dsimp only at hmid
  have hval : Pt.val ⟨pa + i, pa' - j, pb + i, pb' - j⟩ = .agg #[.int .i64 ((pa : Int) + i), .int .i64 ((pa' : Int) - j), .int .i64 ((pb : Int) + i), .int .i64 ((pb' : Int) - j)] := by
    unfold Pt.val
    dsimp only
    rw [show ((pa' - j : Nat) : Int) = (pa' : Int) - j by omega, show ((pb' - j : Nat) : Int) = (pb' : Int) - j by omega, show ((pa + i : Nat) : Int) = (pa : Int) + i by omega, show ((pb + i : Nat) : Int) = (pb : Int) + i by omega]
  rw [hval] at hmid
  obtain ⟨M2, hM2⟩ : ∃ M2, (if cutV a (pa + i) (pa' - j) = [] ∨ cutV b (pb + i) (pb' - j) = [] then [] else shV (midG (pcV f) (cutV a (pa + i) (pa' - j)) (cutV b (pb + i) (pb' - j))) ((pa + i : Nat) : Int) ((pb + i : Nat) : Int)) = M2 := ⟨_, rfl⟩
  rw [hM2] at hmid
  have hshape : shV (pcV (f + 1) xs ys) pa pb = [⟨pa, pb, i⟩] ++ M2 ++ [⟨(pa' : Int) - j, (pb' : Int) - j, j⟩] := by
    rw [HPC.out, ← HXS.out, ← HYS.out, cut_cut a (by omega) h2, cut_cut b (by omega) h4, ← hM2, shV_append, shV_append]
    congr 1
    · congr 1
      · simp [shV, mvM]
      · split
        · rfl
        · rw [shV_shV]; congr 1 <;> omega
    · rw [cutV_len h2, cutV_len h4]
      simp only [shV, List.map_cons, List.map_nil, mvM]
      rw [show ((pa' - pa : Nat) : Int) - j + pa = (pa' : Int) - j by omega, show ((pb' - pb : Nat) : Int) - j + pb = (pb' : Int) - j by omega]
  have hfin : (shV (pcV (f + 1) (cutV a pa pa') (cutV b pb pb')) pa pb).foldl keepV ms = keepV (M2.foldl keepV (keepV ms ⟨pa, pb, i⟩)) ⟨(pa' : Int) - j, (pb' : Int) - j, j⟩ := by
    rw [HXS.out, HYS.out, hshape, List.foldl_append, List.foldl_append]; rfl
  have hlenM : M2.length ≤ 5 * ((pa' - pa) + (pb' - pb)) := by
    have h9 := pc_len (f + 1) xs ys
    have h10 := congrArg List.length hshape
    simp only [shV, List.length_map, List.length_append, List.length_cons, List.length_nil] at h10
    rw [HXL.out, HYL.out] at h9
    omega
  have hln4 := fold_len M2 (keepV ms ⟨pa, pb, i⟩)
  have HFIN := Lib.hid hfin; have HM2 := Lib.hid hM2
  clear hval hM2 hshape hfin
  refine hmid.mono ?_
  rintro e w4 ⟨⟨u4, rfl⟩, hB4, hU⟩
  obtain ⟨v4, hR4, hL4⟩ := HR3.out.upd hgO hU
  have HR4 := Lib.hid hR4; have HP4 := Lib.hid (HR3.out.mat.box HP3.out (by decide) hgpm hL4); have HB4 := Lib.hid hB4
  clear hU hR4 hL4 hB4 hmid HR3 HP3 p0 p1 p2 p3
  obtain ⟨p0, p1, p2, p3⟩ := HP4.out.cells4
  go_wp2_with fail
  refine (keep_any gm base A a.length c B b.length d _ v4 ((pa' : Int) - j) ((pb' : Int) - j) j 500 w4 HR4.out.mat HB4.out (Bnd.one (by omega)) (by omega) (by omega)).mono ?_
  rintro e w5 ⟨⟨u5, rfl⟩, hU⟩
  obtain ⟨v5, hR5, hL5⟩ := HR4.out.upd hgO hU
  have HR5 := Lib.hid hR5; clear hU hR5 hL5
  go_wp2_with fail
  refine bodyPost_end (results_none rfl _ _ _) rfl ?_
  exact ⟨⟨_, rfl⟩, by rw [HFIN.out]; exact HB4.out.keep (Bnd.one (by omega)), by rw [HFIN.out]; exact HR5.out.done⟩
end Go.Proofs.YtmmcjcaccicheaaGreatDoor
/- The pieces of what is yielded are the pieces of the parts. No condition. -/
namespace Go.Proofs.YtmmcjcaccicheaaGreatDoor

def ptPc (f : Nat) (a b : Lns) (x : Pt × Mt) : List Mt := shV (pcV f (cutV a x.1.a x.1.a') (cutV b x.1.b x.1.b')) x.1.a x.1.b ++ [x.2]
theorem cut_drop (a : Lns) (x x' p : Nat) : (cutV a x x').drop p = cutV a (p + x) x' := by
  unfold cutV
  rw [List.drop_take, List.drop_drop, Nat.add_comm p x]
  congr 1
  omega
theorem cut_part (a : Lns) (x x' p q : Nat) (hq : q + x ≤ x') : cutV (cutV a x x') p q = cutV a (p + x) (q + x) := by
  unfold cutV
  rw [List.drop_take, List.drop_drop, List.take_take, Nat.add_comm p x]
  congr 1
  omega
theorem fold_pts (f : Nat) (a b : Lns) (pa pa' pb pb' : Nat) (hpa : pa ≤ pa') (hpb : pb ≤ pb') (ha : pa' ≤ a.length) (hb : pb' ≤ b.length) : ∀ (cs : List Mt) (p q : Nat) (acc : List Mt), Asc (pa' - pa) (pb' - pb) p q cs →
    ((ptsV ⟨pa, pa', pb, pb'⟩ (p + pa) (q + pb) cs).flatMap (ptPc f a b)).foldl keepV acc = (shV (partG (pcV f) (cutV a pa pa') (cutV b pb pb') p q cs) pa pb).foldl keepV acc
  | [], p, q, acc, _ => by
    simp only [ptsV, partG, ptPc, List.flatMap_cons, List.flatMap_nil, List.append_nil, List.foldl_append, List.foldl_cons, List.foldl_nil]
    rw [keepV_zero (by show (0 : Int) < 1; omega), shV_shV, cut_drop, cut_drop]
    congr 2 <;> push_cast <;> omega
  | c :: cs, p, q, acc, h => by
    obtain ⟨h1, h2, h3, h4, h5, h6⟩ := h
    have ih := fold_pts f a b pa pa' pb pb' hpa hpb ha hb cs (c.a.toNat + 1) (c.b.toNat + 1)
    rw [ptsV]
    dsimp only
    rw [show c.a.toNat + pa + 1 = c.a.toNat + 1 + pa by omega, show c.b.toNat + pb + 1 = c.b.toNat + 1 + pb by omega]
    simp only [List.flatMap_cons, List.foldl_append, partG, shV_append]
    rw [ih _ h6]
    congr 1
    simp only [ptPc, List.foldl_append, List.foldl_cons, List.foldl_nil]
    rw [shV_shV, cut_part a pa pa' p c.a.toNat (by omega), cut_part b pb pb' q c.b.toNat (by omega)]
    congr 1
end Go.Proofs.YtmmcjcaccicheaaGreatDoor
