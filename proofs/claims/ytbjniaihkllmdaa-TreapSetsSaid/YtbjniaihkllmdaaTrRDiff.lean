/- Contracts: the reference's Get, List, Diff. -/
import Derived.Test.YtbjniaihkllmdaaTrWith
import Derived.Test.YtbjniaihkllmdaaTrLawD
namespace Go.Proofs.Ytbjniaihkllmdaa
open Go.RowKit

/-- Two lists in the order of their keys that hold the same are equal. -/
theorem pw_eq {α : Type} (key : α → ByteArray) : ∀ (k l : List α), k.Pairwise (fun x y => klt (key x) (key y) = true) → l.Pairwise (fun x y => klt (key x) (key y) = true) → (∀ x, x ∈ k ↔ x ∈ l) → k = l
  | [], [], _, _, _ => rfl
  | [], y :: l, _, _, h => absurd ((h y).2 (by simp)) (by simp)
  | x :: k, [], _, _, h => absurd ((h x).1 (by simp)) (by simp)
  | x :: k, y :: l, hk, hl, h => by
    obtain ⟨k1, k2⟩ := List.pairwise_cons.1 hk
    obtain ⟨l1, l2⟩ := List.pairwise_cons.1 hl
    have irr : ∀ a : ByteArray, klt a a = true → False := fun a ha => by rw [klt_irrefl] at ha; cases ha
    have hxy : x = y := by
      rcases List.mem_cons.1 ((h x).1 (by simp)) with e | e
      · exact e
      · rcases List.mem_cons.1 ((h y).2 (by simp)) with e' | e'
        · exact e'.symm
        · exact (irr _ (klt_trans (k1 y e') (l1 x e))).elim
    subst hxy
    rw [pw_eq key k l k2 l2 (fun z => ⟨fun hz => by
      rcases List.mem_cons.1 ((h z).1 (by simp [hz])) with e | e
      · subst e; exact (irr _ (k1 z hz)).elim
      · exact e, fun hz => by
      rcases List.mem_cons.1 ((h z).2 (by simp [hz])) with e | e
      · subst e; exact (irr _ (l1 z hz)).elim
      · exact e⟩)]
theorem find_look {b : BT} (h : SP b) (k : ByteArray) : findV k b = look k (prsV b) := by
  cases hf : findV k b with
  | some v => exact ((look_mem h k v).2 ((find_mem h k v).1 hf)).symm
  | none =>
    cases hl : look k (prsV b) with
    | none => rfl
    | some v => exact absurd rfl ((find_none h k).1 hf _ ((look_mem h k v).1 hl))
/-- All pairs of the first list, with those of the second one. -/
def allV (l k : List Pr) : List Pr := k.foldl withV l
theorem all_spec : ∀ (k l : List Pr), l.Pairwise (fun x y => klt x.k y.k = true) → (allV l k).Pairwise (fun x y => klt x.k y.k = true) ∧ (∀ key, (∃ p ∈ allV l k, p.k = key) ↔ (∃ p ∈ l, p.k = key) ∨ ∃ p ∈ k, p.k = key)
  | [], l, h => ⟨h, fun key => by simp [allV]⟩
  | x :: k, l, h => by
    obtain ⟨h1, h2⟩ := with_spec x l h
    obtain ⟨h3, h4⟩ := all_spec k (withV l x) h1
    refine ⟨h3, fun key => ?_⟩
    have : allV l (x :: k) = allV (withV l x) k := rfl
    rw [this, h4]
    constructor
    · rintro (⟨p, hp, e⟩ | ⟨p, hp, e⟩)
      · rcases (h2 p).1 hp with rfl | ⟨hp, _⟩
        · exact .inr ⟨_, by simp, e⟩
        · exact .inl ⟨p, hp, e⟩
      · exact .inr ⟨p, by simp [hp], e⟩
    · rintro (⟨p, hp, e⟩ | ⟨p, hp, e⟩)
      · by_cases hk : p.k = x.k
        · exact .inl ⟨x, (h2 x).2 (.inl rfl), by rw [← hk]; exact e⟩
        · exact .inl ⟨p, (h2 p).2 (.inr ⟨hp, hk⟩), e⟩
      · rcases List.mem_cons.1 hp with rfl | hp
        · exact .inl ⟨_, (h2 _).2 (.inl rfl), e⟩
        · exact .inr ⟨p, hp, e⟩
theorem all_len : ∀ (k l : List Pr), (allV l k).length ≤ l.length + k.length
  | [], l => by simp [allV]
  | x :: k, l => by
    have h1 := all_len k (withV l x)
    have h2 := withG_len x false l
    have : allV l (x :: k) = allV (withV l x) k := rfl
    rw [this, List.length_cons]
    unfold withV at h1 h2 ⊢
    omega
theorem withG_mem (x : Pr) : ∀ (b : Bool) (l : List Pr) {p : Pr}, p ∈ withG x b l → p = x ∨ p ∈ l
  | false, [], p, h => by simpa [withG] using h
  | true, [], p, h => by simp [withG] at h
  | b, y :: l, p, h => by
    have ih := withG_mem x (b || !klt y.k x.k) l (p := p)
    have e : withG x b (y :: l) = (if b = false ∧ klt y.k x.k = false then [x] else []) ++ (if y.k = x.k then [] else [y]) ++ withG x (b || !klt y.k x.k) l := by cases b <;> rfl
    rw [e] at h
    rcases List.mem_append.1 h with h | h
    · rcases List.mem_append.1 h with h | h
      · split at h
        · exact .inl (by simpa using h)
        · simp at h
      · split at h
        · simp at h
        · exact .inr (by simp at h; simp [h])
    · rcases ih h with h | h
      · exact .inl h
      · exact .inr (by simp [h])
def chgOf (a b : BT) (p : Pr) : Chg := ⟨p.k, findV p.k a, findV p.k b⟩
def rdiffV (a b : BT) (L : List Pr) : List Chg := (L.map (chgOf a b)).filter (fun c => decide (c.o ≠ c.n))
theorem rdiff_eq {a b : BT} (ha : OK a) (hb : OK b) : rdiffV a b (allV (prsV a) (prsV b)) = diffV (prsV a) (prsV b) := by
  have sa := (asc_sp a).2 ha.1
  have sb := (asc_sp b).2 hb.1
  obtain ⟨h1, h2⟩ := all_spec (prsV b) (prsV a) sa
  obtain ⟨d1, d2, d3⟩ := diff_spec (prsV a) (prsV b) sa sb
  refine pw_eq Chg.k _ _ ?_ d1 fun c => ?_
  · refine List.Pairwise.sublist List.filter_sublist ?_
    rw [List.pairwise_map]
    exact h1
  · unfold rdiffV
    rw [List.mem_filter, List.mem_map, decide_eq_true_eq]
    constructor
    · rintro ⟨⟨p, hp, rfl⟩, hne⟩
      have hne' : look p.k (prsV a) ≠ look p.k (prsV b) := by
        have : findV p.k a ≠ findV p.k b := hne
        rwa [find_look ha.1, find_look hb.1] at this
      have : ∃ c ∈ diffV (prsV a) (prsV b), c.k = p.k := by
        rcases Classical.em (∃ c ∈ diffV (prsV a) (prsV b), c.k = p.k) with h | h
        · exact h
        · exact absurd (d3 p.k (fun c hc e => h ⟨c, hc, e⟩)) hne'
      obtain ⟨c, hc, e⟩ := this
      obtain ⟨e1, e2, -⟩ := d2 c hc
      have : chgOf a b p = c := by
        obtain ⟨ck, co, cn⟩ := c
        dsimp only at e e1 e2
        subst e
        rw [e1, e2, chgOf, find_look ha.1, find_look hb.1]
      rw [this]; exact hc
    · intro hc
      obtain ⟨e1, e2, e3⟩ := d2 c hc
      refine ⟨?_, e3⟩
      have : (∃ p ∈ prsV a, p.k = c.k) ∨ ∃ p ∈ prsV b, p.k = c.k := by
        cases ho : c.o with
        | some v => rw [ho] at e1; exact .inl ⟨_, (look_mem ha.1 c.k v).1 e1.symm, rfl⟩
        | none =>
          cases hn : c.n with
          | some v => rw [hn] at e2; exact .inr ⟨_, (look_mem hb.1 c.k v).1 e2.symm, rfl⟩
          | none => rw [ho, hn] at e3; exact absurd rfl e3
      obtain ⟨p, hp, e⟩ := (h2 c.k).2 this
      refine ⟨p, hp, ?_⟩
      obtain ⟨ck, co, cn⟩ := c
      dsimp only at e e1 e2
      subst e
      rw [e1, e2, chgOf, find_look ha.1, find_look hb.1]
theorem rdiff_take {a b : BT} {L : List Pr} {i : Nat} {p : Pr} (h : L[i]? = some p) : rdiffV a b (L.take (i + 1)) = rdiffV a b (L.take i) ++ (if findV p.k a = findV p.k b then [] else [chgOf a b p]) := by
  unfold rdiffV
  rw [List.take_add_one, h]
  simp only [Option.toList, List.map_append, List.map_cons, List.map_nil, List.filter_append]
  congr 1
  by_cases e : findV p.k a = findV p.k b
  · rw [if_pos e]; simp [chgOf, e]
  · rw [if_neg e]; simp [chgOf, e]
theorem rdiff_len {a b : BT} (L : List Pr) (i : Nat) : (rdiffV a b (L.take i)).length ≤ i := by
  unfold rdiffV
  have h := List.length_filter_le (fun c : Chg => decide (c.o ≠ c.n)) ((L.take i).map (chgOf a b))
  rw [List.length_map, List.length_take] at h
  omega
theorem own_new5 (w : World) (t : TypeId) : (w.alloc (.cells #[] t)).ownsRow w.heap.size t 5 (.slice (some ⟨w.heap.size, 0, none⟩) 0 0) 0 [] :=
  ⟨rfl, .inr ⟨w.heap.size, 0, #[], rfl, Nat.le_refl _, heap_alloc_new w _, Nat.le_refl _, by simp [maxLen], rfl, rfl⟩⟩

set_option maxRecDepth 100000
set_option maxHeartbeats 16000000
theorem rget_any {b : BT} {A : Option Addr} {n c : Nat} {k : ByteArray} {w : World} (hb : BAt w b A n) (hs : b.size ≤ 500) (hok : SP b) :
    Calls Try.prog 27 #[.slice A n c, .string k] w fun e w' => e = .returned (.tuple #[.string ((findV k b).getD ⟨#[]⟩), .bool (findV k b).isSome]) ∧ Ext w w' := by
  have HOK := Lib.hid hok; have HB := Lib.hid hb; clear hok hb
  obtain ⟨l, hl⟩ : ∃ l, prsV b = l := ⟨_, rfl⟩
  have hll : l.length ≤ 500 := by rw [← hl, prs_len]; exact hs
  have HL := Lib.hid hl; clear hl
  go_enter Try.func27, Try.ntmps27
  go_wp2_with fail
  refine (rlist_is (l := l) HL.out HB.out (by omega)).mono ?_
  rintro e w1 ⟨A1, c1, rfl, hP, -, hE⟩
  have HE := Lib.hid hE; have HPX := Lib.hid hP; clear hE hP
  go_wp2_with fail
  go_loopw [7] (fun vi wr => ∃ i : Nat, vi = .int .i64 i ∧ i ≤ l.length ∧ Ext w1 wr ∧ ∀ p ∈ l.take i, p.k ≠ k) (fun vi _ => l.length - (intOf vi).toNat)
  case atStart => exact ⟨0, rfl, Nat.zero_le _, Ext.refl _, by simp⟩
  case round =>
    obtain ⟨i, rfl, hi, hE, ht⟩ := hrel
    have HER := Lib.hid hE; have HT := Lib.hid ht; clear hE ht
    by_cases hiN : i = l.length
    · have hnl : ¬ ((i : Int) < (l.length : Int)) := by omega
      have hf : findV k b = none := (find_none HOK.out k).2 (fun p hp => HT.out p (by rw [List.take_of_length_le (by omega), ← HL.out]; exact hp))
      have HF := Lib.hid hf; clear hf
      go_wp2_with fail
      refine bodyPost_ret (v := .tuple #[.string ⟨#[]⟩, .bool false]) (by simp [results, Try.results27, go_sem]) rfl ?_
      exact ⟨by rw [HF.out]; rfl, HE.out.trans HER.out⟩
    · have hlt : ((i : Int) < (l.length : Int)) := by omega
      obtain ⟨b1, off1, y, rfl, hb1, hy, hwy, e0, e1⟩ := (HPX.out.ext HER.out).get (j := i) (by omega)
      obtain ⟨yk, yv⟩ := y
      dsimp only at e0 e1
      by_cases hk : yk = k
      · obtain rfl := hk
        have hf : findV yk b = some yv := (find_mem HOK.out yk yv).2 (by rw [HL.out]; exact List.mem_of_getElem? hy)
        have HF := Lib.hid hf; clear hf hy hwy
        go_wp2_with fail
        refine bodyPost_ret (v := .tuple #[.string yv, .bool true]) (by simp [results, Try.results27, go_sem]) rfl ?_
        exact ⟨by rw [HF.out]; rfl, HE.out.trans HER.out⟩
      · have q1 := ne_list hk
        have hn : ∀ p ∈ l.take (i + 1), p.k ≠ k := fun p hp => by
          rw [List.take_add_one, hy] at hp
          rcases List.mem_append.1 hp with hp | hp
          · exact HT.out p hp
          · simp at hp; subst hp; exact hk
        have HN := Lib.hid hn; clear hn hy hwy hk
        go_wp2_with fail
        go_roundw
        case rel => exact ⟨i + 1, by go_num, by omega, HER.out, HN.out⟩
        case measure => simp [intOf]; omega
theorem rList_any {b : BT} {A : Option Addr} {n c : Nat} {w : World} {l : List Pr} (hl : prsV b = l) (hb : BAt w b A n) (hs : b.size ≤ 500) :
    Calls Try.prog 28 #[.slice A n c] w fun e w' => ∃ B k, e = .returned (.slice B l.length k) ∧ Prs w' B l.length l ∧ Ext w w' := by
  have HL := Lib.hid hl; have HB := Lib.hid hb; clear hl hb
  go_enter Try.func28, Try.ntmps28
  go_wp2_with fail
  refine (rlist_is (l := l) HL.out HB.out (by omega)).mono ?_
  rintro e w1 ⟨A1, c1, rfl, hP, -, hE⟩
  have HE := Lib.hid hE; have HPX := Lib.hid hP; clear hE hP
  go_wp2_with fail
  go_ret
  exact ⟨A1, c1, rfl, HPX.out, HE.out⟩
theorem rdiffP_any {a b : BT} {A : Option Addr} {n c : Nat} {B : Option Addr} {m d : Nat} {w : World} (ha : BAt w a A n) (hb : BAt w b B m) (hsa : a.size ≤ 100) (hsb : b.size ≤ 100) (hoa : OK a) (hob : OK b) :
    Calls Try.prog 31 #[.slice A n c, .slice B m d] w fun e w' => Ext w w' ∧ ∃ v, e = .returned v ∧ w'.ownsRow w.heap.size 54 5 v (diffV (prsV a) (prsV b)).length ((diffV (prsV a) (prsV b)).flatMap Chg.cells) := by
  obtain ⟨inf, i1, i2, i3, i4⟩ := info_of infoC
  have I1 := Lib.hid i1; have I2 := Lib.hid i2; have I3 := Lib.hid i3; have I4 := Lib.hid i4; clear i1 i2 i3 i4
  have hre := rdiff_eq hoa hob
  have hall := all_len (prsV b) (prsV a)
  rw [prs_len, prs_len] at hall
  have hwfa : ∀ p ∈ prsV a, p.wf := fun p hp => BAt.sizes ha p hp
  have hwfb : ∀ p ∈ prsV b, p.wf := fun p hp => BAt.sizes hb p hp
  obtain ⟨V, hV⟩ : ∃ V, diffV (prsV a) (prsV b) = V := ⟨_, rfl⟩
  rw [hV] at hre ⊢
  obtain ⟨L, hL⟩ : ∃ L, allV (prsV a) (prsV b) = L := ⟨_, rfl⟩
  have hLf := hL
  rw [hL] at hre hall
  obtain ⟨l, hl⟩ : ∃ l, prsV a = l := ⟨_, rfl⟩
  obtain ⟨k, hk⟩ : ∃ k, prsV b = k := ⟨_, rfl⟩
  rw [hl, hk] at hLf
  have hll : l.length ≤ 100 := by rw [← hl, prs_len]; exact hsa
  have hkl : k.length ≤ 100 := by rw [← hk, prs_len]; exact hsb
  have hLL : L.length ≤ 200 := by omega
  rw [hl] at hwfa; rw [hk] at hwfb
  have HA := Lib.hid ha; have HB := Lib.hid hb; have HOA := Lib.hid hoa; have HOB := Lib.hid hob; have HRE := Lib.hid hre; have HLF := Lib.hid hLf; have HL := Lib.hid hl; have HK := Lib.hid hk; have HWA := Lib.hid hwfa; have HWB := Lib.hid hwfb
  clear ha hb hoa hob hre hLf hl hk hwfa hwfb hL hV hall
  go_enter Try.func31, Try.ntmps31
  go_wp2_with fail
  refine (rlist_is (l := l) HL.out HA.out (by omega)).mono ?_
  rintro e w1 ⟨A1, c1, rfl, hP, -, hE⟩
  have HE1 := Lib.hid hE; have HP1 := Lib.hid hP; clear hE hP
  go_wp2_with fail
  refine (rlist_is (l := k) HK.out (HB.out.ext HE1.out) (by omega)).mono ?_
  rintro e w2 ⟨A2, c2, rfl, hP, -, hE⟩
  have HE2 := Lib.hid (HE1.out.trans hE); have HP2 := Lib.hid hP; replace HP1 := Lib.hid (HP1.out.ext hE); clear hE hP
  go_wp2_with fail
  go_loopw [7, 8] (fun v7 vi wr => ∃ (i : Nat) (A3 : Option Addr) (c3 : Nat), vi = .int .i64 i ∧ v7 = .slice A3 (allV l (k.take i)).length c3 ∧ i ≤ k.length ∧ Ext w2 wr ∧ Prs wr A3 (allV l (k.take i)).length (allV l (k.take i))) (fun _ vi _ => k.length - (intOf vi).toNat)
  case atStart => exact ⟨0, A1, c1, rfl, rfl, Nat.zero_le _, Ext.refl _, HP1.out⟩
  case round =>
    obtain ⟨i, A3, c3, rfl, rfl, hi, hE, hP⟩ := hrel
    have HER := Lib.hid hE; have HP3 := Lib.hid hP; clear hE hP
    obtain ⟨q, hq⟩ : ∃ q, (allV l (k.take i)).length = q := ⟨_, rfl⟩
    have hP3 := HP3.out
    rw [hq] at hP3 ⊢
    have hqs : q ≤ 200 := by have := all_len (k.take i) l; rw [List.length_take] at this; omega
    have HP4 := Lib.hid hP3; have HQ := Lib.hid hq; clear hP3 hq HP3
    by_cases hiN : i = k.length
    · have hnl : ¬ ((i : Int) < (k.length : Int)) := by omega
      have hq2 := HQ.out
      have hP2 := HP4.out
      rw [List.take_of_length_le (by omega), HLF.out] at hq2 hP2
      have HLQ := Lib.hid hq2; have HPL := Lib.hid hP2; clear hq2 hP2 HP4 HQ
      have hown := own_new5 wr 54
      have hEw : Ext wr (wr.alloc (.cells #[] 54)) := (Ext.refl wr).alloc _
      have HOW := Lib.hid hown; have HEW := Lib.hid hEw; clear hown hEw
      obtain ⟨w3, hw3⟩ : ∃ w3, w3 = wr := ⟨_, rfl⟩
      rw [← hw3] at HER HPL HOW HEW ⊢
      clear hw3
      go_wp2_with fail
      go_loopw [9, 10] (fun v9 vi wx => ∃ i : Nat, vi = .int .i64 i ∧ i ≤ q ∧ Ext w3 wx ∧ wx.ownsRow w3.heap.size 54 5 v9 (rdiffV a b (L.take i)).length ((rdiffV a b (L.take i)).flatMap Chg.cells)) (fun _ vi _ => q - (intOf vi).toNat)
      case atStart => exact ⟨0, rfl, Nat.zero_le _, HEW.out, HOW.out⟩
      case round =>
        clear hnl hiN hi
        obtain ⟨i, rfl, hi, hE, ho⟩ := hrel
        have HES := Lib.hid hE; have HO := Lib.hid ho; clear hE ho
        by_cases hiN : i = q
        · have hnl : ¬ ((i : Int) < (q : Int)) := by omega
          have ho := HO.out
          rw [List.take_of_length_le (by have := HLQ.out; omega), HRE.out] at ho
          have HOF := Lib.hid ho; clear ho
          go_wp2_with fail
          go_ret
          exact ⟨(HE2.out.trans HER.out).trans HES.out, _, rfl, own_base HOF.out (HE2.out.trans HER.out).size⟩
        · have hlt : ((i : Int) < (q : Int)) := by omega
          obtain ⟨b1, off1, y, rfl, hb1, hy, hwy, e0, e1⟩ := (HPL.out.ext HES.out).get (j := i) (by omega)
          obtain ⟨yk, yv⟩ := y
          have htk := rdiff_take (a := a) (b := b) hy
          have hrl := rdiff_len (a := a) (b := b) L i
          dsimp only at e0 e1 htk
          unfold chgOf at htk
          dsimp only at htk
          obtain ⟨fo, hfo⟩ : ∃ f, findV yk a = f := ⟨_, rfl⟩
          obtain ⟨fn, hfn⟩ : ∃ f, findV yk b = f := ⟨_, rfl⟩
          rw [hfo, hfn] at htk
          have HFO := Lib.hid hfo; have HFN := Lib.hid hfn; have HRL := Lib.hid hrl; clear hfo hfn hy hwy hrl
          obtain ⟨gx, hgx⟩ : ∃ gx, wr.heap.size = gx := ⟨_, rfl⟩
          have hbx : Blk (wr.alloc (chgObj yk false false nothing nothing)) gx (chgObj yk false false nothing nothing) := Blk.new wr _ hgx.symm
          have hEx : Ext wr (wr.alloc (chgObj yk false false nothing nothing)) := (Ext.refl wr).alloc _
          have hgw : w3.heap.size ≤ gx := by rw [← hgx]; exact HES.out.size
          have hneq : u9.ownBlock ≠ some gx := fun h => by have := (HO.out.lt gx h).2; omega
          have HNEQ := Lib.hid hneq; clear hneq
          have HBX := Lib.hid hbx; have HEX := Lib.hid hEx; have HOX := Lib.hid (own_stab3 hEx HO.out); have HEQX := Lib.hid (HES.out.trans hEx)
          have hAx := HA.out.ext ((HE2.out.trans HER.out).trans HEQX.out)
          have hBx := HB.out.ext ((HE2.out.trans HER.out).trans HEQX.out)
          have HAX := Lib.hid hAx; have HBB := Lib.hid hBx
          clear hbx hEx hAx hBx
          have HTK := Lib.hid htk; clear htk
          cases fo with
          | none =>
            cases fn with
            | none =>
              go_wp2_with fail
              refine (rget_any (b := a) (A := A) (n := n) (c := c) (k := yk) HAX.out (by omega) HOA.out.1).mono ?_
              rintro e wy ⟨rfl, hE⟩
              rw [HFO.out]
              have hb1 := HBX.out.ext hE
              have HB1 := Lib.hid hb1; have HO1 := Lib.hid (own_stab3 hE HOX.out); have HE1' := Lib.hid (HEQX.out.trans hE); have HBN := Lib.hid (MapAt.ext HBB.out hE)
              have z0 := hb1.cell 0; have z1 := hb1.cell 1; have z2 := hb1.cell 2; have z3 := hb1.cell 3; have z4 := hb1.cell 4
              have y1 := hb1.free 1; have y3 := hb1.free 3
              simp only [List.getElem?_toArray, List.getElem?_cons_zero, List.getElem?_cons_succ] at z0 z1 z2 z3 z4
              clear hb1 hE e0 e1
              go_wp2_with fail
              generalize hwz : World.setCell (World.setCell wy _ _) _ _ = wz
              have hE2' : Ext w3 wz := by rw [← hwz]; exact (HE1'.out.setCell hgw _).setCell hgw _
              have hb2 : Blk wz gx (chgObj yk false false nothing nothing) := by rw [← hwz]; exact (HB1.out.put 3 _).put 1 _
              have hsx : Ext wy wz ∨ True := .inr trivial
              have hlv : Lv (fun g => g = gx) wy wz := by rw [← hwz]; exact ((Lv.refl (fun g => g = gx) wy).setCell (p := ⟨gx, 3, none⟩) (fun _ => rfl) _).setCell (p := ⟨gx, 1, none⟩) (fun _ => rfl) _
              have ho2 := own_lv HO1.out hlv (fun g hg h => by subst h; exact HNEQ.out hg)
              have hBN2 : BAt wz b B m := HB.out.ext ((HE2.out.trans HER.out).trans hE2')
              have HB2 := Lib.hid hb2; have HO2 := Lib.hid ho2; have HE2' := Lib.hid hE2'; have HBN2 := Lib.hid hBN2
              clear hb2 ho2 hE2' hBN2 hlv hwz hsx z0 z1 z2 z3 z4 y1 y3
              refine (rget_any (b := b) (A := B) (n := m) (c := d) (k := yk) HBN2.out (by omega) HOB.out.1).mono ?_
              rintro e wu ⟨rfl, hE⟩
              rw [HFN.out]
              have hb1 := HB2.out.ext hE
              have HB3 := Lib.hid hb1; have HO3 := Lib.hid (own_stab3 hE HO2.out); have HE3 := Lib.hid (HE2'.out.trans hE)
              have z0 := hb1.cell 0; have z1 := hb1.cell 1; have z2 := hb1.cell 2; have z3 := hb1.cell 3; have z4 := hb1.cell 4
              have y2 := hb1.free 2; have y4 := hb1.free 4
              simp only [List.getElem?_toArray, List.getElem?_cons_zero, List.getElem?_cons_succ] at z0 z1 z2 z3 z4
              clear hb1 hE
              obtain ⟨wv, hwv⟩ : ∃ wv, (wu.setCell ⟨gx, 4, none⟩ (.string nothing)).setCell ⟨gx, 2, none⟩ (.bool false) = wv := ⟨_, rfl⟩
              have hev : Ext w3 wv := by rw [← hwv]; exact (HE3.out.setCell hgw _).setCell hgw _
              have hbv : Blk wv gx (chgObj yk false false nothing nothing) := by rw [← hwv]; exact (HB3.out.put 4 _).put 2 _
              have hlv : Lv (fun g => g = gx) wu wv := by rw [← hwv]; exact ((Lv.refl (fun g => g = gx) wu).setCell (p := ⟨gx, 4, none⟩) (fun _ => rfl) _).setCell (p := ⟨gx, 2, none⟩) (fun _ => rfl) _
              have hov := own_lv HO3.out hlv (fun g hg h => by subst h; exact HNEQ.out hg)
              have HEV := Lib.hid hev; have HOV := Lib.hid hov
              have x0 := hbv.cell 0; have x1 := hbv.cell 1; have x2 := hbv.cell 2; have x3 := hbv.cell 3; have x4 := hbv.cell 4
              simp only [List.getElem?_toArray, List.getElem?_cons_zero, List.getElem?_cons_succ] at x0 x1 x2 x3 x4
              clear hev hbv hlv hov
              go_wp2_with fail
              go_roundw
              case rel => exact ⟨i + 1, by go_num, by omega, HEV.out, by rw [HTK.out]; simpa using HOV.out⟩
              case measure => simp [intOf]; omega
            | some v =>
              have hnf : ¬ ((none : Option ByteArray) = some v) := by simp
              have HNF := Lib.hid hnf; clear hnf
              go_wp2_with fail
              refine (rget_any (b := a) (A := A) (n := n) (c := c) (k := yk) HAX.out (by omega) HOA.out.1).mono ?_
              rintro e wy ⟨rfl, hE⟩
              rw [HFO.out]
              have hb1 := HBX.out.ext hE
              have HB1 := Lib.hid hb1; have HO1 := Lib.hid (own_stab3 hE HOX.out); have HE1' := Lib.hid (HEQX.out.trans hE); have HBN := Lib.hid (MapAt.ext HBB.out hE)
              have z0 := hb1.cell 0; have z1 := hb1.cell 1; have z2 := hb1.cell 2; have z3 := hb1.cell 3; have z4 := hb1.cell 4
              have y1 := hb1.free 1; have y3 := hb1.free 3
              simp only [List.getElem?_toArray, List.getElem?_cons_zero, List.getElem?_cons_succ] at z0 z1 z2 z3 z4
              clear hb1 hE e0 e1
              go_wp2_with fail
              generalize hwz : World.setCell (World.setCell wy _ _) _ _ = wz
              have hE2' : Ext w3 wz := by rw [← hwz]; exact (HE1'.out.setCell hgw _).setCell hgw _
              have hb2 : Blk wz gx (chgObj yk false false nothing nothing) := by rw [← hwz]; exact (HB1.out.put 3 _).put 1 _
              have hsx : Ext wy wz ∨ True := .inr trivial
              have hlv : Lv (fun g => g = gx) wy wz := by rw [← hwz]; exact ((Lv.refl (fun g => g = gx) wy).setCell (p := ⟨gx, 3, none⟩) (fun _ => rfl) _).setCell (p := ⟨gx, 1, none⟩) (fun _ => rfl) _
              have ho2 := own_lv HO1.out hlv (fun g hg h => by subst h; exact HNEQ.out hg)
              have hBN2 : BAt wz b B m := HB.out.ext ((HE2.out.trans HER.out).trans hE2')
              have HB2 := Lib.hid hb2; have HO2 := Lib.hid ho2; have HE2' := Lib.hid hE2'; have HBN2 := Lib.hid hBN2
              clear hb2 ho2 hE2' hBN2 hlv hwz hsx z0 z1 z2 z3 z4 y1 y3
              refine (rget_any (b := b) (A := B) (n := m) (c := d) (k := yk) HBN2.out (by omega) HOB.out.1).mono ?_
              rintro e wu ⟨rfl, hE⟩
              rw [HFN.out]
              have hb1 := HB2.out.ext hE
              have HB3 := Lib.hid hb1; have HO3 := Lib.hid (own_stab3 hE HO2.out); have HE3 := Lib.hid (HE2'.out.trans hE)
              have z0 := hb1.cell 0; have z1 := hb1.cell 1; have z2 := hb1.cell 2; have z3 := hb1.cell 3; have z4 := hb1.cell 4
              have y2 := hb1.free 2; have y4 := hb1.free 4
              simp only [List.getElem?_toArray, List.getElem?_cons_zero, List.getElem?_cons_succ] at z0 z1 z2 z3 z4
              clear hb1 hE
              obtain ⟨wv, hwv⟩ : ∃ wv, (wu.setCell ⟨gx, 4, none⟩ (.string v)).setCell ⟨gx, 2, none⟩ (.bool true) = wv := ⟨_, rfl⟩
              have hev : Ext w3 wv := by rw [← hwv]; exact (HE3.out.setCell hgw _).setCell hgw _
              have hbv : Blk wv gx (chgObj yk false true nothing v) := by rw [← hwv]; exact (HB3.out.put 4 _).put 2 _
              have hlv : Lv (fun g => g = gx) wu wv := by rw [← hwv]; exact ((Lv.refl (fun g => g = gx) wu).setCell (p := ⟨gx, 4, none⟩) (fun _ => rfl) _).setCell (p := ⟨gx, 2, none⟩) (fun _ => rfl) _
              have hov := own_lv HO3.out hlv (fun g hg h => by subst h; exact HNEQ.out hg)
              have HEV := Lib.hid hev; have HOV := Lib.hid hov
              have x0 := hbv.cell 0; have x1 := hbv.cell 1; have x2 := hbv.cell 2; have x3 := hbv.cell 3; have x4 := hbv.cell 4
              simp only [List.getElem?_toArray, List.getElem?_cons_zero, List.getElem?_cons_succ] at x0 x1 x2 x3 x4
              clear hev hbv hlv hov
              go_wp2_with (at_builtin; refine wpList_append_size2 rfl (.tmp 72) (.tmp 74) 45 rfl w3.heap.size 54 inf _ 5 56 underC I1.out I2.out I3.out I4.out rfl (by decide) u9 (rdiffV a b (L.take i)).length ((rdiffV a b (L.take i)).flatMap Chg.cells) (some ⟨wv.heap.size, 0, none⟩) 1 1 [.string yk, .bool false, .bool true, .string nothing, .string v] rfl (by simp [Act.eval]) rfl (by simp [Value.oneCell']) (by have := HRL.out; simp only [maxLen]; omega) (by have := HRL.out; omega) (own_stab3 ((Ext.refl wv).alloc _) HOV.out) (Cells.new wv _ [_, _, _, _, _] rfl) (by have := HEV.out.size; simp; omega) ?_; intro v9 w9 hown9 hg9 hb9; have HO9 := Lib.hid hown9; have HG9 := Lib.hid hg9; clear hown9 hg9 hb9)
              have HE9 := Lib.hid ((HEV.out.alloc _).own3 (own_stab3 ((Ext.refl _).alloc _) HOV.out) HG9.out)
              go_roundw
              case rel => exact ⟨i + 1, by go_num, by omega, HE9.out, by rw [HTK.out, if_neg (HNF.out), List.length_append, List.flatMap_append]; exact HO9.out⟩
              case measure => simp [intOf]; omega
          | some u =>
            cases fn with
            | none =>
              have hnf : ¬ (some u = (none : Option ByteArray)) := by simp
              have HNF := Lib.hid hnf; clear hnf
              go_wp2_with fail
              refine (rget_any (b := a) (A := A) (n := n) (c := c) (k := yk) HAX.out (by omega) HOA.out.1).mono ?_
              rintro e wy ⟨rfl, hE⟩
              rw [HFO.out]
              have hb1 := HBX.out.ext hE
              have HB1 := Lib.hid hb1; have HO1 := Lib.hid (own_stab3 hE HOX.out); have HE1' := Lib.hid (HEQX.out.trans hE); have HBN := Lib.hid (MapAt.ext HBB.out hE)
              have z0 := hb1.cell 0; have z1 := hb1.cell 1; have z2 := hb1.cell 2; have z3 := hb1.cell 3; have z4 := hb1.cell 4
              have y1 := hb1.free 1; have y3 := hb1.free 3
              simp only [List.getElem?_toArray, List.getElem?_cons_zero, List.getElem?_cons_succ] at z0 z1 z2 z3 z4
              clear hb1 hE e0 e1
              go_wp2_with fail
              generalize hwz : World.setCell (World.setCell wy _ _) _ _ = wz
              have hE2' : Ext w3 wz := by rw [← hwz]; exact (HE1'.out.setCell hgw _).setCell hgw _
              have hb2 : Blk wz gx (chgObj yk true false u nothing) := by rw [← hwz]; exact (HB1.out.put 3 _).put 1 _
              have hsx : Ext wy wz ∨ True := .inr trivial
              have hlv : Lv (fun g => g = gx) wy wz := by rw [← hwz]; exact ((Lv.refl (fun g => g = gx) wy).setCell (p := ⟨gx, 3, none⟩) (fun _ => rfl) _).setCell (p := ⟨gx, 1, none⟩) (fun _ => rfl) _
              have ho2 := own_lv HO1.out hlv (fun g hg h => by subst h; exact HNEQ.out hg)
              have hBN2 : BAt wz b B m := HB.out.ext ((HE2.out.trans HER.out).trans hE2')
              have HB2 := Lib.hid hb2; have HO2 := Lib.hid ho2; have HE2' := Lib.hid hE2'; have HBN2 := Lib.hid hBN2
              clear hb2 ho2 hE2' hBN2 hlv hwz hsx z0 z1 z2 z3 z4 y1 y3
              refine (rget_any (b := b) (A := B) (n := m) (c := d) (k := yk) HBN2.out (by omega) HOB.out.1).mono ?_
              rintro e wu ⟨rfl, hE⟩
              rw [HFN.out]
              have hb1 := HB2.out.ext hE
              have HB3 := Lib.hid hb1; have HO3 := Lib.hid (own_stab3 hE HO2.out); have HE3 := Lib.hid (HE2'.out.trans hE)
              have z0 := hb1.cell 0; have z1 := hb1.cell 1; have z2 := hb1.cell 2; have z3 := hb1.cell 3; have z4 := hb1.cell 4
              have y2 := hb1.free 2; have y4 := hb1.free 4
              simp only [List.getElem?_toArray, List.getElem?_cons_zero, List.getElem?_cons_succ] at z0 z1 z2 z3 z4
              clear hb1 hE
              obtain ⟨wv, hwv⟩ : ∃ wv, (wu.setCell ⟨gx, 4, none⟩ (.string nothing)).setCell ⟨gx, 2, none⟩ (.bool false) = wv := ⟨_, rfl⟩
              have hev : Ext w3 wv := by rw [← hwv]; exact (HE3.out.setCell hgw _).setCell hgw _
              have hbv : Blk wv gx (chgObj yk true false u nothing) := by rw [← hwv]; exact (HB3.out.put 4 _).put 2 _
              have hlv : Lv (fun g => g = gx) wu wv := by rw [← hwv]; exact ((Lv.refl (fun g => g = gx) wu).setCell (p := ⟨gx, 4, none⟩) (fun _ => rfl) _).setCell (p := ⟨gx, 2, none⟩) (fun _ => rfl) _
              have hov := own_lv HO3.out hlv (fun g hg h => by subst h; exact HNEQ.out hg)
              have HEV := Lib.hid hev; have HOV := Lib.hid hov
              have x0 := hbv.cell 0; have x1 := hbv.cell 1; have x2 := hbv.cell 2; have x3 := hbv.cell 3; have x4 := hbv.cell 4
              simp only [List.getElem?_toArray, List.getElem?_cons_zero, List.getElem?_cons_succ] at x0 x1 x2 x3 x4
              clear hev hbv hlv hov
              go_wp2_with (at_builtin; refine wpList_append_size2 rfl (.tmp 72) (.tmp 74) 45 rfl w3.heap.size 54 inf _ 5 56 underC I1.out I2.out I3.out I4.out rfl (by decide) u9 (rdiffV a b (L.take i)).length ((rdiffV a b (L.take i)).flatMap Chg.cells) (some ⟨wv.heap.size, 0, none⟩) 1 1 [.string yk, .bool true, .bool false, .string u, .string nothing] rfl (by simp [Act.eval]) rfl (by simp [Value.oneCell']) (by have := HRL.out; simp only [maxLen]; omega) (by have := HRL.out; omega) (own_stab3 ((Ext.refl wv).alloc _) HOV.out) (Cells.new wv _ [_, _, _, _, _] rfl) (by have := HEV.out.size; simp; omega) ?_; intro v9 w9 hown9 hg9 hb9; have HO9 := Lib.hid hown9; have HG9 := Lib.hid hg9; clear hown9 hg9 hb9)
              have HE9 := Lib.hid ((HEV.out.alloc _).own3 (own_stab3 ((Ext.refl _).alloc _) HOV.out) HG9.out)
              go_roundw
              case rel => exact ⟨i + 1, by go_num, by omega, HE9.out, by rw [HTK.out, if_neg (HNF.out), List.length_append, List.flatMap_append]; exact HO9.out⟩
              case measure => simp [intOf]; omega
            | some v =>
              by_cases huv : u = v
              · obtain rfl := huv
                go_wp2_with fail
                refine (rget_any (b := a) (A := A) (n := n) (c := c) (k := yk) HAX.out (by omega) HOA.out.1).mono ?_
                rintro e wy ⟨rfl, hE⟩
                rw [HFO.out]
                have hb1 := HBX.out.ext hE
                have HB1 := Lib.hid hb1; have HO1 := Lib.hid (own_stab3 hE HOX.out); have HE1' := Lib.hid (HEQX.out.trans hE); have HBN := Lib.hid (MapAt.ext HBB.out hE)
                have z0 := hb1.cell 0; have z1 := hb1.cell 1; have z2 := hb1.cell 2; have z3 := hb1.cell 3; have z4 := hb1.cell 4
                have y1 := hb1.free 1; have y3 := hb1.free 3
                simp only [List.getElem?_toArray, List.getElem?_cons_zero, List.getElem?_cons_succ] at z0 z1 z2 z3 z4
                clear hb1 hE e0 e1
                go_wp2_with fail
                generalize hwz : World.setCell (World.setCell wy _ _) _ _ = wz
                have hE2' : Ext w3 wz := by rw [← hwz]; exact (HE1'.out.setCell hgw _).setCell hgw _
                have hb2 : Blk wz gx (chgObj yk true false u nothing) := by rw [← hwz]; exact (HB1.out.put 3 _).put 1 _
                have hsx : Ext wy wz ∨ True := .inr trivial
                have hlv : Lv (fun g => g = gx) wy wz := by rw [← hwz]; exact ((Lv.refl (fun g => g = gx) wy).setCell (p := ⟨gx, 3, none⟩) (fun _ => rfl) _).setCell (p := ⟨gx, 1, none⟩) (fun _ => rfl) _
                have ho2 := own_lv HO1.out hlv (fun g hg h => by subst h; exact HNEQ.out hg)
                have hBN2 : BAt wz b B m := HB.out.ext ((HE2.out.trans HER.out).trans hE2')
                have HB2 := Lib.hid hb2; have HO2 := Lib.hid ho2; have HE2' := Lib.hid hE2'; have HBN2 := Lib.hid hBN2
                clear hb2 ho2 hE2' hBN2 hlv hwz hsx z0 z1 z2 z3 z4 y1 y3
                refine (rget_any (b := b) (A := B) (n := m) (c := d) (k := yk) HBN2.out (by omega) HOB.out.1).mono ?_
                rintro e wu ⟨rfl, hE⟩
                rw [HFN.out]
                have hb1 := HB2.out.ext hE
                have HB3 := Lib.hid hb1; have HO3 := Lib.hid (own_stab3 hE HO2.out); have HE3 := Lib.hid (HE2'.out.trans hE)
                have z0 := hb1.cell 0; have z1 := hb1.cell 1; have z2 := hb1.cell 2; have z3 := hb1.cell 3; have z4 := hb1.cell 4
                have y2 := hb1.free 2; have y4 := hb1.free 4
                simp only [List.getElem?_toArray, List.getElem?_cons_zero, List.getElem?_cons_succ] at z0 z1 z2 z3 z4
                clear hb1 hE
                obtain ⟨wv, hwv⟩ : ∃ wv, (wu.setCell ⟨gx, 4, none⟩ (.string u)).setCell ⟨gx, 2, none⟩ (.bool true) = wv := ⟨_, rfl⟩
                have hev : Ext w3 wv := by rw [← hwv]; exact (HE3.out.setCell hgw _).setCell hgw _
                have hbv : Blk wv gx (chgObj yk true true u u) := by rw [← hwv]; exact (HB3.out.put 4 _).put 2 _
                have hlv : Lv (fun g => g = gx) wu wv := by rw [← hwv]; exact ((Lv.refl (fun g => g = gx) wu).setCell (p := ⟨gx, 4, none⟩) (fun _ => rfl) _).setCell (p := ⟨gx, 2, none⟩) (fun _ => rfl) _
                have hov := own_lv HO3.out hlv (fun g hg h => by subst h; exact HNEQ.out hg)
                have HEV := Lib.hid hev; have HOV := Lib.hid hov
                have x0 := hbv.cell 0; have x1 := hbv.cell 1; have x2 := hbv.cell 2; have x3 := hbv.cell 3; have x4 := hbv.cell 4
                simp only [List.getElem?_toArray, List.getElem?_cons_zero, List.getElem?_cons_succ] at x0 x1 x2 x3 x4
                clear hev hbv hlv hov
                go_wp2_with fail
                go_roundw
                case rel => exact ⟨i + 1, by go_num, by omega, HEV.out, by rw [HTK.out]; simpa using HOV.out⟩
                case measure => simp [intOf]; omega
              · have hnf : ¬ (some u = some v) := by simpa using huv
                have q7 := ne_list huv
                have HNF := Lib.hid hnf; clear hnf huv
                go_wp2_with fail
                refine (rget_any (b := a) (A := A) (n := n) (c := c) (k := yk) HAX.out (by omega) HOA.out.1).mono ?_
                rintro e wy ⟨rfl, hE⟩
                rw [HFO.out]
                have hb1 := HBX.out.ext hE
                have HB1 := Lib.hid hb1; have HO1 := Lib.hid (own_stab3 hE HOX.out); have HE1' := Lib.hid (HEQX.out.trans hE); have HBN := Lib.hid (MapAt.ext HBB.out hE)
                have z0 := hb1.cell 0; have z1 := hb1.cell 1; have z2 := hb1.cell 2; have z3 := hb1.cell 3; have z4 := hb1.cell 4
                have y1 := hb1.free 1; have y3 := hb1.free 3
                simp only [List.getElem?_toArray, List.getElem?_cons_zero, List.getElem?_cons_succ] at z0 z1 z2 z3 z4
                clear hb1 hE e0 e1
                go_wp2_with fail
                generalize hwz : World.setCell (World.setCell wy _ _) _ _ = wz
                have hE2' : Ext w3 wz := by rw [← hwz]; exact (HE1'.out.setCell hgw _).setCell hgw _
                have hb2 : Blk wz gx (chgObj yk true false u nothing) := by rw [← hwz]; exact (HB1.out.put 3 _).put 1 _
                have hsx : Ext wy wz ∨ True := .inr trivial
                have hlv : Lv (fun g => g = gx) wy wz := by rw [← hwz]; exact ((Lv.refl (fun g => g = gx) wy).setCell (p := ⟨gx, 3, none⟩) (fun _ => rfl) _).setCell (p := ⟨gx, 1, none⟩) (fun _ => rfl) _
                have ho2 := own_lv HO1.out hlv (fun g hg h => by subst h; exact HNEQ.out hg)
                have hBN2 : BAt wz b B m := HB.out.ext ((HE2.out.trans HER.out).trans hE2')
                have HB2 := Lib.hid hb2; have HO2 := Lib.hid ho2; have HE2' := Lib.hid hE2'; have HBN2 := Lib.hid hBN2
                clear hb2 ho2 hE2' hBN2 hlv hwz hsx z0 z1 z2 z3 z4 y1 y3
                refine (rget_any (b := b) (A := B) (n := m) (c := d) (k := yk) HBN2.out (by omega) HOB.out.1).mono ?_
                rintro e wu ⟨rfl, hE⟩
                rw [HFN.out]
                have hb1 := HB2.out.ext hE
                have HB3 := Lib.hid hb1; have HO3 := Lib.hid (own_stab3 hE HO2.out); have HE3 := Lib.hid (HE2'.out.trans hE)
                have z0 := hb1.cell 0; have z1 := hb1.cell 1; have z2 := hb1.cell 2; have z3 := hb1.cell 3; have z4 := hb1.cell 4
                have y2 := hb1.free 2; have y4 := hb1.free 4
                simp only [List.getElem?_toArray, List.getElem?_cons_zero, List.getElem?_cons_succ] at z0 z1 z2 z3 z4
                clear hb1 hE
                obtain ⟨wv, hwv⟩ : ∃ wv, (wu.setCell ⟨gx, 4, none⟩ (.string v)).setCell ⟨gx, 2, none⟩ (.bool true) = wv := ⟨_, rfl⟩
                have hev : Ext w3 wv := by rw [← hwv]; exact (HE3.out.setCell hgw _).setCell hgw _
                have hbv : Blk wv gx (chgObj yk true true u v) := by rw [← hwv]; exact (HB3.out.put 4 _).put 2 _
                have hlv : Lv (fun g => g = gx) wu wv := by rw [← hwv]; exact ((Lv.refl (fun g => g = gx) wu).setCell (p := ⟨gx, 4, none⟩) (fun _ => rfl) _).setCell (p := ⟨gx, 2, none⟩) (fun _ => rfl) _
                have hov := own_lv HO3.out hlv (fun g hg h => by subst h; exact HNEQ.out hg)
                have HEV := Lib.hid hev; have HOV := Lib.hid hov
                have x0 := hbv.cell 0; have x1 := hbv.cell 1; have x2 := hbv.cell 2; have x3 := hbv.cell 3; have x4 := hbv.cell 4
                simp only [List.getElem?_toArray, List.getElem?_cons_zero, List.getElem?_cons_succ] at x0 x1 x2 x3 x4
                clear hev hbv hlv hov
                go_wp2_with (at_builtin; refine wpList_append_size2 rfl (.tmp 72) (.tmp 74) 45 rfl w3.heap.size 54 inf _ 5 56 underC I1.out I2.out I3.out I4.out rfl (by decide) u9 (rdiffV a b (L.take i)).length ((rdiffV a b (L.take i)).flatMap Chg.cells) (some ⟨wv.heap.size, 0, none⟩) 1 1 [.string yk, .bool true, .bool true, .string u, .string v] rfl (by simp [Act.eval]) rfl (by simp [Value.oneCell']) (by have := HRL.out; simp only [maxLen]; omega) (by have := HRL.out; omega) (own_stab3 ((Ext.refl wv).alloc _) HOV.out) (Cells.new wv _ [_, _, _, _, _] rfl) (by have := HEV.out.size; simp; omega) ?_; intro v9 w9 hown9 hg9 hb9; have HO9 := Lib.hid hown9; have HG9 := Lib.hid hg9; clear hown9 hg9 hb9)
                have HE9 := Lib.hid ((HEV.out.alloc _).own3 (own_stab3 ((Ext.refl _).alloc _) HOV.out) HG9.out)
                go_roundw
                case rel => exact ⟨i + 1, by go_num, by omega, HE9.out, by rw [HTK.out, if_neg (HNF.out), List.length_append, List.flatMap_append]; exact HO9.out⟩
                case measure => simp [intOf]; omega
    · have hlt : ((i : Int) < (k.length : Int)) := by omega
      obtain ⟨b1, off1, y, rfl, hb1, hy, hwy, e0, e1⟩ := (HP2.out.ext HER.out).get (j := i) (by omega)
      obtain ⟨yk, yv⟩ := y
      dsimp only at e0 e1
      have hst : allV l (k.take (i + 1)) = withV (allV l (k.take i)) ⟨yk, yv⟩ := by unfold allV; rw [List.take_add_one, hy]; simp
      have hwf : ∀ p ∈ allV l (k.take (i + 1)), p.wf := fun p hp => by
        rw [hst] at hp
        rcases withG_mem _ _ _ hp with rfl | hp
        · exact hwy
        · exact HP4.out.2.1 p hp
      have HST := Lib.hid hst; have HWF := Lib.hid hwf
      clear hst hwf hy hwy
      go_wp2_with fail
      refine (rwith_any (l := allV l (k.take i)) (xk := yk) (xv := yv) (c := c3) HP4.out (by omega)).mono ?_
      rintro e w5 ⟨hE, v, rfl, ho⟩
      rw [← HST.out] at ho
      obtain ⟨A5, c5, rfl, -, hP5⟩ := ownP_prs ho HWF.out
      have HP5 := Lib.hid hP5; have HE5 := Lib.hid (HER.out.trans hE); clear hE ho hP5 e0 e1
      go_wp2_with fail
      go_roundw
      case rel => exact ⟨i + 1, A5, c5, by go_num, rfl, by omega, HE5.out, HP5.out⟩
      case measure => simp [intOf]; omega
end Go.Proofs.Ytbjniaihkllmdaa
