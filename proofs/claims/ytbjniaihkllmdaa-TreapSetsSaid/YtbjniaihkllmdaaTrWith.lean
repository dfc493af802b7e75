/- Contract: the reference's with. -/
import Derived.Test.YtbjniaihkllmdaaTrList
import Derived.Test.YtbjniaihkllmdaaTrSame
import Derived.Test.YtbjniaihkllmdaaTrPlain
namespace Go.Proofs.Ytbjniaihkllmdaa
open Go.RowKit

/-- What with still puts out. -/
def withG (x : Pr) : Bool → List Pr → List Pr
  | false, [] => [x]
  | true, [] => []
  | b, y :: l => (if b = false ∧ klt y.k x.k = false then [x] else []) ++ (if y.k = x.k then [] else [y]) ++ withG x (b || !klt y.k x.k) l
def withV (l : List Pr) (x : Pr) : List Pr := withG x false l
theorem withG_true (x : Pr) : ∀ l : List Pr, withG x true l = l.filter (fun y => decide (y.k ≠ x.k))
  | [] => rfl
  | y :: l => by
    rw [withG, List.filter_cons]
    have h1 := withG_true x l
    by_cases h : y.k = x.k
    · simp [h, h1]
    · simp [h, h1]
theorem withG_len (x : Pr) : ∀ (b : Bool) (l : List Pr), (withG x b l).length ≤ l.length + 1
  | false, [] => by simp [withG]
  | true, [] => by simp [withG]
  | true, y :: l => by
    rw [withG_true]
    have := List.length_filter_le (fun y : Pr => decide (y.k ≠ x.k)) (y :: l)
    omega
  | false, y :: l => by
    rw [withG]
    have h0 := withG_len x false l
    cases h : klt y.k x.k with
    | true =>
      simp only [Bool.not_true, Bool.or_false, List.length_append]
      split <;> split <;> simp at * <;> omega
    | false =>
      have h2 := List.length_filter_le (fun y : Pr => decide (y.k ≠ x.k)) l
      simp only [Bool.not_false, Bool.or_true, withG_true, List.length_append]
      split <;> split <;> simp at * <;> omega
/-- with, of pairs in order. -/
theorem with_spec (x : Pr) : ∀ l : List Pr, l.Pairwise (fun x y => klt x.k y.k = true) → (withV l x).Pairwise (fun x y => klt x.k y.k = true) ∧ ∀ p, p ∈ withV l x ↔ p = x ∨ (p ∈ l ∧ p.k ≠ x.k)
  | [], _ => by simp [withV, withG]
  | y :: l, h => by
    obtain ⟨h1, h2⟩ := List.pairwise_cons.1 h
    obtain ⟨i1, i2⟩ := with_spec x l h2
    unfold withV at i1 i2 ⊢
    rw [withG]
    cases c : klt y.k x.k with
    | true =>
      have hne := klt_ne c
      simp only [Bool.not_true, Bool.or_false, reduceCtorEq, and_false, if_false, List.nil_append, if_neg hne, List.singleton_append]
      refine ⟨List.pairwise_cons.2 ⟨fun p hp => ?_, i1⟩, fun p => ?_⟩
      · rcases (i2 p).1 hp with rfl | ⟨h', _⟩
        · exact c
        · exact h1 p h'
      · rw [List.mem_cons, i2, List.mem_cons]
        constructor
        · rintro (rfl | rfl | ⟨h', hn⟩)
          · exact .inr ⟨.inl rfl, hne⟩
          · exact .inl rfl
          · exact .inr ⟨.inr h', hn⟩
        · rintro (rfl | ⟨rfl | h', hn⟩)
          · exact .inr (.inl rfl)
          · exact .inl rfl
          · exact .inr (.inr ⟨h', hn⟩)
    | false =>
      simp only [Bool.not_false, Bool.or_true, and_self, if_true, withG_true]
      have low : ∀ p ∈ l, klt x.k p.k = true := fun p hp => by
        rcases klt_tri y.k x.k with h' | h' | h'
        · rw [c] at h'; cases h'
        · rw [← h']; exact h1 p hp
        · exact klt_trans h' (h1 p hp)
      by_cases e : y.k = x.k
      · rw [if_pos e, List.append_nil, List.singleton_append]
        refine ⟨List.pairwise_cons.2 ⟨fun p hp => low p (List.mem_filter.1 hp).1, h2.sublist List.filter_sublist⟩, fun p => ?_⟩
        rw [List.mem_cons, List.mem_filter, List.mem_cons]
        constructor
        · rintro (rfl | ⟨h', hn⟩)
          · exact .inl rfl
          · exact .inr ⟨.inr h', by simpa using hn⟩
        · rintro (rfl | ⟨rfl | h', hn⟩)
          · exact .inl rfl
          · exact absurd e hn
          · exact .inr ⟨h', by simpa using hn⟩
      · rw [if_neg e, List.append_assoc, List.singleton_append, List.singleton_append]
        have hxy : klt x.k y.k = true := by
          rcases klt_tri y.k x.k with h' | h' | h'
          · rw [c] at h'; cases h'
          · exact absurd h' e
          · exact h'
        refine ⟨List.pairwise_cons.2 ⟨fun p hp => ?_, List.pairwise_cons.2 ⟨fun p hp => h1 p (List.mem_filter.1 hp).1, h2.sublist List.filter_sublist⟩⟩, fun p => ?_⟩
        · rcases List.mem_cons.1 hp with rfl | hp
          · exact hxy
          · exact low p (List.mem_filter.1 hp).1
        · rw [List.mem_cons, List.mem_cons, List.mem_filter, List.mem_cons]
          constructor
          · rintro (rfl | rfl | ⟨h', hn⟩)
            · exact .inl rfl
            · exact .inr ⟨.inl rfl, e⟩
            · exact .inr ⟨.inr h', by simpa using hn⟩
          · rintro (rfl | ⟨rfl | h', hn⟩)
            · exact .inl rfl
            · exact .inr (.inl rfl)
            · exact .inr (.inr ⟨h', by simpa using hn⟩)
theorem withG_drop {x y : Pr} {l : List Pr} {i : Nat} (h : l[i]? = some y) (b : Bool) : withG x b (l.drop i) = (if b = false ∧ klt y.k x.k = false then [x] else []) ++ (if y.k = x.k then [] else [y]) ++ withG x (b || !klt y.k x.k) (l.drop (i + 1)) := by
  have hi : i < l.length := by rcases Nat.lt_or_ge i l.length with h' | h'; exact h'; rw [List.getElem?_eq_none h'] at h; cases h
  have e : l[i] = y := by rw [List.getElem?_eq_getElem hi] at h; exact Option.some.inj h
  rw [List.drop_eq_getElem_cons hi, e]
  cases b <;> rfl

set_option maxRecDepth 100000 in
set_option maxHeartbeats 16000000 in
theorem rwith_any {l : List Pr} {xk xv : ByteArray} {A : Option Addr} {N c : Nat} {w : World} (hp : Prs w A N l) (hN : N ≤ 500) :
    Calls Try.prog 57 #[.slice A N c, .agg #[.string xk, .string xv]] w fun e w' => Ext w w' ∧ ∃ v, e = .returned v ∧ w'.ownsRow w.heap.size 34 2 v (withV l ⟨xk, xv⟩).length ((withV l ⟨xk, xv⟩).flatMap Pr.cells) := by
  obtain ⟨inf, i1, i2, i3, i4⟩ := info_of infoP
  have I1 := Lib.hid i1; have I2 := Lib.hid i2; have I3 := Lib.hid i3; have I4 := Lib.hid i4; clear i1 i2 i3 i4
  obtain ⟨g3, hg3⟩ : ∃ g, w.heap.size = g := ⟨_, rfl⟩
  obtain ⟨wB, hwB⟩ : ∃ wB, w.alloc (.cells #[.string xk, .string xv] 34) = wB := ⟨_, rfl⟩
  have hEB : Ext w wB := by rw [← hwB]; exact (Ext.refl w).alloc _
  have hbB : Blk wB g3 (Pr.obj ⟨xk, xv⟩) := by rw [← hwB]; exact Blk.new w _ hg3.symm
  have hsB : wB.heap.size = g3 + 1 := by rw [← hwB, ← hg3]; simp
  have hsB' : w.heap.size + 1 = wB.heap.size := by rw [hsB, hg3]
  have hown := own_new2 wB 34
  have hEW : Ext wB (wB.alloc (.cells #[] 34)) := (Ext.refl wB).alloc _
  have hpB := hp.ext hEB
  obtain ⟨V, hV⟩ : ∃ V, withV l ⟨xk, xv⟩ = V := ⟨_, rfl⟩
  rw [hV]
  have HV := Lib.hid hV; have HEB := Lib.hid hEB; have HBB := Lib.hid hbB; have HSB := Lib.hid hsB; have HOW := Lib.hid hown; have HEW := Lib.hid hEW; have HP0 := Lib.hid hpB; have HG3 := Lib.hid hg3
  clear hV hEB hbB hsB hown hEW hpB hp
  go_enter Try.func57, Try.ntmps57
  go_wp2_with fail
  clear hwB hg3 hsB'
  go_loopw [5, 6, 7] (fun v5 v6 vi wr => ∃ (i : Nat) (b : Bool) (D : List Pr), vi = .int .i64 i ∧ v6 = .bool b ∧ i ≤ N ∧ Ext wB wr ∧ wr.ownsRow wB.heap.size 34 2 v5 D.length (D.flatMap Pr.cells) ∧ V = D ++ withG ⟨xk, xv⟩ b (l.drop i) ∧ D.length ≤ 2 * i) (fun _ _ vi _ => N - (intOf vi).toNat)
  case atStart => exact ⟨0, false, [], rfl, rfl, Nat.zero_le _, HEW.out, by have := HOW.out; exact this, by rw [List.nil_append]; exact HV.out.symm, Nat.le_refl _⟩
  case round =>
    obtain ⟨i, b, D, rfl, rfl, hi, hE, ho, hv, hd⟩ := hrel
    have HER := Lib.hid hE; have HO := Lib.hid ho; have HVD := Lib.hid hv; clear hE ho hv HOW HEW
    have hln := HP0.out.1
    have HLN := Lib.hid hln; clear hln
    by_cases hiN : i = N
    · have hnl : ¬ ((i : Int) < (N : Int)) := by omega
      have hv := HVD.out
      rw [List.drop_eq_nil_of_le (by rw [HLN.out]; omega)] at hv
      cases b with
      | true =>
        rw [withG, List.append_nil] at hv
        have HVF := Lib.hid hv; clear hv
        go_wp2_with fail
        go_ret
        refine ⟨HEB.out.trans HER.out, _, rfl, ?_⟩
        rw [HVF.out]
        exact own_base HO.out (by rw [HSB.out, HG3.out]; omega)
      | false =>
        rw [withG] at hv
        have HVF := Lib.hid hv; clear hv
        have c0 := (HBB.out.ext HER.out).cell 0; have c1 := (HBB.out.ext HER.out).cell 1
        simp only [List.getElem?_toArray, List.getElem?_cons_zero, List.getElem?_cons_succ] at c0 c1
        go_wp2_with (at_builtin; refine wpList_append_size2 rfl (.tmp 48) (.tmp 50) 31 rfl wB.heap.size 34 inf _ 2 32 underP I1.out I2.out I3.out I4.out rfl (by decide) _ (D).length ((D).flatMap Pr.cells) (some ⟨wr.heap.size, 0, none⟩) 1 1 [.string xk, .string xv] rfl (by simp [Act.eval]) rfl (by simp [Value.oneCell']) (by simp only [maxLen]; (try simp only [List.length_append, List.length_cons, List.length_nil]); omega) (by (try simp only [List.length_append, List.length_cons, List.length_nil]); omega) (own_stab3 ((Ext.refl wr).alloc _) HO.out) (Cells.new wr _ [_, _] rfl) (by have := HER.out.size; simp; omega) ?_; intro v8 w8 hown hg hb; have HO8 := Lib.hid hown; have HE8 := Lib.hid ((HER.out.alloc (Pr.obj ⟨xk, xv⟩)).own3 (own_stab3 ((Ext.refl wr).alloc _) HO.out) hg); clear hown hg hb)
        go_ret
        refine ⟨HEB.out.trans HE8.out, _, rfl, ?_⟩
        rw [HVF.out, List.length_append, List.flatMap_append]
        exact own_base HO8.out (by rw [HSB.out, HG3.out]; omega)
    · have hlt : ((i : Int) < (N : Int)) := by omega
      obtain ⟨b1, off1, y, rfl, hb1, hy, hwy, e0, e1⟩ := HP0.out.get (j := i) (by omega)
      obtain ⟨yk, yv⟩ := y
      dsimp only at e0 e1
      have hv := HVD.out
      rw [withG_drop hy] at hv
      dsimp only at hv
      have HY0 := Lib.hid e0; have HY1 := Lib.hid e1
      clear hy hwy e0 e1
      rcases Bool.eq_false_or_eq_true (klt yk xk) with h1 | h1
      · have p1 : Op.bytesLess yk.toList xk.toList = true := h1
        have hne := klt_ne h1
        have q1 := ne_list hne
        cases b with
        | true =>
          have HVX : Hid (V = D ++ [(⟨yk, yv⟩ : Pr)] ++ withG ⟨xk, xv⟩ true (l.drop (i + 1))) := Lib.hid (by rw [hv, h1, if_neg (by simp), if_neg hne]; simp)
          clear hv h1 hne HVD
          have c0 := (HBB.out.ext HER.out).cell 0; have c1 := (HBB.out.ext HER.out).cell 1
          have e0 := HER.out.cell HY0.out; have e1 := HER.out.cell HY1.out
          simp only [List.getElem?_toArray, List.getElem?_cons_zero, List.getElem?_cons_succ] at c0 c1
          go_wp2_with fail
          go_quiet (fail)
          generalize hq : wr.drewN nq = wa
          have hE : Ext wr wa := by rw [← hq]; exact (Ext.refl wr).drewN nq
          have HEA := Lib.hid (HER.out.trans hE)
          have HOA := Lib.hid (own_stab3 hE HO.out)
          clear hq hE c0 c1 e0 e1
          have c0 := (HBB.out.ext HEA.out).cell 0; have c1 := (HBB.out.ext HEA.out).cell 1
          have e0 := HEA.out.cell HY0.out; have e1 := HEA.out.cell HY1.out
          simp only [List.getElem?_toArray, List.getElem?_cons_zero, List.getElem?_cons_succ] at c0 c1
          go_wp2_with fail
          go_quiet (fail)
          generalize hq : wa.drewN nq = wb
          have hE : Ext wa wb := by rw [← hq]; exact (Ext.refl wa).drewN nq
          have HEQ := Lib.hid (HEA.out.trans hE)
          have HOQ := Lib.hid (own_stab3 hE HOA.out)
          clear hq hE c0 c1 e0 e1
          have c0 := (HBB.out.ext HEQ.out).cell 0; have c1 := (HBB.out.ext HEQ.out).cell 1
          have e0 := HEQ.out.cell HY0.out; have e1 := HEQ.out.cell HY1.out
          simp only [List.getElem?_toArray, List.getElem?_cons_zero, List.getElem?_cons_succ] at c0 c1
          go_wp2_with (at_builtin; refine wpList_append_size2 rfl (.tmp 39) (.tmp 44) 31 rfl wB.heap.size 34 inf _ 2 32 underP I1.out I2.out I3.out I4.out rfl (by decide) _ (D).length ((D).flatMap Pr.cells) (some ⟨wb.heap.size, 0, none⟩) 1 1 [.string yk, .string yv] rfl (by simp [Act.eval]) rfl (by simp [Value.oneCell']) (by simp only [maxLen]; (try simp only [List.length_append, List.length_cons, List.length_nil]); omega) (by (try simp only [List.length_append, List.length_cons, List.length_nil]); omega) (own_stab3 ((Ext.refl wb).alloc _) HOQ.out) (Cells.new wb _ [_, _] rfl) (by have := HEQ.out.size; simp; omega) ?_; intro v6 w6 hown hg hb; have HO6 := Lib.hid hown; have HE6 := Lib.hid ((HEQ.out.alloc (Pr.obj ⟨yk, yv⟩)).own3 (own_stab3 ((Ext.refl wb).alloc _) HOQ.out) hg); clear hown hg hb)
          clear c0 c1 e0 e1
          go_roundw
          case rel => exact ⟨i + 1, true, (D ++ [(⟨yk, yv⟩ : Pr)]), by go_num, rfl, by omega, HE6.out, by rw [List.length_append, List.flatMap_append]; exact HO6.out, HVX.out, by (try simp only [List.length_append, List.length_cons, List.length_nil]); omega⟩
          case measure => simp [intOf]; omega
        | false =>
          have HVX : Hid (V = D ++ [(⟨yk, yv⟩ : Pr)] ++ withG ⟨xk, xv⟩ false (l.drop (i + 1))) := Lib.hid (by rw [hv, h1, if_neg (by simp), if_neg hne]; simp)
          clear hv h1 hne HVD
          have c0 := (HBB.out.ext HER.out).cell 0; have c1 := (HBB.out.ext HER.out).cell 1
          have e0 := HER.out.cell HY0.out; have e1 := HER.out.cell HY1.out
          simp only [List.getElem?_toArray, List.getElem?_cons_zero, List.getElem?_cons_succ] at c0 c1
          go_wp2_with fail
          go_quiet (fail)
          generalize hq : wr.drewN nq = wa
          have hE : Ext wr wa := by rw [← hq]; exact (Ext.refl wr).drewN nq
          have HEA := Lib.hid (HER.out.trans hE)
          have HOA := Lib.hid (own_stab3 hE HO.out)
          clear hq hE c0 c1 e0 e1
          have c0 := (HBB.out.ext HEA.out).cell 0; have c1 := (HBB.out.ext HEA.out).cell 1
          have e0 := HEA.out.cell HY0.out; have e1 := HEA.out.cell HY1.out
          simp only [List.getElem?_toArray, List.getElem?_cons_zero, List.getElem?_cons_succ] at c0 c1
          go_wp2_with fail
          go_quiet (fail)
          generalize hq : wa.drewN nq = wb
          have hE : Ext wa wb := by rw [← hq]; exact (Ext.refl wa).drewN nq
          have HEQ := Lib.hid (HEA.out.trans hE)
          have HOQ := Lib.hid (own_stab3 hE HOA.out)
          clear hq hE c0 c1 e0 e1
          have c0 := (HBB.out.ext HEQ.out).cell 0; have c1 := (HBB.out.ext HEQ.out).cell 1
          have e0 := HEQ.out.cell HY0.out; have e1 := HEQ.out.cell HY1.out
          simp only [List.getElem?_toArray, List.getElem?_cons_zero, List.getElem?_cons_succ] at c0 c1
          go_wp2_with (at_builtin; refine wpList_append_size2 rfl (.tmp 39) (.tmp 44) 31 rfl wB.heap.size 34 inf _ 2 32 underP I1.out I2.out I3.out I4.out rfl (by decide) _ (D).length ((D).flatMap Pr.cells) (some ⟨wb.heap.size, 0, none⟩) 1 1 [.string yk, .string yv] rfl (by simp [Act.eval]) rfl (by simp [Value.oneCell']) (by simp only [maxLen]; (try simp only [List.length_append, List.length_cons, List.length_nil]); omega) (by (try simp only [List.length_append, List.length_cons, List.length_nil]); omega) (own_stab3 ((Ext.refl wb).alloc _) HOQ.out) (Cells.new wb _ [_, _] rfl) (by have := HEQ.out.size; simp; omega) ?_; intro v6 w6 hown hg hb; have HO6 := Lib.hid hown; have HE6 := Lib.hid ((HEQ.out.alloc (Pr.obj ⟨yk, yv⟩)).own3 (own_stab3 ((Ext.refl wb).alloc _) HOQ.out) hg); clear hown hg hb)
          clear c0 c1 e0 e1
          go_roundw
          case rel => exact ⟨i + 1, false, (D ++ [(⟨yk, yv⟩ : Pr)]), by go_num, rfl, by omega, HE6.out, by rw [List.length_append, List.flatMap_append]; exact HO6.out, HVX.out, by (try simp only [List.length_append, List.length_cons, List.length_nil]); omega⟩
          case measure => simp [intOf]; omega
      · have p1 : Op.bytesLess yk.toList xk.toList = false := h1
        by_cases hne : yk = xk
        · obtain rfl := hne
          cases b with
          | true =>
            have HVX : Hid (V = D ++ withG ⟨yk, xv⟩ true (l.drop (i + 1))) := Lib.hid (by rw [hv, h1, if_neg (by simp), if_pos rfl]; simp)
            clear hv h1 HVD
            have c0 := (HBB.out.ext HER.out).cell 0; have c1 := (HBB.out.ext HER.out).cell 1
            have e0 := HER.out.cell HY0.out; have e1 := HER.out.cell HY1.out
            simp only [List.getElem?_toArray, List.getElem?_cons_zero, List.getElem?_cons_succ] at c0 c1
            go_wp2_with fail
            go_quiet (fail)
            generalize hq : wr.drewN nq = wa
            have hE : Ext wr wa := by rw [← hq]; exact (Ext.refl wr).drewN nq
            have HEA := Lib.hid (HER.out.trans hE)
            have HOA := Lib.hid (own_stab3 hE HO.out)
            clear hq hE c0 c1 e0 e1
            have c0 := (HBB.out.ext HEA.out).cell 0; have c1 := (HBB.out.ext HEA.out).cell 1
            have e0 := HEA.out.cell HY0.out; have e1 := HEA.out.cell HY1.out
            simp only [List.getElem?_toArray, List.getElem?_cons_zero, List.getElem?_cons_succ] at c0 c1
            go_wp2_with fail
            go_quiet (fail)
            generalize hq : wa.drewN nq = wb
            have hE : Ext wa wb := by rw [← hq]; exact (Ext.refl wa).drewN nq
            have HEQ := Lib.hid (HEA.out.trans hE)
            have HOQ := Lib.hid (own_stab3 hE HOA.out)
            clear hq hE c0 c1 e0 e1
            have c0 := (HBB.out.ext HEQ.out).cell 0; have c1 := (HBB.out.ext HEQ.out).cell 1
            have e0 := HEQ.out.cell HY0.out; have e1 := HEQ.out.cell HY1.out
            simp only [List.getElem?_toArray, List.getElem?_cons_zero, List.getElem?_cons_succ] at c0 c1
            go_wp2_with fail
            clear c0 c1 e0 e1
            go_roundw
            case rel => exact ⟨i + 1, true, D, by go_num, rfl, by omega, HEQ.out, HOQ.out, HVX.out, by (try simp only [List.length_append, List.length_cons, List.length_nil]); omega⟩
            case measure => simp [intOf]; omega
          | false =>
            have HVX : Hid (V = D ++ [(⟨yk, xv⟩ : Pr)] ++ withG ⟨yk, xv⟩ true (l.drop (i + 1))) := Lib.hid (by rw [hv, h1, if_pos ⟨rfl, rfl⟩, if_pos rfl]; simp)
            clear hv h1 HVD
            have c0 := (HBB.out.ext HER.out).cell 0; have c1 := (HBB.out.ext HER.out).cell 1
            have e0 := HER.out.cell HY0.out; have e1 := HER.out.cell HY1.out
            simp only [List.getElem?_toArray, List.getElem?_cons_zero, List.getElem?_cons_succ] at c0 c1
            go_wp2_with fail
            go_quiet (fail)
            generalize hq : wr.drewN nq = wa
            have hE : Ext wr wa := by rw [← hq]; exact (Ext.refl wr).drewN nq
            have HEA := Lib.hid (HER.out.trans hE)
            have HOA := Lib.hid (own_stab3 hE HO.out)
            clear hq hE c0 c1 e0 e1
            have c0 := (HBB.out.ext HEA.out).cell 0; have c1 := (HBB.out.ext HEA.out).cell 1
            have e0 := HEA.out.cell HY0.out; have e1 := HEA.out.cell HY1.out
            simp only [List.getElem?_toArray, List.getElem?_cons_zero, List.getElem?_cons_succ] at c0 c1
            go_wp2_with (at_builtin; refine wpList_append_size2 rfl (.tmp 27) (.tmp 29) 31 rfl wB.heap.size 34 inf _ 2 32 underP I1.out I2.out I3.out I4.out rfl (by decide) _ (D).length ((D).flatMap Pr.cells) (some ⟨wa.heap.size, 0, none⟩) 1 1 [.string yk, .string xv] rfl (by simp [Act.eval]) rfl (by simp [Value.oneCell']) (by simp only [maxLen]; (try simp only [List.length_append, List.length_cons, List.length_nil]); omega) (by (try simp only [List.length_append, List.length_cons, List.length_nil]); omega) (own_stab3 ((Ext.refl wa).alloc _) HOA.out) (Cells.new wa _ [_, _] rfl) (by have := HEA.out.size; simp; omega) ?_; intro v5 w5 hown hg hb; have HO5 := Lib.hid hown; have HE5 := Lib.hid ((HEA.out.alloc (Pr.obj ⟨yk, xv⟩)).own3 (own_stab3 ((Ext.refl wa).alloc _) HOA.out) hg); clear hown hg hb; clear c0 c1 e0 e1; have c0 := (HBB.out.ext HE5.out).cell 0; have e0 := HE5.out.cell HY0.out; have e1 := HE5.out.cell HY1.out; simp only [List.getElem?_toArray, List.getElem?_cons_zero] at c0)
            replace HO5 : Hid (w5.ownsRow wB.heap.size 34 2 v5 (D ++ [(⟨yk, xv⟩ : Pr)]).length ((D ++ [(⟨yk, xv⟩ : Pr)]).flatMap Pr.cells)) := Lib.hid (by rw [List.length_append, List.flatMap_append]; exact HO5.out)
            clear c0 e0 e1
            have c0 := (HBB.out.ext HE5.out).cell 0; have c1 := (HBB.out.ext HE5.out).cell 1
            have e0 := HE5.out.cell HY0.out; have e1 := HE5.out.cell HY1.out
            simp only [List.getElem?_toArray, List.getElem?_cons_zero, List.getElem?_cons_succ] at c0 c1
            go_quiet (fail)
            generalize hq : w5.drewN nq = wb
            have hE : Ext w5 wb := by rw [← hq]; exact (Ext.refl w5).drewN nq
            have HEQ := Lib.hid (HE5.out.trans hE)
            have HOQ := Lib.hid (own_stab3 hE HO5.out)
            clear hq hE c0 c1 e0 e1
            have c0 := (HBB.out.ext HEQ.out).cell 0; have c1 := (HBB.out.ext HEQ.out).cell 1
            have e0 := HEQ.out.cell HY0.out; have e1 := HEQ.out.cell HY1.out
            simp only [List.getElem?_toArray, List.getElem?_cons_zero, List.getElem?_cons_succ] at c0 c1
            go_wp2_with fail
            clear c0 c1 e0 e1
            go_roundw
            case rel => exact ⟨i + 1, true, (D ++ [(⟨yk, xv⟩ : Pr)]), by go_num, rfl, by omega, HEQ.out, HOQ.out, HVX.out, by (try simp only [List.length_append, List.length_cons, List.length_nil]); omega⟩
            case measure => simp [intOf]; omega
        · have q1 := ne_list hne
          cases b with
          | true =>
            have HVX : Hid (V = D ++ [(⟨yk, yv⟩ : Pr)] ++ withG ⟨xk, xv⟩ true (l.drop (i + 1))) := Lib.hid (by rw [hv, h1, if_neg (by simp), if_neg hne]; simp)
            clear hv h1 hne HVD
            have c0 := (HBB.out.ext HER.out).cell 0; have c1 := (HBB.out.ext HER.out).cell 1
            have e0 := HER.out.cell HY0.out; have e1 := HER.out.cell HY1.out
            simp only [List.getElem?_toArray, List.getElem?_cons_zero, List.getElem?_cons_succ] at c0 c1
            go_wp2_with fail
            go_quiet (fail)
            generalize hq : wr.drewN nq = wa
            have hE : Ext wr wa := by rw [← hq]; exact (Ext.refl wr).drewN nq
            have HEA := Lib.hid (HER.out.trans hE)
            have HOA := Lib.hid (own_stab3 hE HO.out)
            clear hq hE c0 c1 e0 e1
            have c0 := (HBB.out.ext HEA.out).cell 0; have c1 := (HBB.out.ext HEA.out).cell 1
            have e0 := HEA.out.cell HY0.out; have e1 := HEA.out.cell HY1.out
            simp only [List.getElem?_toArray, List.getElem?_cons_zero, List.getElem?_cons_succ] at c0 c1
            go_wp2_with fail
            go_quiet (fail)
            generalize hq : wa.drewN nq = wb
            have hE : Ext wa wb := by rw [← hq]; exact (Ext.refl wa).drewN nq
            have HEQ := Lib.hid (HEA.out.trans hE)
            have HOQ := Lib.hid (own_stab3 hE HOA.out)
            clear hq hE c0 c1 e0 e1
            have c0 := (HBB.out.ext HEQ.out).cell 0; have c1 := (HBB.out.ext HEQ.out).cell 1
            have e0 := HEQ.out.cell HY0.out; have e1 := HEQ.out.cell HY1.out
            simp only [List.getElem?_toArray, List.getElem?_cons_zero, List.getElem?_cons_succ] at c0 c1
            go_wp2_with (at_builtin; refine wpList_append_size2 rfl (.tmp 39) (.tmp 44) 31 rfl wB.heap.size 34 inf _ 2 32 underP I1.out I2.out I3.out I4.out rfl (by decide) _ (D).length ((D).flatMap Pr.cells) (some ⟨wb.heap.size, 0, none⟩) 1 1 [.string yk, .string yv] rfl (by simp [Act.eval]) rfl (by simp [Value.oneCell']) (by simp only [maxLen]; (try simp only [List.length_append, List.length_cons, List.length_nil]); omega) (by (try simp only [List.length_append, List.length_cons, List.length_nil]); omega) (own_stab3 ((Ext.refl wb).alloc _) HOQ.out) (Cells.new wb _ [_, _] rfl) (by have := HEQ.out.size; simp; omega) ?_; intro v6 w6 hown hg hb; have HO6 := Lib.hid hown; have HE6 := Lib.hid ((HEQ.out.alloc (Pr.obj ⟨yk, yv⟩)).own3 (own_stab3 ((Ext.refl wb).alloc _) HOQ.out) hg); clear hown hg hb)
            clear c0 c1 e0 e1
            go_roundw
            case rel => exact ⟨i + 1, true, (D ++ [(⟨yk, yv⟩ : Pr)]), by go_num, rfl, by omega, HE6.out, by rw [List.length_append, List.flatMap_append]; exact HO6.out, HVX.out, by (try simp only [List.length_append, List.length_cons, List.length_nil]); omega⟩
            case measure => simp [intOf]; omega
          | false =>
            have HVX : Hid (V = D ++ [(⟨xk, xv⟩ : Pr)] ++ [(⟨yk, yv⟩ : Pr)] ++ withG ⟨xk, xv⟩ true (l.drop (i + 1))) := Lib.hid (by rw [hv, h1, if_pos ⟨rfl, rfl⟩, if_neg hne]; simp)
            clear hv h1 hne HVD
            have c0 := (HBB.out.ext HER.out).cell 0; have c1 := (HBB.out.ext HER.out).cell 1
            have e0 := HER.out.cell HY0.out; have e1 := HER.out.cell HY1.out
            simp only [List.getElem?_toArray, List.getElem?_cons_zero, List.getElem?_cons_succ] at c0 c1
            go_wp2_with fail
            go_quiet (fail)
            generalize hq : wr.drewN nq = wa
            have hE : Ext wr wa := by rw [← hq]; exact (Ext.refl wr).drewN nq
            have HEA := Lib.hid (HER.out.trans hE)
            have HOA := Lib.hid (own_stab3 hE HO.out)
            clear hq hE c0 c1 e0 e1
            have c0 := (HBB.out.ext HEA.out).cell 0; have c1 := (HBB.out.ext HEA.out).cell 1
            have e0 := HEA.out.cell HY0.out; have e1 := HEA.out.cell HY1.out
            simp only [List.getElem?_toArray, List.getElem?_cons_zero, List.getElem?_cons_succ] at c0 c1
            go_wp2_with (at_builtin; refine wpList_append_size2 rfl (.tmp 27) (.tmp 29) 31 rfl wB.heap.size 34 inf _ 2 32 underP I1.out I2.out I3.out I4.out rfl (by decide) _ (D).length ((D).flatMap Pr.cells) (some ⟨wa.heap.size, 0, none⟩) 1 1 [.string xk, .string xv] rfl (by simp [Act.eval]) rfl (by simp [Value.oneCell']) (by simp only [maxLen]; (try simp only [List.length_append, List.length_cons, List.length_nil]); omega) (by (try simp only [List.length_append, List.length_cons, List.length_nil]); omega) (own_stab3 ((Ext.refl wa).alloc _) HOA.out) (Cells.new wa _ [_, _] rfl) (by have := HEA.out.size; simp; omega) ?_; intro v5 w5 hown hg hb; have HO5 := Lib.hid hown; have HE5 := Lib.hid ((HEA.out.alloc (Pr.obj ⟨xk, xv⟩)).own3 (own_stab3 ((Ext.refl wa).alloc _) HOA.out) hg); clear hown hg hb; clear c0 c1 e0 e1; have c0 := (HBB.out.ext HE5.out).cell 0; have e0 := HE5.out.cell HY0.out; have e1 := HE5.out.cell HY1.out; simp only [List.getElem?_toArray, List.getElem?_cons_zero] at c0)
            replace HO5 : Hid (w5.ownsRow wB.heap.size 34 2 v5 (D ++ [(⟨xk, xv⟩ : Pr)]).length ((D ++ [(⟨xk, xv⟩ : Pr)]).flatMap Pr.cells)) := Lib.hid (by rw [List.length_append, List.flatMap_append]; exact HO5.out)
            clear c0 e0 e1
            have c0 := (HBB.out.ext HE5.out).cell 0; have c1 := (HBB.out.ext HE5.out).cell 1
            have e0 := HE5.out.cell HY0.out; have e1 := HE5.out.cell HY1.out
            simp only [List.getElem?_toArray, List.getElem?_cons_zero, List.getElem?_cons_succ] at c0 c1
            go_quiet (fail)
            generalize hq : w5.drewN nq = wb
            have hE : Ext w5 wb := by rw [← hq]; exact (Ext.refl w5).drewN nq
            have HEQ := Lib.hid (HE5.out.trans hE)
            have HOQ := Lib.hid (own_stab3 hE HO5.out)
            clear hq hE c0 c1 e0 e1
            have c0 := (HBB.out.ext HEQ.out).cell 0; have c1 := (HBB.out.ext HEQ.out).cell 1
            have e0 := HEQ.out.cell HY0.out; have e1 := HEQ.out.cell HY1.out
            simp only [List.getElem?_toArray, List.getElem?_cons_zero, List.getElem?_cons_succ] at c0 c1
            go_wp2_with (at_builtin; refine wpList_append_size2 rfl (.tmp 39) (.tmp 44) 31 rfl wB.heap.size 34 inf _ 2 32 underP I1.out I2.out I3.out I4.out rfl (by decide) _ ((D ++ [(⟨xk, xv⟩ : Pr)])).length (((D ++ [(⟨xk, xv⟩ : Pr)])).flatMap Pr.cells) (some ⟨wb.heap.size, 0, none⟩) 1 1 [.string yk, .string yv] rfl (by simp [Act.eval]) rfl (by simp [Value.oneCell']) (by simp only [maxLen]; (try simp only [List.length_append, List.length_cons, List.length_nil]); omega) (by (try simp only [List.length_append, List.length_cons, List.length_nil]); omega) (own_stab3 ((Ext.refl wb).alloc _) HOQ.out) (Cells.new wb _ [_, _] rfl) (by have := HEQ.out.size; simp; omega) ?_; intro v6 w6 hown hg hb; have HO6 := Lib.hid hown; have HE6 := Lib.hid ((HEQ.out.alloc (Pr.obj ⟨yk, yv⟩)).own3 (own_stab3 ((Ext.refl wb).alloc _) HOQ.out) hg); clear hown hg hb)
            clear c0 c1 e0 e1
            go_roundw
            case rel => exact ⟨i + 1, true, ((D ++ [(⟨xk, xv⟩ : Pr)]) ++ [(⟨yk, yv⟩ : Pr)]), by go_num, rfl, by omega, HE6.out, by rw [List.length_append, List.flatMap_append]; exact HO6.out, HVX.out, by (try simp only [List.length_append, List.length_cons, List.length_nil]); omega⟩
            case measure => simp [intOf]; omega
end Go.Proofs.Ytbjniaihkllmdaa
