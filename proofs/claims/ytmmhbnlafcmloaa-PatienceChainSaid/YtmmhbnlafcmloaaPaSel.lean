/- A slice of bools in memory; contract: the law's selected. -/
import Derived.Test.YtmmhbnlafcmloaaPaLongW
import Derived.Test.YtmmhbnlafcmloaaPaValP
namespace Go.Proofs.Ytmmhbnlafcmloaa
open Go.RowKit

/-- A slice of bools in memory. -/
def Bls (w : World) (A : Option Addr) (n : Nat) (ps : List Bool) : Prop := ps.length = n ∧ Cells w A (ps.map Value.bool)
theorem Bls.ext {w w' : World} {A : Option Addr} {n : Nat} {ps : List Bool} (h : Bls w A n ps) (e : Ext w w') : Bls w' A n ps := ⟨h.1, h.2.ext e⟩
theorem Bls.get {w : World} {A : Option Addr} {n : Nat} {ps : List Bool} (h : Bls w A n ps) {k : Nat} (hk : k < n) : ∃ b off x, A = some ⟨b, off, none⟩ ∧ b < w.heap.size ∧ ps[k]? = some x ∧ w.cell? ⟨b, off + k, none⟩ = some (.bool x) := by
  have hl : k < ps.length := by rw [h.1]; exact hk
  obtain ⟨b, off, h1, h2, h3⟩ := h.2.get (k := k) (by simp; omega)
  have := h3 k (.bool ps[k]) (by simp [hl])
  exact ⟨b, off, ps[k], h1, h2, List.getElem?_eq_getElem hl, this⟩

/-- What selected answers. -/
def SelP (l : List Mt) (ps : List Bool) (w : World) (e : Ending) (w' : World) : Prop :=
  ((∃ s C k, selI l ps l.length = some s ∧ e = .returned (.tuple #[.slice C s.length k, .bool true]) ∧ Mts w' C s.length (selM l s)) ∨
    (selI l ps l.length = none ∧ e = .returned (.tuple #[.slice none 0 0, .bool false]))) ∧ Ext w w'
theorem selM_snoc (l : List Mt) (s : List Nat) (i : Nat) : selM l (s ++ [i]) = selM l s ++ [l.getD i ⟨0, 0, 0⟩] := by simp [selM]
theorem selM_len (l : List Mt) (s : List Nat) : (selM l s).length = s.length := by simp [selM]
theorem selM_wf {l : List Mt} {s : List Nat} (h : ∀ m ∈ l, m.wf) (hs : ∀ i ∈ s, i < l.length) : ∀ m ∈ selM l s, m.wf := fun m hm => by
  obtain ⟨i, hi, rfl⟩ := List.mem_map.1 hm
  have := List.getElem?_eq_getElem (hs i hi)
  rw [getD_is this]
  exact h _ (List.mem_of_getElem? this)
theorem snoc_or' (l : List Nat) : l = [] ∨ ∃ r x, l = r ++ [x] := by
  rcases List.eq_nil_or_concat l with h | ⟨r, x, h⟩
  · exact .inl h
  · exact .inr ⟨r, x, by rw [h]; simp⟩

set_option maxRecDepth 100000 in
set_option maxHeartbeats 8000000 in
theorem selected_any (A B : Option Addr) (n c m d : Nat) (l : List Mt) (ps : List Bool) (w : World) (ha : Mts w A n l) (hb : Bls w B m ps) (hn : n ≤ 100) (hm : m ≤ Reach) :
    Calls Try.prog 21 #[.slice A n c, .slice B m d] w (SelP l ps w) := by
  obtain rfl : l.length = n := ha.1
  obtain rfl : ps.length = m := hb.1
  unfold Reach at hm
  have HA := Lib.hid ha; have HB := Lib.hid hb; clear ha hb
  obtain ⟨inf, i1, i2, i3, i4⟩ := info_of infoM'
  have I1 := Lib.hid i1; have I2 := Lib.hid i2; have I3 := Lib.hid i3; have I4 := Lib.hid i4; clear i1 i2 i3 i4
  go_enter Try.func21, Try.ntmps21
  go_wp2_with fail
  go_loopw [6, 12] (fun v6 v12 wr => ∃ (k : Nat) (s : List Nat), k ≤ l.length ∧ v12 = .int .i64 k ∧ selI l ps k = some s ∧ wr.ownsRow w.heap.size 32 3 v6 s.length ((selM l s).flatMap Mt.cells) ∧ Ext w wr) (fun _ v12 _ => l.length - (intOf v12).toNat)
  case atStart => exact ⟨0, [], Nat.zero_le _, rfl, rfl, World.ownsRow_nil _ _ _ _, Ext.refl _⟩
  case round =>
    obtain ⟨k, s, hk, rfl, hs, ho, hE⟩ := hrel
    obtain ⟨hch, hsl, hsk⟩ := selI_ok k s hk hs
    have hwf := selM_wf HA.out.2.1 (fun i hi => Nat.lt_of_lt_of_le (hsk i hi) hk)
    have HS := Lib.hid hs; have HO := Lib.hid ho; have HE := Lib.hid hE; have HWF := Lib.hid hwf; have HSK := Lib.hid hsk; clear hs ho hE hwf hch hsk
    by_cases hlt : k < l.length
    case neg =>
      obtain rfl : k = l.length := by omega
      obtain ⟨C, k1, rfl, -, hM⟩ := ownM_mts HO.out HWF.out
      have HM := Lib.hid hM; clear hM
      go_wp2_with fail
      refine bodyPost_ret (v := .tuple #[.slice C s.length k1, .bool true]) (by simp [results, Try.results21, go_sem]) rfl ⟨.inl ⟨s, C, k1, HS.out, rfl, HM.out⟩, HE.out⟩
    obtain ⟨ba, oa, ⟨x, y, z⟩, hA, hba, hx, hxw, d0, d1, d2⟩ := (HA.out.ext HE.out).get hlt
    subst hA
    dsimp only at d0 d1 d2
    have hbk := bOf_at hx
    dsimp only at hbk
    have hgd := getD_is (d := (⟨0, 0, 0⟩ : Mt)) hx
    have HBK := Lib.hid hbk; have HGD := Lib.hid hgd; have HXW := Lib.hid hxw; clear hx hbk hgd hxw
    have hx1 : Ext wr (wr.alloc (Mt.obj ⟨x, y, z⟩)) := (Ext.refl wr).alloc _
    have HX1 := Lib.hid hx1; clear hx1
    by_cases hkm : k < ps.length
    case neg =>
      have q1 : decide (ps.length ≤ k) = true := yd (by omega)
      have hsn := selI_skip HS.out (by rw [List.getElem?_eq_none (by omega)]; simp)
      have HSN := Lib.hid hsn; clear hsn
      go_wp2_with fail
      go_roundw
      case rel => exact ⟨k + 1, s, by omega, by go_num, HSN.out, own_stab3 HX1.out HO.out, HE.out.trans HX1.out⟩
      case measure => simp [intOf]; omega
    have q1 : decide (ps.length ≤ k) = false := nd (by omega)
    obtain ⟨bb, ob, pk, hB, hbb, hp, e0⟩ := (HB.out.ext HE.out).get hkm
    subst hB
    cases pk
    case false =>
      have hsn := selI_skip HS.out (by rw [hp]; simp)
      have HSN := Lib.hid hsn; clear hsn hp
      go_wp2_with fail
      go_roundw
      case rel => exact ⟨k + 1, s, by omega, by go_num, HSN.out, own_stab3 HX1.out HO.out, HE.out.trans HX1.out⟩
      case measure => simp [intOf]; omega
    rcases snoc_or' s with rfl | ⟨r, i, rfl⟩
    · have hsn := selI_take HS.out hp (fun h => h.1 rfl)
      have HSN := Lib.hid hsn; clear hsn hp
      obtain ⟨A1, k1, rfl, -, -⟩ := ownM_mts HO.out HWF.out
      have how0 : wr.ownsRow w.heap.size 32 3 (.slice A1 0 k1) 0 [] := HO.out
      have HOW := Lib.hid how0; clear how0
      go_wp2_with fail
      go_quiet (fail)
      obtain ⟨c0, c1, c2⟩ := (Blk.new wr (Mt.obj ⟨x, y, z⟩) rfl).cells3
      go_wp2_with (at_builtin; refine wpList_append_size2 rfl (.tmp 43) (.tmp 45) 25 rfl w.heap.size 32 inf _ 3 24 underM' I1.out I2.out I3.out I4.out rfl (by decide) _ 0 _ (some ⟨((wr.alloc (Mt.obj ⟨x, y, z⟩)).drewN nq).heap.size, 0, none⟩) 1 1 (Mt.cells ⟨x, y, z⟩) rfl (by simp [Act.eval]) rfl (by simp [Mt.cells, Value.oneCell']) (by simp only [maxLen]; omega) (by omega) (own_stab3 ((HX1.out.drewN nq).alloc _) HOW.out) (Cells.new ((wr.alloc (Mt.obj ⟨x, y, z⟩)).drewN nq) _ _ rfl) (by have := HE.out.size; simp; omega) ?_; intro v' w5 hown hg hbk)
      go_roundw
      case rel =>
        have hx : Ext wr (((wr.alloc (Mt.obj ⟨x, y, z⟩)).drewN nq).alloc (.cells (Mt.cells ⟨x, y, z⟩).toArray 32)) := (HX1.out.drewN nq).alloc _
        refine ⟨k + 1, [k], by omega, by go_num, HSN.out, ?_, (HE.out.trans hx).own3 (own_stab3 hx HOW.out) hg⟩
        simp only [selM, List.map_cons, List.map_nil, HGD.out]
        simpa using hown
      case measure => simp [intOf]; omega
    · have hrk : i < k := HSK.out i (by simp)
      obtain ⟨⟨p, q, u⟩, hi⟩ : ∃ mi, l[i]? = some mi := ⟨_, List.getElem?_eq_getElem (show i < l.length by omega)⟩
      have hbi := bOf_at hi
      have hgi := getD_is (d := (⟨0, 0, 0⟩ : Mt)) hi
      dsimp only at hbi
      have hlast : ((r ++ [i]).getD ((r ++ [i]).length - 1) 0 : Nat) = i := by simp
      have hown := HO.out
      have hsel := selM_snoc l r i
      rw [hgi] at hsel
      rw [hsel] at hown HWF
      rw [List.length_append] at hsl hown
      simp only [List.length_singleton] at hsl hown
      obtain ⟨g1, k1, rfl⟩ := ownsRow_succ hown
      obtain ⟨A1, k2, hv, -, hM⟩ := ownM_mts hown HWF.out
      cases hv
      obtain ⟨bc, oc, mt, hA1, hbc, hmt, -, f0, f1, f2⟩ := hM.get (k := r.length) (by omega)
      cases hA1
      rw [List.getElem?_append_right (by rw [selM_len]; exact Nat.le_refl _), selM_len, Nat.sub_self] at hmt
      simp only [List.getElem?_cons_zero, Option.some.injEq] at hmt
      subst hmt
      simp only [Nat.zero_add] at f0 f1 f2
      have HOW := Lib.hid hown; have HSEL := Lib.hid hsel; clear hown hM HO hsel
      have e9 : IntKind.i64.wrap (((r.length + 1 : Nat) : Int) - 1) = (r.length : Int) := by rw [wrap_in (by omega) (by omega)]; omega
      have r1 : r.length < r.length + 1 := by omega
      by_cases hyq : y ≤ q
      · have q2 : decide (y ≤ q) = true := yd hyq
        have hsn := selI_bad HS.out hp ⟨by simp, by rw [hlast, hbi, HBK.out]; exact hyq⟩
        have hend := selI_none hsn (l.length - (k + 1))
        rw [show k + 1 + (l.length - (k + 1)) = l.length by omega] at hend
        have HEND := Lib.hid hend; clear hend hsn hp hlast hbi hgi hi
        go_wp2_with fail
        have c1 := ((Blk.new wr (Mt.obj ⟨x, y, z⟩) rfl).cells3).2.1
        go_quiet (fail)
        go_wp2_with fail
        refine bodyPost_ret (v := .tuple #[.slice none 0 0, .bool false]) (by simp [results, Try.results21, go_sem]) rfl ⟨.inr ⟨HEND.out, rfl⟩, (HE.out.trans HX1.out).drewN _⟩
      · have q2 : decide (y ≤ q) = false := nd hyq
        have hsn := selI_take HS.out hp (fun h => by rw [hlast, hbi, HBK.out] at h; exact hyq h.2)
        have HSN := Lib.hid hsn; clear hsn hp hlast hbi hgi hi
        go_wp2_with fail
        obtain ⟨c0, c1, c2⟩ := (Blk.new wr (Mt.obj ⟨x, y, z⟩) rfl).cells3
        go_quiet (fail)
        go_wp2_with (at_builtin; refine wpList_append_size2 rfl (.tmp 43) (.tmp 45) 25 rfl w.heap.size 32 inf _ 3 24 underM' I1.out I2.out I3.out I4.out rfl (by decide) _ (r.length + 1) _ (some ⟨((wr.alloc (Mt.obj ⟨x, y, z⟩)).drewN nq).heap.size, 0, none⟩) 1 1 (Mt.cells ⟨x, y, z⟩) rfl (by simp [Act.eval]) rfl (by simp [Mt.cells, Value.oneCell']) (by simp only [maxLen]; omega) (by omega) (own_stab3 ((HX1.out.drewN nq).alloc _) HOW.out) (Cells.new ((wr.alloc (Mt.obj ⟨x, y, z⟩)).drewN nq) _ _ rfl) (by have := HE.out.size; simp; omega) ?_; intro v' w5 hown hg hbk)
        go_roundw
        case rel =>
          have hx : Ext wr (((wr.alloc (Mt.obj ⟨x, y, z⟩)).drewN nq).alloc (.cells (Mt.cells ⟨x, y, z⟩).toArray 32)) := (HX1.out.drewN nq).alloc _
          refine ⟨k + 1, r ++ [i] ++ [k], by omega, by go_num, HSN.out, ?_, (HE.out.trans hx).own3 (own_stab3 hx HOW.out) hg⟩
          rw [selM_snoc, HSEL.out, HGD.out, List.length_append, List.length_append, List.flatMap_append]
          simpa using hown
        case measure => simp [intOf]; omega
end Go.Proofs.Ytmmhbnlafcmloaa
