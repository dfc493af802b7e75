/- Contract: treap.Of. -/
import Derived.Test.YtbjniaihkllmdaaTrProg
namespace Go.Proofs.Ytbjniaihkllmdaa
open Go.RowKit

def ofV : BT → List Pr → Option BT
  | m, [] => some m
  | m, p :: l => if (findV p.k m).isSome = true then none else ofV (putV p.k p.v m) l
theorem ofV_drop {l : List Pr} {i : Nat} {p : Pr} (h : l[i]? = some p) (m : BT) : ofV m (l.drop i) = if (findV p.k m).isSome = true then none else ofV (putV p.k p.v m) (l.drop (i + 1)) := by
  have hi : i < l.length := by rcases Nat.lt_or_ge i l.length with h' | h'; exact h'; rw [List.getElem?_eq_none h'] at h; cases h
  rw [List.drop_eq_getElem_cons hi, ofV]
  have : l[i] = p := by rw [List.getElem?_eq_getElem hi] at h; exact Option.some.inj h
  rw [this]
theorem long_drop {l : List Pr} {i : Nat} {p : Pr} (h : l[i]? = some p) : anyLong (l.drop i) = (lgB p.k p.v || anyLong (l.drop (i + 1))) := by
  have hi : i < l.length := by rcases Nat.lt_or_ge i l.length with h' | h'; exact h'; rw [List.getElem?_eq_none h'] at h; cases h
  have e : l[i] = p := by rw [List.getElem?_eq_getElem hi] at h; exact Option.some.inj h
  rw [List.drop_eq_getElem_cons hi, e]; simp [anyLong]

set_option maxRecDepth 100000
set_option maxHeartbeats 4000000
theorem of1_any (k v : ByteArray) (w : World) : Calls Try.prog 56 #[.agg #[.string k, .string v]] w fun e w' => e = .returned (.bool (lgB k v)) ∧ Ext w w' := by
  go_enter Try.func56, Try.ntmps56
  go_wp2_with fail
  refine (long_any k v _).mono ?_
  rintro e w' ⟨rfl, rfl⟩
  go_wp2_with fail
  go_ret
  exact ⟨rfl, (Ext.refl w).alloc _⟩
theorem index_any {l : List Pr} {A : Option Addr} {c : Nat} {w : World} (hp : Prs w A l.length l) (hl : l.length ≤ 1000) :
    Calls Try.prog 69 #[.slice A l.length c, .func (.func 56) #[] #[]] w fun e w' => (∃ r : Int, e = .returned (.int .i64 r) ∧ decide (0 ≤ r) = anyLong l) ∧ Ext w w' := by
  have HP := Lib.hid hp; clear hp
  obtain ⟨N, hN⟩ : ∃ N, l.length = N := ⟨_, rfl⟩
  have HN := Lib.hid hN
  rw [hN] at hl ⊢; clear hN
  go_enter Try.func69, Try.ntmps69
  go_wp2_with fail
  go_loopw [8] (fun vi wr => ∃ i : Nat, vi = .int .i64 i ∧ i ≤ N ∧ Ext w wr ∧ anyLong l = anyLong (l.drop i)) (fun vi _ => N - (intOf vi).toNat)
  case atStart => exact ⟨0, rfl, Nat.zero_le _, Ext.refl _, rfl⟩
  case round =>
    obtain ⟨i, rfl, hi, hE, ha⟩ := hrel
    have HE := Lib.hid hE; have HA := Lib.hid ha; clear hE ha
    by_cases hiN : i = N
    · have hnl : ¬ ((i : Int) < (N : Int)) := by omega
      go_wp2_with fail
      go_ret
      refine ⟨⟨-1, rfl, ?_⟩, HE.out⟩
      rw [HA.out, List.drop_eq_nil_of_le (by rw [HN.out]; omega)]; rfl
    · have hlt : ((i : Int) < (N : Int)) := by omega
      obtain ⟨b, off, p, rfl, hb, hx, hwf, c0, c1⟩ := (HP.out.ext HE.out).get (j := i) (by rw [HN.out]; omega)
      have ha := HA.out
      rw [long_drop hx] at ha
      have HA2 := Lib.hid ha; clear ha HA
      cases hz : lgB p.k p.v with
      | true =>
        have HZ := Lib.hid hz; clear hz hx hwf
        go_wp2_with fail
        refine (of1_any p.k p.v _).mono ?_
        rintro e w2 ⟨rfl, hE2⟩
        rw [HZ.out]
        have HE2 := Lib.hid (HE.out.trans hE2); clear hE2
        go_wp2_with fail
        go_ret
        refine ⟨⟨(i : Int), rfl, ?_⟩, HE2.out⟩
        rw [HA2.out, HZ.out, Bool.true_or]; simp
      | false =>
        have HZ := Lib.hid hz; clear hz hx hwf
        go_wp2_with fail
        refine (of1_any p.k p.v _).mono ?_
        rintro e w2 ⟨rfl, hE2⟩
        rw [HZ.out]
        have HE2 := Lib.hid (HE.out.trans hE2); clear hE2
        go_wp2_with fail
        go_roundw
        case rel => exact ⟨i + 1, by go_num, by omega, HE2.out, by rw [HA2.out, HZ.out, Bool.false_or]⟩
        case measure => simp [intOf]; omega
theorem contains_any {l : List Pr} {A : Option Addr} {c : Nat} {w : World} (hp : Prs w A l.length l) (hl : l.length ≤ 1000) :
    Calls Try.prog 55 #[.slice A l.length c, .func (.func 56) #[] #[]] w fun e w' => e = .returned (.bool (anyLong l)) ∧ Ext w w' := by
  go_enter Try.func55, Try.ntmps55
  go_wp2_with fail
  refine (index_any hp hl).mono ?_
  rintro e w1 ⟨⟨r, rfl, hr⟩, hE⟩
  have HR := Lib.hid hr; have HE := Lib.hid hE; clear hr hE
  go_wp2_with fail
  go_ret
  refine ⟨?_, HE.out⟩
  rw [← HR.out]; rfl

/-- What Of returns. -/
def ofR (l : List Pr) : BT × Int := if anyLong l = true then (.leaf, 4) else match ofV .leaf l with | none => (.leaf, 6) | some m => (m, 0)
theorem Of_any {l : List Pr} {A : Option Addr} {c : Nat} {w : World} (hp : Prs w A l.length l) (hl : l.length ≤ 1000) :
    Calls Try.prog 20 #[.slice A l.length c] w (Res (ofR l).1 (ofR l).2 w) := by
  have HP := Lib.hid hp; clear hp
  obtain ⟨N, hN⟩ : ∃ N, l.length = N := ⟨_, rfl⟩
  have HN := Lib.hid hN
  rw [hN] at hl ⊢; clear hN
  have hg : ¬ ((20000 : Int) < (N : Int)) := by omega
  have hcon : ∀ wx, Ext w wx → Calls Try.prog 55 #[.slice A N c, .func (.func 56) #[] #[]] wx fun e w' => e = .returned (.bool (anyLong l)) ∧ Ext wx w' := fun wx h => by
    have := contains_any (c := c) (HP.out.ext h) (by rw [HN.out]; exact hl)
    rwa [HN.out] at this
  have HC := Lib.hid hcon; clear hcon
  cases hz : anyLong l with
  | true =>
    have hv : ofR l = (.leaf, 4) := by rw [ofR, if_pos hz]
    have HV := Lib.hid hv; have HZ := Lib.hid hz; clear hv hz
    go_enter Try.func20, Try.ntmps20
    go_wp2_with fail
    refine (HC.out w (Ext.refl _)).mono ?_
    rintro e w1 ⟨rfl, hE⟩
    rw [HZ.out]
    have HE := Lib.hid hE; clear hE
    go_wp2_with fail
    refine bodyPost_ret (v := .tuple #[.slice none 0 0, .int .i64 4]) (by simp [results, Try.results20, go_sem]) rfl ?_
    rw [HV.out]
    exact ⟨none, 0, 0, rfl, MapAt.nil _ _, HE.out⟩
  | false =>
    have hv : ofR l = match ofV .leaf l with | none => (.leaf, 6) | some m => (m, 0) := by rw [ofR, if_neg (by rw [hz]; simp)]
    have HV := Lib.hid hv; have HZ := Lib.hid hz; clear hv hz
    go_enter Try.func20, Try.ntmps20
    go_wp2_with fail
    refine (HC.out w (Ext.refl _)).mono ?_
    rintro e w1 ⟨rfl, hE⟩
    rw [HZ.out]
    have HE := Lib.hid hE; clear hE
    go_wp2_with fail
    go_loopw [4, 18] (fun vm vi wr => ∃ (i : Nat) (m : BT) (B : Option Addr) (q d : Nat), vi = .int .i64 i ∧ vm = .slice B q d ∧ i ≤ N ∧ Ext w wr ∧ BAt wr m B q ∧ ofV .leaf l = ofV m (l.drop i)) (fun _ vi _ => N - (intOf vi).toNat)
    case atStart => exact ⟨0, .leaf, none, 0, 0, rfl, rfl, Nat.zero_le _, HE.out, MapAt.nil _ _, rfl⟩
    case round =>
      obtain ⟨i, m, B, q, d, rfl, rfl, hi, hE, hB, ha⟩ := hrel
      have HE := Lib.hid hE; have HA := Lib.hid ha; have HB := Lib.hid hB; clear hE ha hB
      by_cases hiN : i = N
      · have hnl : ¬ ((i : Int) < (N : Int)) := by omega
        go_wp2_with fail
        refine bodyPost_ret (v := .tuple #[.slice B q d, .int .i64 0]) (by simp [results, Try.results20, go_sem]) rfl ?_
        have : ofR l = (m, 0) := by rw [HV.out, HA.out, List.drop_eq_nil_of_le (by rw [HN.out]; omega)]; rfl
        rw [this]
        exact ⟨B, q, d, rfl, HB.out, HE.out⟩
      · have hlt : ((i : Int) < (N : Int)) := by omega
        obtain ⟨b, off, p, rfl, hb, hx, hwf, c0, c1⟩ := (HP.out.ext HE.out).get (j := i) (by rw [HN.out]; omega)
        have ha := HA.out
        rw [ofV_drop hx] at ha
        have HA2 := Lib.hid ha; have HWF := Lib.hid hwf; clear ha HA hx hwf
        obtain ⟨gx, hgx⟩ : ∃ gx, wr.heap.size = gx := ⟨_, rfl⟩
        have hbx : Blk (wr.alloc p.obj) gx p.obj := Blk.new wr _ hgx.symm
        have hEx : Ext wr (wr.alloc p.obj) := (Ext.refl wr).alloc _
        have HBX := Lib.hid hbx; have HEX := Lib.hid hEx; clear hbx hEx
        cases hf : findV p.k m with
        | some u =>
          have HF := Lib.hid hf; clear hf
          go_wp2_with fail
          refine (find_any m B q d p.k _ (HB.out.ext HEX.out)).mono ?_
          rintro e w2 ⟨rfl, hE2⟩
          rw [HF.out]
          have HE2 := Lib.hid (HE.out.trans (HEX.out.trans hE2)); clear hE2
          go_wp2_with fail
          refine bodyPost_ret (v := .tuple #[.slice none 0 0, .int .i64 6]) (by simp [results, Try.results20, go_sem]) rfl ?_
          have : ofR l = (.leaf, 6) := by rw [HV.out, HA2.out, HF.out]; rfl
          rw [this]
          exact ⟨none, 0, 0, rfl, MapAt.nil _ _, HE2.out⟩
        | none =>
          have HF := Lib.hid hf; clear hf
          go_wp2_with fail
          refine (find_any m B q d p.k _ (HB.out.ext HEX.out)).mono ?_
          rintro e w2 ⟨rfl, hE2⟩
          rw [HF.out]
          have hbx2 := HBX.out.ext hE2
          have d0 := hbx2.cell 0; have d1 := hbx2.cell 1
          simp only [List.getElem?_toArray, List.getElem?_cons_zero, List.getElem?_cons_succ] at d0 d1
          have HE2 := Lib.hid (HE.out.trans (HEX.out.trans hE2)); have HB2 := Lib.hid ((HB.out.ext HEX.out).ext hE2); clear hE2 hbx2 c0 c1
          go_wp2_with fail
          refine (put_any p.k p.v HWF.out.1 HWF.out.2 m B q d w2 HB2.out).mono ?_
          rintro e w3 ⟨A1, n1, c1, rfl, hG, hE3⟩
          have HE3 := Lib.hid (HE2.out.trans hE3); have HG := Lib.hid hG; clear hE3 hG d0 d1
          go_wp2_with fail
          go_roundw
          case rel => exact ⟨i + 1, _, A1, n1, c1, by go_num, rfl, by omega, HE3.out, HG.out, by rw [HA2.out, HF.out]; rfl⟩
          case measure => simp [intOf]; omega
end Go.Proofs.Ytbjniaihkllmdaa
