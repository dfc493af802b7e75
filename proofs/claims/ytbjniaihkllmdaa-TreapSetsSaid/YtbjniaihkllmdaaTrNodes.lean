/- The iterator over the nodes of a tree. -/
import Derived.Test.YtbjniaihkllmdaaTrRCheck
import Derived.Test.YtbjniaihkllmdaaPaRng
import Derived.Test.YtbjniaihkllmdaaHiIter
import Derived.Test.YtbjniaihkllmdaaHiIn
import Derived.Laws.EntriesVeiled
namespace Go.Proofs.Ytbjniaihkllmdaa
open Go.RowKit

def PreT (X : Nat → Prop) (w0 : World) (S : Nat → Prop) (W : World) : Prop := Lv X w0 W ∧ ∀ g, g < w0.heap.size → S g → X g
/-- A node. -/
structure Nod where
  l : BT
  k : ByteArray
  v : ByteArray
  r : BT
/-- The nodes in order. -/
def nodesV : BT → List Nod
  | .leaf => []
  | .node l k v r => nodesV l ++ [⟨l, k, v, r⟩] ++ nodesV r
/-- What is yielded: the map at a node, and the node. -/
def EncN (w : World) (x : Nod) (vs : Array Value) (_ : Nat → Prop) (_ : World) : Prop :=
  ∃ A n c Al nl cl Ar nr cr, vs = #[.slice A n c, .agg #[.string x.k, .string x.v, .slice Al nl cl, .slice Ar nr cr]] ∧ BAt w x.l Al nl ∧ BAt w x.r Ar nr ∧ x.k.size ≤ Reach ∧ x.v.size ≤ Reach
abbrev walkF (gw : Nat) : Value := .func (.func 63) #[] #[.pointer (some ⟨gw, 0, none⟩)]
abbrev walkObj (gw : Nat) : Obj := .cells #[walkF gw] 74
abbrev boxM (A : Option Addr) (n c : Nat) : Obj := .cells #[.slice A n c] 23
abbrev nodesF (gw gm : Nat) : Value := .func (.func 64) #[] #[.pointer (some ⟨gw, 0, none⟩), .pointer (some ⟨gm, 0, none⟩)]
theorem nodes_any (A : Option Addr) (n c : Nat) (w : World) :
    Calls Try.prog 45 #[.slice A n c] w fun e w' => e = .returned (nodesF (w.heap.size + 1) w.heap.size) ∧ Ext w w' ∧ w'.heap.size = w.heap.size + 2 ∧ Blk w' w.heap.size (boxM A n c) ∧ Blk w' (w.heap.size + 1) (walkObj (w.heap.size + 1)) := by
  go_enter Try.func45, Try.ntmps45
  go_wp2_with fail
  go_ret
  exact ⟨rfl, ((Ext.refl w).alloc _).alloc _, by simp, (Blk.new w _ rfl).alloc _, Blk.new (w.alloc _) _ (by simp)⟩
set_option maxRecDepth 100000 in
set_option maxHeartbeats 8000000 in
theorem walk_any (ly : Nat) (J Jx : List Nod → (Nat → Prop) → World → Prop) (xs : List Nod) (w w0 : World) (N : Nat) (X : Nat → Prop) (gw : Nat) (hKn : ∀ W, Lv X w0 W → Blk W gw (walkObj gw) ∧ Ext w W) (hJ : ∀ pre S W W', J pre S W → Ext W W' → J pre S W')
    (hY : ∀ pre x vs S1 W1, J pre S1 W1 → (pre ++ [x]) <+: xs → EncN w x vs S1 W1 → Round Try.prog ly vs J Jx (pre ++ [x]) S1 W1) :
    ∀ (t : BT) (A : Option Addr) (n c : Nat) (pre : List Nod) (S : Nat → Prop) (W : World), BAt w t A n → J pre S W → PreT X w0 S W → (∀ g, S g → g < W.heap.size) → N ≤ W.heap.size → (pre ++ nodesV t) <+: xs →
      Calls Try.prog 63 #[.slice A n c, .func (.yield ly) #[] #[], .pointer (some ⟨gw, 0, none⟩)] W fun e W' =>
        (e = .returned (.bool true) ∧ ∃ S', J (pre ++ nodesV t) S' W' ∧ PreT X w0 S' W' ∧ (∀ g, S' g → g < W'.heap.size) ∧ N ≤ W'.heap.size ∧ Lv S W W' ∧ (∀ g, S' g → S g ∨ W.heap.size ≤ g)) ∨ (e = .returned (.bool false) ∧ ∃ pre' S', pre' <+: xs ∧ Jx pre' S' W')
  | .leaf, A, n, c, pre, S, W, hm, h0, hP, hS, hN, hpx => by
    obtain rfl := hm.leaf
    have H0 := Lib.hid h0; have HP := Lib.hid hP; have HS := Lib.hid hS; clear h0 hP hS hJ hY hKn hm hpx
    go_enter Try.func63, Try.ntmps63
    go_wp2_with fail
    go_ret
    exact .inl ⟨rfl, S, by simpa [nodesV] using H0.out, HP.out, HS.out, hN, Lv.refl _ _, fun g h => .inl h⟩
  | .node l k v r, A, n, c, pre, S, W, hm, h0, hP, hS, hN, hpx => by
    have IHL := walk_any ly J Jx xs w w0 N X gw hKn hJ hY l
    have IHR := walk_any ly J Jx xs w w0 N X gw hKn hJ hY r
    obtain ⟨hbw, hEw⟩ := hKn W hP.1
    obtain ⟨b, off, Al, nl, cl, Ar, nr, cr, rfl, rfl, hb, hks, c0, c1, c2, c3, hl, hr⟩ := hm.node
    replace c0 := hEw.cell c0; replace c1 := hEw.cell c1; replace c2 := hEw.cell c2; replace c3 := hEw.cell c3
    replace hb := Nat.lt_of_lt_of_le hb hEw.size
    have q0 := hbw.cell 0
    replace q0 : W.cell? ⟨gw, 0, none⟩ = some (walkF gw) := q0
    have hgw := hbw.lt
    have hgx : gw ≠ W.heap.size := by omega
    have H0 := Lib.hid h0; have HP := Lib.hid hP; have HS := Lib.hid hS; have HJ := Lib.hid hJ; have HY := Lib.hid hY; have HK := Lib.hid hKn; have HM := Lib.hid hm; have HPX := Lib.hid hpx; have HIL := Lib.hid IHL; have HIR := Lib.hid IHR; have HL := Lib.hid hl; have HR := Lib.hid hr; have HKS := Lib.hid hks
    clear h0 hP hS hJ hY hKn hm hpx IHL IHR hl hr hks hbw hEw
    go_enter Try.func63, Try.ntmps63
    refine wp_of_In ?_
    gi_wp2
    obtain ⟨gx, hgx2⟩ : ∃ gx, gx = W.heap.size := ⟨_, rfl⟩
    obtain ⟨Wa, hWa, hba, hEa⟩ : ∃ Wa, Wa = W.alloc (nodeObj k v Al nl cl Ar nr cr) ∧ Blk Wa gx (nodeObj k v Al nl cl Ar nr cr) ∧ Ext W Wa := ⟨_, rfl, Blk.new W _ hgx2, (Ext.refl W).alloc _⟩
    rw [← hWa, ← hgx2]
    have hsa : Wa.heap.size = W.heap.size + 1 := by rw [hWa]; simp
    have hJa := HJ.out _ _ _ _ H0.out hEa
    have hPa : PreT X w0 S Wa := ⟨HP.out.1.ext hEa, HP.out.2⟩
    have hSa : ∀ g, S g → g < Wa.heap.size := fun g h => Nat.lt_of_lt_of_le (HS.out g h) hEa.size
    have hpl : (pre ++ nodesV l) <+: xs := by
      refine List.IsPrefix.trans ?_ HPX.out
      rw [nodesV]; exact ⟨[⟨l, k, v, r⟩] ++ nodesV r, by simp [List.append_assoc]⟩
    have hpm : (pre ++ nodesV l ++ [(⟨l, k, v, r⟩ : Nod)]) <+: xs := by
      refine List.IsPrefix.trans ?_ HPX.out
      rw [nodesV]; exact ⟨nodesV r, by simp [List.append_assoc]⟩
    have hpr : (pre ++ nodesV l ++ [(⟨l, k, v, r⟩ : Nod)] ++ nodesV r) <+: xs := by
      have h := HPX.out; rw [nodesV] at h; simpa [List.append_assoc] using h
    have hnx : ¬ S gx := fun h => by have := HS.out _ h; omega
    have HPM := Lib.hid hpm; have HPR := Lib.hid hpr; have HBA := Lib.hid hba; have HEA := Lib.hid hEa; have HSA := Lib.hid hsa; have HNX := Lib.hid hnx; have HGX := Lib.hid hgx2
    clear hpm hpr hba hEa hsa hnx hWa hgx2
    refine ⟨trivial, rfl, callsIn_wide.2 ((HIL.out Al nl cl pre S Wa HL.out hJa hPa hSa (by have := HSA.out; omega) hpl).mono ?_)⟩
    clear hJa hPa hSa hpl c0 c1 c2 c3 q0 hgw hgx hb
    rintro e W1 (⟨rfl, S1, hJ1, hP1, hS1, hN1, hv1, hs1⟩ | ⟨rfl, pre', S', hpx', hJx⟩)
    case inr =>
      have HX := Lib.hid hJx; have HPX' := Lib.hid hpx'; clear hJx hpx'
      gi_wp2
      refine ⟨nofun, ?_⟩
      gi_wp2
      go_ret
      exact .inr ⟨rfl, pre', S', HPX'.out, HX.out⟩
    case inl =>
      have hb1 := HBA.out.lv hv1 HNX.out
      have hnx1 : ¬ S1 gx := fun h => by
        rcases hs1 _ h with h | h
        · exact HNX.out h
        · have := HSA.out; have := HGX.out; omega
      have hR := HY.out _ (⟨l, k, v, r⟩ : Nod) #[.slice (some ⟨b, off, none⟩) 1 c, .agg #[.string k, .string v, .slice Al nl cl, .slice Ar nr cr]] S1 W1 hJ1 HPM.out ⟨_, _, _, _, _, _, _, _, _, rfl, HL.out, HR.out, HKS.out.1, HKS.out.2⟩
      have HR1 := Lib.hid hR; have HP1 := Lib.hid hP1; have HS1 := Lib.hid hS1; have HV1 := Lib.hid hv1; have HSS1 := Lib.hid hs1; have HB1 := Lib.hid hb1; have HNX1 := Lib.hid hnx1
      clear hR hP1 hS1 hv1 hs1 hb1 hnx1 hJ1
      obtain ⟨fn, tmps, assign, body, hy, hRR⟩ := HR1.out
      obtain ⟨c0, c1, c2, c3⟩ := HB1.out.cells4
      gi_wp2
      refine ⟨rfl, hRR.mono ?_⟩
      rintro e W2 ⟨S2, hv2, hs2, hz2, (⟨rfl, hJ2⟩ | ⟨rfl, hJx2⟩)⟩
      case inr =>
        clear hy hRR c0 c1 c2 c3
        have HX := Lib.hid hJx2; clear hv2 hs2 hz2 hJx2
        gi_wp2
        refine ⟨nofun, ?_⟩
        gi_wp2
        go_ret
        exact .inr ⟨rfl, _, _, HPM.out, HX.out⟩
      case inl =>
        have hb2 := HB1.out.lv hv2 HNX1.out
        have hP2 : PreT X w0 S2 W2 := ⟨HP1.out.1.trans hv2 (fun g hg h => HP1.out.2 g hg h), fun h hh hs => (hs2 h hs).elim (fun h' => HP1.out.2 h hh h') (fun h' => by have := HP1.out.1.size; omega)⟩
        obtain ⟨hbw, -⟩ := HK.out W2 hP2.1
        have q0 := hbw.cell 0
        replace q0 : W2.cell? ⟨gw, 0, none⟩ = some (walkF gw) := q0
        have hgw := hbw.lt
        have hgx := hb2.lt
        have hv12 : Lv S Wa W2 := HV1.out.trans hv2 (fun g hg h => by
          rcases HSS1.out g h with h | h
          · exact h
          · omega)
        have hs12 : ∀ g, S2 g → S g ∨ Wa.heap.size ≤ g := fun g h => by
          rcases hs2 g h with h | h
          · exact HSS1.out g h
          · have := HV1.out.size; exact .inr (by omega)
        have HP2 := Lib.hid hP2; have HJ2 := Lib.hid hJ2; have HZ2 := Lib.hid hz2; have HV12 := Lib.hid hv12; have HS12 := Lib.hid hs12
        clear hy hRR c0 c1 c2 c3 hv2 hs2 hz2 hJ2 hP2 hbw hv12 hs12
        obtain ⟨c0, c1, c2, c3⟩ := hb2.cells4
        clear hb2
        gi_wp2
        refine ⟨trivial, rfl, callsIn_wide.2 ((HIR.out Ar nr cr _ S2 W2 HR.out HJ2.out HP2.out HZ2.out (by have := HSA.out; have := HV12.out.size; omega) HPR.out).mono ?_)⟩
        clear c0 c1 c2 c3 q0 hgw hgx
        rintro e W3 (⟨rfl, S3, hJ3, hP3, hS3, hN3, hv3, hs3⟩ | ⟨rfl, pre', S', hpx', hJx⟩)
        case inr =>
          have HX := Lib.hid hJx; have HPX' := Lib.hid hpx'; clear hJx hpx'
          gi_wp2
          go_ret
          exact .inr ⟨rfl, pre', S', HPX'.out, HX.out⟩
        case inl =>
          have hv13 : Lv S Wa W3 := HV12.out.trans hv3 (fun g hg h => by
            rcases HS12.out g h with h | h
            · exact h
            · omega)
          have hv03 : Lv S W W3 := (Lv.of_ext (S := S) HEA.out).trans hv13 (fun g _ h => h)
          have hs03 : ∀ g, S3 g → S g ∨ W.heap.size ≤ g := fun g h => by
            have h1 := HSA.out; have h2 := HV12.out.size
            rcases hs3 g h with h | h
            · rcases HS12.out g h with h | h
              · exact .inl h
              · exact .inr (by omega)
            · exact .inr (by omega)
          have HJ3 := Lib.hid hJ3; have HP3 := Lib.hid hP3; have HS3 := Lib.hid hS3; have HV03 := Lib.hid hv03; have HS03 := Lib.hid hs03
          clear hJ3 hP3 hS3 hv3 hs3 hv13 hv03 hs03
          gi_wp2
          go_ret
          refine .inl ⟨rfl, S3, ?_, HP3.out, HS3.out, hN3, HV03.out, HS03.out⟩
          have h9 := HJ3.out
          rw [nodesV]
          simpa [List.append_assoc] using h9

set_option maxRecDepth 100000 in
set_option maxHeartbeats 8000000 in
theorem nodes_iter (b : BT) (A : Option Addr) (n c gw gm : Nat) (X : Nat → Prop) (w w0 : World) (hKn : ∀ W, Lv X w0 W → Blk W gw (walkObj gw) ∧ Blk W gm (boxM A n c) ∧ Ext w W) (hb : BAt w b A n) :
    Iter2 Try.prog 64 #[.pointer (some ⟨gw, 0, none⟩), .pointer (some ⟨gm, 0, none⟩)] (EncN w) (nodesV b) (PreT X w0) := by
  intro ly J Jx S W hP hSz hJ hJx hY h0
  obtain ⟨k1, k2, -⟩ := hKn W hP.1
  have q0 := k1.cell 0
  replace q0 : W.cell? ⟨gw, 0, none⟩ = some (walkF gw) := q0
  have q1 := k2.cell 0
  replace q1 : W.cell? ⟨gm, 0, none⟩ = some (.slice A n c) := q1
  have hw := walk_any ly J Jx (nodesV b) w w0 W.heap.size X gw (fun W hv => ⟨(hKn W hv).1, (hKn W hv).2.2⟩) (fun pre S W W' h e => hJ pre S W W' h (Lv.of_ext e)) hY b A n c [] S W hb h0 hP hSz (Nat.le_refl _) (by rw [List.nil_append]; exact List.prefix_refl _)
  have HW := Lib.hid hw; clear hw hP hSz hJ hJx hY h0 hKn hb k1 k2
  refine callsIn_wide.2 ?_
  simp only [List.append_toArray, List.cons_append, List.nil_append]
  go_enter Try.func64, Try.ntmps64
  go_wp2_with fail
  refine HW.out.mono ?_
  clear HW q0 q1
  rintro e W3 (⟨rfl, S3, hJ3, -⟩ | ⟨rfl, pre', S', hpx', hJx⟩)
  · have HJ3 := Lib.hid hJ3; clear hJ3
    go_wp2_with fail
    refine bodyPost_end (results_none rfl _ _ _) rfl ?_
    exact ⟨⟨_, rfl⟩, .inl ⟨S3, by have h := HJ3.out; rwa [List.nil_append] at h⟩⟩
  · have HX := Lib.hid hJx; have HPX' := Lib.hid hpx'; clear hJx hpx'
    go_wp2_with fail
    refine bodyPost_end (results_none rfl _ _ _) rfl ?_
    exact ⟨⟨_, rfl⟩, .inr ⟨pre', S', HPX'.out, HX.out⟩⟩
set_option maxRecDepth 100000 in
set_option maxHeartbeats 8000000 in
theorem nodes_iterA (b : BT) (A : Option Addr) (n c gw gm : Nat) (X : Nat → Prop) (w w0 : World) (hKn : ∀ W, Lv X w0 W → Blk W gw (walkObj gw) ∧ Blk W gm (boxM A n c) ∧ Ext w W) (hb : BAt w b A n) :
    Iter Try.prog 64 #[.pointer (some ⟨gw, 0, none⟩), .pointer (some ⟨gm, 0, none⟩)] (EncN w) (nodesV b) (fun _ => False) (PreT X w0) := by
  intro ly J Jx S W hP hSz hJ hJx hY h0
  obtain ⟨k1, k2, -⟩ := hKn W hP.1
  have q0 := k1.cell 0
  replace q0 : W.cell? ⟨gw, 0, none⟩ = some (walkF gw) := q0
  have q1 := k2.cell 0
  replace q1 : W.cell? ⟨gm, 0, none⟩ = some (.slice A n c) := q1
  have hw := walk_any ly J Jx (nodesV b) w w0 W.heap.size X gw (fun W hv => ⟨(hKn W hv).1, (hKn W hv).2.2⟩) (fun pre S W W' h e => hJ pre S W W' h (Lv.of_ext e)) hY b A n c [] S W hb h0 hP hSz (Nat.le_refl _) (by rw [List.nil_append]; exact List.prefix_refl _)
  have HW := Lib.hid hw; clear hw hP hSz hJ hJx hY h0 hKn hb k1 k2
  refine callsIn_wide.2 ?_
  simp only [List.append_toArray, List.cons_append, List.nil_append]
  go_enter Try.func64, Try.ntmps64
  go_wp2_with fail
  refine HW.out.mono ?_
  clear HW q0 q1
  rintro e W3 (⟨rfl, S3, hJ3, -⟩ | ⟨rfl, pre', S', hpx', hJx⟩)
  · have HJ3 := Lib.hid hJ3; clear hJ3
    go_wp2_with fail
    refine bodyPost_end (results_none rfl _ _ _) rfl ?_
    exact ⟨⟨_, rfl⟩, .inl ⟨S3, by have h := HJ3.out; rwa [List.nil_append] at h⟩⟩
  · have HX := Lib.hid hJx; have HPX' := Lib.hid hpx'; clear hJx hpx'
    go_wp2_with fail
    refine bodyPost_end (results_none rfl _ _ _) rfl ?_
    exact ⟨⟨_, rfl⟩, .inr ⟨pre', S', HPX'.out, HX.out⟩⟩

/-- What lies in cells stands while blocks without cells turn. -/
theorem cell_nc {w w' : World} {P : Nat → Prop} {p : Addr} {v : Value} (k : Lv (fun g => P g ∧ NC w g) w w') (h : w.cell? p = some v) : w'.cell? p = some v := by
  have hb : ∃ o, w.heap[p.block]? = some o ∧ o.isCells = true := by
    unfold World.cell? at h
    cases hh : w.heap[p.block]? with
    | none => simp [hh] at h
    | some o => cases o <;> simp [hh] at h <;> exact ⟨_, rfl, rfl⟩
  obtain ⟨o, ho, hc⟩ := hb
  have hlt : p.block < w.heap.size := by
    rcases Nat.lt_or_ge p.block w.heap.size with h | h
    · exact h
    · rw [Array.getElem?_eq_none h] at ho; cases ho
  have := k.2 p.block hlt (fun ⟨_, o', ho', hn⟩ => by rw [ho] at ho'; cases ho'; rw [hc] at hn; cases hn)
  unfold World.cell? at h ⊢
  rw [this]; exact h
theorem Row.nc {w w' : World} {P : Nat → Prop} (e : Lv (fun g => P g ∧ NC w g) w w') : ∀ {t : MT} {b off : Nat}, Row w t b off → Row w' t b off
  | .nil, _, _, _ => trivial
  | .cons k v l r rest, b, off, ⟨h0, h1, h2, ⟨A, n, c, a1, a2, a3, a4⟩, ⟨B, m, d, b1, b2, b3, b4⟩, h5⟩ => by
    refine ⟨h0, cell_nc e h1, cell_nc e h2, ⟨A, n, c, cell_nc e a1, a2, a3, ?_⟩, ⟨B, m, d, cell_nc e b1, b2, b3, ?_⟩, Row.nc e h5⟩
    · rcases a4 with h | ⟨b', off', g1, g2, g3⟩
      · exact .inl h
      · exact .inr ⟨b', off', g1, Nat.lt_of_lt_of_le g2 e.size, Row.nc e g3⟩
    · rcases b4 with h | ⟨b', off', g1, g2, g3⟩
      · exact .inl h
      · exact .inr ⟨b', off', g1, Nat.lt_of_lt_of_le g2 e.size, Row.nc e g3⟩
theorem MapAt.nc {w w' : World} {P : Nat → Prop} {t : MT} {A : Option Addr} {n : Nat} (h : MapAt w t A n) (e : Lv (fun g => P g ∧ NC w g) w w') : MapAt w' t A n := by
  refine ⟨h.1, h.2.1, ?_⟩
  rcases h.2.2 with h | ⟨b, off, h1, h2, h3⟩
  · exact .inl h
  · exact .inr ⟨b, off, h1, Nat.lt_of_lt_of_le h2 e.size, h3.nc e⟩
end Go.Proofs.Ytbjniaihkllmdaa
