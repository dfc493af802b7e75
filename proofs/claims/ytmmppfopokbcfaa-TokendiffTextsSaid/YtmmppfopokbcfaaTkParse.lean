/- Contract: Parse. -/
import Derived.Test.YtmmppfopokbcfaaTkIns
namespace Go.Proofs.Ytmmppfopokbcfaa
open Go.RowKit

/-- What is read behind a bracket. -/
def inG (k : Int) (q : Bs) : Option (List Pc) :=
  if (textL (q.drop 2)).1.getLast? = some (endc k) ∧ (textL (q.drop 2)).2.head? = some (closec k) then
    (pG ((textL (q.drop 2)).2.drop 1)).map fun l => ⟨k, mkS (textL (q.drop 2)).1.dropLast⟩ :: l
  else none
theorem pG_end {s : Bs} (h : (textL s).2 = []) : pG s = some (preV (textL s).1) := by rw [pG_step, if_pos h]
theorem pG_bad {s : Bs} (h : (textL s).2 ≠ []) (h0 : opn (textL s).2 = 0) : pG s = none := by rw [pG_step, if_neg h, if_pos h0]
theorem pG_in {s : Bs} (h0 : opn (textL s).2 ≠ 0) : pG s = (inG (opn (textL s).2) (textL s).2).map fun l => preV (textL s).1 ++ l := by
  have h : (textL s).2 ≠ [] := by intro e; rw [e] at h0; exact h0 rfl
  rw [pG_step, if_neg h, if_neg h0]
  unfold inG
  split
  · rw [Option.map_map]; rfl
  · rfl
theorem inG_yes {k : Int} {q u v : Bs} (hu : textL (q.drop 2) = (u, v)) (h : closeB k u v) : inG k q = (pG (v.drop 1)).map fun l => ⟨k, mkS u.dropLast⟩ :: l := by
  have h' : u.getLast? = some (endc k) ∧ v.head? = some (closec k) := h
  unfold inG; rw [hu]; dsimp only; rw [if_pos h']
theorem inG_no {k : Int} {q u v : Bs} (hu : textL (q.drop 2) = (u, v)) (h : ¬ closeB k u v) : inG k q = none := by
  have h' : ¬ (u.getLast? = some (endc k) ∧ v.head? = some (closec k)) := h
  unfold inG; rw [hu]; dsimp only; rw [if_neg h']
/-- Where the loop over the states stands. -/
def At (g : Nat) (s : ByteArray) (v6 : Value) (rest : ByteArray) (L : List Pc) (w : World) : Prop :=
  (v6 = outV g ∧ (pG rest.data.toList).map (fun l => L ++ l) = pG s.data.toList) ∨
  (∃ kb pb, v6 = inV kb pb ∧ opn rest.data.toList ≠ 0 ∧ Boxes g kb pb (opn rest.data.toList) w ∧ (inG (opn rest.data.toList) rest.data.toList).map (fun l => L ++ l) = pG s.data.toList) ∨
  (v6 = .nilFunc ∧ rest.size = 0 ∧ pG s.data.toList = some L)
def fnM : Value → Nat
  | .func (.func n) _ _ => if n = 53 then 1 else 0
  | _ => 0
/-- How much is left. -/
def leftM (g : Nat) (v6 : Value) (w : World) : Nat := 2 * strLen ((w.cell? ⟨g, 0, none⟩).getD (.bool true)) + fnM v6
theorem leftM_of {g base : Nat} {rest : ByteArray} {L : List Pc} {w : World} (h : PSt g base rest L w) (v : Value) : leftM g v w = 2 * rest.size + fnM v := by
  obtain ⟨v1, hb, -⟩ := h
  have c0 := hb.cell 0
  replace c0 : w.cell? ⟨g, 0, none⟩ = some (.string rest) := c0
  unfold leftM
  rw [c0]; rfl
theorem pre_wf {t : Bs} {n : Nat} (h : t.length ≤ n) (hn : n ≤ 100000) : ∀ x ∈ preV t, x.wf := by
  intro x hx
  unfold preV at hx
  split at hx
  · cases hx
  · obtain rfl := List.mem_singleton.1 hx
    exact ⟨⟨by dsimp only; omega, by dsimp only; omega⟩, by unfold Reach; dsimp only; rw [mkS_size]; omega⟩
theorem pre_len (t : Bs) : (preV t).length ≤ t.length := by
  unfold preV
  split
  · simp
  · have : t.length ≠ 0 := fun e => by simp_all
    simp; omega
theorem pre_rend (t : Bs) : (rendL (preV t)).length ≤ 2 * t.length := by
  unfold preV
  split
  · simp [rendL]
  · have := (quote_len t).2
    rw [rend_cons]
    simp only [lead, trail, mkS_data, rendL, List.flatMap_nil, List.append_nil]
    simpa using this
theorem one_rend (k : Int) (t : Bs) : (rendL [⟨k, mkS t⟩]).length ≤ 4 + 2 * t.length := by
  have := (quote_len t).2
  have h1 := lead_size k
  have h2 := trail_size k
  rw [mkS_size] at h1 h2
  rw [rend_cons]
  simp only [mkS_data, rendL, List.flatMap_nil, List.append_nil, List.length_append]
  omega

theorem eq_out (g : Nat) (w : World) : (Op.equal 86 (outV g) Value.nilFunc).run Try.prog w = .ok false w := by
  unfold Op.equal
  rw [show Op.maxDepth = 9999 + 1 from rfl, Op.equalIn]
  simp [outV, run_underlying Try.underlying86]
theorem eq_in (kb pb : Nat) (w : World) : (Op.equal 86 (inV kb pb) Value.nilFunc).run Try.prog w = .ok false w := by
  unfold Op.equal
  rw [show Op.maxDepth = 9999 + 1 from rfl, Op.equalIn]
  simp [inV, run_underlying Try.underlying86]
theorem eq_nil (w : World) : (Op.equal 86 Value.nilFunc Value.nilFunc).run Try.prog w = .ok true w := by
  unfold Op.equal
  rw [show Op.maxDepth = 9999 + 1 from rfl, Op.equalIn]
  simp [run_underlying Try.underlying86]
theorem ne_out (g : Nat) (w : World) : (binOp BinOp.neq 86 (outV g) Value.nilFunc).run Try.prog w = .ok (.bool true) w := by
  have h := eq_out g w
  simp only [binOp, outV] at h ⊢
  simp [h]
theorem ne_in (kb pb : Nat) (w : World) : (binOp BinOp.neq 86 (inV kb pb) Value.nilFunc).run Try.prog w = .ok (.bool true) w := by
  have h := eq_in kb pb w
  simp only [binOp, inV] at h ⊢
  simp [h]
theorem ne_nil (w : World) : (binOp BinOp.neq 86 Value.nilFunc Value.nilFunc).run Try.prog w = .ok (.bool false) w := by
  have h := eq_nil w
  simp only [binOp]
  simp [h]
set_option maxRecDepth 100000 in
set_option maxHeartbeats 16000000 in
theorem parse_any (s : ByteArray) (w : World) (hs : s.size ≤ 10000) :
    Calls Try.prog 27 #[.string s] w fun e w' => Ext w w' ∧
      ((parseV s = none ∧ e = .returned (.tuple #[.slice none 0 0, .int .i64 3])) ∨
       ∃ l A c, parseV s = some l ∧ e = .returned (.tuple #[.slice A l.length c, .int .i64 0]) ∧ l.length ≤ c ∧ Pcs w' A l.length l) := by
  obtain ⟨g, hg⟩ : ∃ g, w.heap.size = g := ⟨_, rfl⟩
  have hb0 := Blk.new w (.cells #[.string s, .slice none 0 0] 84) hg.symm
  have HB0 := Lib.hid hb0; have HG := Lib.hid hg; clear hb0
  have HE0 := Lib.hid ((Ext.refl w).alloc (.cells #[.string s, .slice none 0 0] 84))
  go_enter Try.func27, Try.ntmps27
  go_wp2_with fail
  go_loopw [5, 6] (fun v5 v6 wr => v5 = .bool true ∧ ∃ (rest : ByteArray) (L : List Pc), PSt g g rest L wr ∧ At g s v6 rest L wr ∧ L.length + rest.size ≤ s.size ∧ (∀ x ∈ L, x.wf) ∧ (rendL L).length + 6 * rest.size ≤ 6 * s.size ∧ Below g w wr) (fun _ v6 wr => leftM g v6 wr)
  case atStart =>
    refine ⟨rfl, s, [], ⟨_, HB0.out, World.ownsRow_nil _ _ _ _⟩, .inl ⟨by first | rfl | simp, ?_⟩, by simp, by simp, by simp [rendL], by rw [← HG.out]; exact HE0.out⟩
    cases pG s.data.toList <;> rfl
  case round =>
    obtain ⟨rfl, rest, L, hP, hA, hL, hW, hR, hBel⟩ := hrel
    have HP := Lib.hid hP; have HW := Lib.hid hW; have HBel := Lib.hid hBel; clear hP hW hBel
    rcases hA with ⟨rfl, hr⟩ | ⟨kb, pb, rfl, ho, hX, hr⟩ | ⟨rfl, h0, hr⟩
    · have HR := Lib.hid hr; clear hr
      have hle := (textL_le rest.data.toList).2
      rw [← size_len] at hle
      obtain ⟨t, ht⟩ : ∃ t, (textL rest.data.toList).1 = t := ⟨_, rfl⟩
      obtain ⟨q, hq⟩ : ∃ q, (textL rest.data.toList).2 = q := ⟨_, rfl⟩
      have HT := Lib.hid ht; have HQ := Lib.hid hq
      rw [ht, hq] at hle
      clear ht hq
      have hpl := pre_len t
      have hpr := pre_rend t
      have hpw := pre_wf (t := t) (n := 10000) (by omega) (by omega)
      have HPW := Lib.hid hpw; clear hpw
      have hwf2 : ∀ x ∈ L ++ preV t, x.wf := fun x hx => (List.mem_append.1 hx).elim (HW.out x) (HPW.out x)
      have HW2 := Lib.hid hwf2; clear hwf2
      have hne := ne_out g wr
      dsimp only [outV] at hne ⊢
      go_wp2_with fail
      refine (outside_any g g rest L wr HP.out (Nat.le_refl _) (by omega) (by omega)).mono ?_
      rintro e w2 ⟨hB2, h⟩
      have HBel2 := Lib.hid (Below.trans HBel.out hB2); clear hB2
      rw [HT.out, HQ.out] at h
      rcases h with ⟨hq0, rfl, hP2⟩ | ⟨kb, pb, ho, rfl, hP2, hX2⟩ | ⟨hq0, ho, rfl⟩
      · have hs2 : pG s.data.toList = some (L ++ preV t) := by rw [← HR.out, pG_end (by rw [HQ.out]; exact hq0), HT.out]; rfl
        have HS2 := Lib.hid hs2; have HP2 := Lib.hid hP2; clear hs2 hP2 hq0
        go_wp2_with fail
        go_roundw
        case rel => exact ⟨rfl, mkS [], L ++ preV t, HP2.out, .inr (.inr ⟨rfl, rfl, HS2.out⟩), by rw [List.length_append, mkS_size]; simp; omega, HW2.out, by rw [rend_app, List.length_append, mkS_size]; simp; omega, HBel2.out⟩
        case measure =>
          rw [leftM_of HP.out, leftM_of HP2.out]
          simp [fnM, mkS_size]
      · have hs2 : (inG (opn q) q).map (fun l => (L ++ preV t) ++ l) = pG s.data.toList := by
          rw [← HR.out, pG_in (by rw [HQ.out]; exact ho), HT.out, HQ.out, Option.map_map]
          congr 1
          funext l; simp
        have HS2 := Lib.hid hs2; have HP2 := Lib.hid hP2; have HX2 := Lib.hid hX2; have HO2 := Lib.hid ho; clear hs2 hP2 hX2 ho
        go_wp2_with fail
        go_roundw
        case rel => exact ⟨rfl, mkS q, L ++ preV t, HP2.out, .inr (.inl ⟨kb, pb, rfl, HO2.out, HX2.out, HS2.out⟩), by rw [List.length_append, mkS_size]; omega, HW2.out, by rw [rend_app, List.length_append, mkS_size]; omega, HBel2.out⟩
        case measure =>
          rw [leftM_of HP.out, leftM_of HP2.out, mkS_size]
          simp [fnM]
          omega
      · have hn : parseV s = none := by
          unfold parseV
          rw [← HR.out, pG_bad (by rw [HQ.out]; exact hq0) (by rw [HQ.out]; exact ho)]; rfl
        have HN := Lib.hid hn; clear hn hq0 ho
        go_wp2_with fail
        go_ret2
        exact ⟨by show Below w.heap.size _ _; rw [HG.out]; exact HBel2.out, .inl ⟨HN.out, rfl⟩⟩
    · have h2 := opn_len ho
      rw [← size_len] at h2
      rcases (opn_or rest.data.toList) with hk | hk | hk
      · exact absurd hk ho
      · skip
        have hkk : opn rest.data.toList = 1 := hk
        rw [hkk] at hr hX
        have HR := Lib.hid hr; have HX := Lib.hid hX; clear hr hX
        obtain ⟨uv, huv⟩ : ∃ uv, textL (rest.data.toList.drop 2) = uv := ⟨_, rfl⟩
        obtain ⟨u, v⟩ := uv
        have hle := (textL_le (rest.data.toList.drop 2)).2
        rw [huv, List.length_drop, ← size_len] at hle
        dsimp only at hle
        have HUV := Lib.hid huv; clear huv hk hkk ho
        have hne := ne_in kb pb wr
        dsimp only [inV] at hne ⊢
        go_wp2_with fail
        refine (inside1_any g g kb pb rest L wr HP.out HX.out (Nat.le_refl _) (by omega) h2 (by omega) u v HUV.out).mono ?_
        rintro e w2 ⟨hB2, h⟩
        have HBel2 := Lib.hid (Below.trans HBel.out hB2); clear hB2
        rcases h with ⟨hcl, rfl, hP2⟩ | ⟨hcl, rfl⟩
        · have hs2 : (pG (v.drop 1)).map (fun l => (L ++ [⟨1, mkS u.dropLast⟩]) ++ l) = pG s.data.toList := by
            rw [← HR.out, inG_yes HUV.out hcl, Option.map_map]
            congr 1
            funext l; simp
          have hv1 : 1 ≤ v.length := by
            have := hcl.2
            cases v with
            | nil => cases this
            | cons _ _ => simp
          have hu1 : 1 ≤ u.length := by
            have := hcl.1
            cases u with
            | nil => cases this
            | cons _ _ => simp
          have HS2 := Lib.hid hs2; have HP2 := Lib.hid hP2; clear hs2 hP2 hcl
          go_wp2_with fail
          go_roundw
          case rel =>
            refine ⟨rfl, mkS (v.drop 1), L ++ [⟨1, mkS u.dropLast⟩], HP2.out, .inl ⟨rfl, by rw [mkS_data]; exact HS2.out⟩, ?_, ?_, ?_, HBel2.out⟩
            · rw [List.length_append, List.length_singleton, mkS_size, List.length_drop]; omega
            · intro x hx
              rcases List.mem_append.1 hx with hx | hx
              · exact HW.out x hx
              · obtain rfl := List.mem_singleton.1 hx
                exact ⟨⟨by dsimp only; omega, by dsimp only; omega⟩, by unfold Reach; dsimp only; rw [mkS_size, List.length_dropLast]; omega⟩
            · have := one_rend 1 u.dropLast
              rw [List.length_dropLast] at this
              rw [rend_app, List.length_append, mkS_size, List.length_drop]; omega
          case measure =>
            rw [leftM_of HP.out, leftM_of HP2.out, mkS_size, List.length_drop]
            simp [fnM]
            omega
        · have hn : parseV s = none := by
            unfold parseV
            rw [← HR.out, inG_no HUV.out hcl]; rfl
          have HN := Lib.hid hn; clear hn hcl
          go_wp2_with fail
          go_ret2
          exact ⟨by show Below w.heap.size _ _; rw [HG.out]; exact HBel2.out, .inl ⟨HN.out, rfl⟩⟩
      · skip
        have hkk : opn rest.data.toList = 2 := hk
        rw [hkk] at hr hX
        have HR := Lib.hid hr; have HX := Lib.hid hX; clear hr hX
        obtain ⟨uv, huv⟩ : ∃ uv, textL (rest.data.toList.drop 2) = uv := ⟨_, rfl⟩
        obtain ⟨u, v⟩ := uv
        have hle := (textL_le (rest.data.toList.drop 2)).2
        rw [huv, List.length_drop, ← size_len] at hle
        dsimp only at hle
        have HUV := Lib.hid huv; clear huv hk hkk ho
        have hne := ne_in kb pb wr
        dsimp only [inV] at hne ⊢
        go_wp2_with fail
        refine (inside2_any g g kb pb rest L wr HP.out HX.out (Nat.le_refl _) (by omega) h2 (by omega) u v HUV.out).mono ?_
        rintro e w2 ⟨hB2, h⟩
        have HBel2 := Lib.hid (Below.trans HBel.out hB2); clear hB2
        rcases h with ⟨hcl, rfl, hP2⟩ | ⟨hcl, rfl⟩
        · have hs2 : (pG (v.drop 1)).map (fun l => (L ++ [⟨2, mkS u.dropLast⟩]) ++ l) = pG s.data.toList := by
            rw [← HR.out, inG_yes HUV.out hcl, Option.map_map]
            congr 1
            funext l; simp
          have hv1 : 1 ≤ v.length := by
            have := hcl.2
            cases v with
            | nil => cases this
            | cons _ _ => simp
          have hu1 : 1 ≤ u.length := by
            have := hcl.1
            cases u with
            | nil => cases this
            | cons _ _ => simp
          have HS2 := Lib.hid hs2; have HP2 := Lib.hid hP2; clear hs2 hP2 hcl
          go_wp2_with fail
          go_roundw
          case rel =>
            refine ⟨rfl, mkS (v.drop 1), L ++ [⟨2, mkS u.dropLast⟩], HP2.out, .inl ⟨rfl, by rw [mkS_data]; exact HS2.out⟩, ?_, ?_, ?_, HBel2.out⟩
            · rw [List.length_append, List.length_singleton, mkS_size, List.length_drop]; omega
            · intro x hx
              rcases List.mem_append.1 hx with hx | hx
              · exact HW.out x hx
              · obtain rfl := List.mem_singleton.1 hx
                exact ⟨⟨by dsimp only; omega, by dsimp only; omega⟩, by unfold Reach; dsimp only; rw [mkS_size, List.length_dropLast]; omega⟩
            · have := one_rend 2 u.dropLast
              rw [List.length_dropLast] at this
              rw [rend_app, List.length_append, mkS_size, List.length_drop]; omega
          case measure =>
            rw [leftM_of HP.out, leftM_of HP2.out, mkS_size, List.length_drop]
            simp [fnM]
            omega
        · have hn : parseV s = none := by
            unfold parseV
            rw [← HR.out, inG_no HUV.out hcl]; rfl
          have HN := Lib.hid hn; clear hn hcl
          go_wp2_with fail
          go_ret2
          exact ⟨by show Below w.heap.size _ _; rw [HG.out]; exact HBel2.out, .inl ⟨HN.out, rfl⟩⟩
    · have hne := ne_nil wr
      obtain ⟨v, hb, hown⟩ := HP.out
      obtain ⟨A, c, rfl, hc, hPc⟩ := ownP_pcs hown HW.out
      have c1 := hb.cell 1
      replace c1 : wr.cell? ⟨g, 1, none⟩ = some (.slice A L.length c) := c1
      have hgw := hb.lt
      have HB := Lib.hid hb; have HPC := Lib.hid hPc; have HR := Lib.hid hr; clear hb hown hPc hr
      cases hv : vldV L with
      | false =>
        have hn : parseV s = none := by unfold parseV; rw [HR.out, Option.bind_some, if_neg (by simp [hv])]
        have he : renE L = 1 := by rw [renE, if_neg (by simp [hv])]
        have HN := Lib.hid hn; have HE := Lib.hid he; clear hn he hv
        go_wp2_with fail
        refine (render_any A L.length c L wr HPC.out (by omega) (by omega)).mono ?_
        rintro e w2 ⟨rfl, hE⟩
        rw [HE.out]
        have HBel2 := Lib.hid (Below.trans HBel.out (Ext.below hE (by omega))); clear hE
        go_wp2_with fail
        go_ret2
        exact ⟨by show Below w.heap.size _ _; rw [HG.out]; exact HBel2.out, .inl ⟨HN.out, rfl⟩⟩
      | true =>
        have he : renE L = 0 := by rw [renE, if_pos hv]
        have hre : rendV L = mkS (rendL L) := by rw [rendV, if_pos hv]
        by_cases hsr : rendL L = s.data.toList
        · have hn : parseV s = some L := by unfold parseV; rw [HR.out, Option.bind_some, if_pos ⟨hv, hsr⟩]
          have hrs : mkS (rendL L) = s := by rw [hsr]; exact mkS_of s
          rw [hrs] at hre
          have HN := Lib.hid hn; have HE := Lib.hid he; have HRE := Lib.hid hre; clear hn he hv hre hsr hrs
          go_wp2_with fail
          refine (render_any A L.length c L wr HPC.out (by omega) (by omega)).mono ?_
          rintro e w2 ⟨rfl, hE⟩
          rw [HE.out, HRE.out]
          have HBel2 := Lib.hid (Below.trans HBel.out (Ext.below hE (by omega))); have HP2 := Lib.hid (HPC.out.ext hE)
          have c2 := hE.cell c1
          clear hE c1
          go_wp2_with fail
          go_ret2
          exact ⟨by show Below w.heap.size _ _; rw [HG.out]; exact HBel2.out, .inr ⟨L, A, c, HN.out, rfl, hc, HP2.out⟩⟩
        · have hn : parseV s = none := by unfold parseV; rw [HR.out, Option.bind_some, if_neg (fun h => hsr h.2)]
          have hq : ((mkS (rendL L)).toList == s.toList) = false := by
            cases e : (mkS (rendL L)).toList == s.toList with
            | false => rfl
            | true =>
              have := toList_inj (s := mkS (rendL L)) (t := s) (by simpa using e)
              exact absurd (by rw [← this]; rfl) hsr
          have HN := Lib.hid hn; have HE := Lib.hid he; have HRE := Lib.hid hre; clear hn he hv hre hsr
          go_wp2_with fail
          refine (render_any A L.length c L wr HPC.out (by omega) (by omega)).mono ?_
          rintro e w2 ⟨rfl, hE⟩
          rw [HE.out, HRE.out]
          have HBel2 := Lib.hid (Below.trans HBel.out (Ext.below hE (by omega))); clear hE
          go_wp2_with fail
          go_ret2
          exact ⟨by show Below w.heap.size _ _; rw [HG.out]; exact HBel2.out, .inl ⟨HN.out, rfl⟩⟩
end Go.Proofs.Ytmmppfopokbcfaa
