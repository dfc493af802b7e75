/- A map from digests to strings of one's own, read as a function. No condition. -/
import Derived.Test.YtmmcjcaccicheaaTfRSt
import Derived.Maps.Own
import Derived.Maps.OwnSet
import Derived.Maps.OwnOps
import Derived.Maps.Views
import Derived.Maps.Keyed
import Derived.DeepKeys4
namespace Go.Proofs.Ytmmcjcaccicheaa
open Go.RowKit Go.WideMaps Go.Maps Go.ChangeMaps
theorem underMD : Try.prog.underlying 72 = some (.map 34 9) := by kernel_rfl
theorem dgLaid : laidOutB Try.prog = true := by kernel_rfl
set_option maxRecDepth 100000 in
theorem dgRow : (34 : TypeId) < Try.prog.types.size := of_decide_eq_true (by kernel_rfl)
set_option maxRecDepth 100000 in
theorem dgWide : (match Try.prog.underlying 34 with | some (.array _ _) | some (.struct _) => true | _ => false) = true := by kernel_rfl
set_option maxRecDepth 100000 in
theorem keyedD : Keyed Try.prog 34 := Keyed.of_law (deep_law_laid dgLaid (m := 2) (by omega) dgRow (by kernel_rfl) dgWide)
theorem mapM_some {α β : Type} (f : α → Option β) : ∀ (l : List α), (∀ x ∈ l, ∃ y, f x = some y) → ∃ L, l.mapM f = some L
  | [], _ => ⟨[], rfl⟩
  | x :: r, h => by
    obtain ⟨y, hy⟩ := h x List.mem_cons_self
    obtain ⟨L, hL⟩ := mapM_some f r (fun z hz => h z (List.mem_cons_of_mem _ hz))
    exact ⟨y :: L, by simp [List.mapM_cons, hy, hL]⟩
set_option maxRecDepth 100000 in
theorem key_dg {d : Bs} (hd : d.length = 32) : ∃ l, keyOf Try.prog 34 (dv d) = some l := by
  have h1 : Try.prog.keyType 34 = true := by kernel_rfl
  have h2 : Try.prog.cellsOf 34 = 32 := by kernel_rfl
  have h3 : Try.prog.cellsOf 5 = 1 := by kernel_rfl
  have h4 : (dv d).formed Try.prog 34 = true := by
    unfold dv
    simp [Value.formed, uDg, h2, dgl_len, hd]
  obtain ⟨n, hn⟩ : ∃ n, Try.prog.types.size = n + 1 := ⟨_, (Nat.succ_pred_eq_of_pos (Nat.lt_of_le_of_lt (Nat.zero_le _) dgRow)).symm⟩
  have h5 : ∃ L, (List.range 32).mapM (fun i => Try.prog.keyLits (n + 1) 5 (((dgl d).drop (i * 1)).take 1)) = some L := by
    refine mapM_some _ _ (fun i hi => ?_)
    have hi := List.mem_range.1 hi
    have hx : (dgl d)[i]? = some (bv d[i]) := dgl_get (List.getElem?_eq_getElem (by omega))
    have e : ((dgl d).drop (i * 1)).take 1 = [bv d[i]] := by
      rw [Nat.mul_one]
      obtain ⟨hlt, hget⟩ := List.getElem?_eq_some_iff.1 hx
      rw [List.drop_eq_getElem_cons hlt, hget]
      rfl
    rw [e]
    refine ⟨[.int .u8 (ub d[i])], ?_⟩
    have hwf : (Lit.int .u8 (ub d[i])).wf = true := by
      have := d[i].toNat_lt
      unfold ub
      simp [Lit.wf, IntKind.min, IntKind.max, IntKind.signed, IntKind.bits]
      try omega
    simp [Program.keyLits, Try.underlying5, bv, hwf]
  obtain ⟨L, hL⟩ := h5
  refine ⟨.string (keyBytes L.flatten), ?_⟩
  unfold keyOf
  rw [uDg, h1, h4, hn]
  have hc : (dv d).cells.toList = dgl d := by unfold dv; simp [Value.cells]
  simp only [Bool.and_self, if_true]
  rw [hc]
  unfold Program.keyLits
  simp only [uDg, h2, h3, dgl_len, hd, if_true]
  rw [hL]
  rfl
noncomputable def kDg (d : Bs) : Lit := (keyOf Try.prog 34 (dv d)).getD (.bool false)
theorem kDg_of {d : Bs} (hd : d.length = 32) : keyOf Try.prog 34 (dv d) = some (kDg d) := by
  obtain ⟨l, hl⟩ := key_dg hd
  unfold kDg; rw [hl]; rfl
theorem dgl_inj : ∀ {a b : Bs}, dgl a = dgl b → a = b
  | [], [], _ => rfl
  | [], _ :: _, h => by cases h
  | _ :: _, [], h => by cases h
  | x :: a, y :: b, h => by
    unfold dgl at h
    rw [List.map_cons, List.map_cons] at h
    obtain ⟨h1, h2⟩ := List.cons.inj h
    have hx : x = y := by
      unfold bv ub at h1
      injection h1 with _ h3
      exact UInt8.toNat_inj.1 (by omega)
    rw [hx, dgl_inj h2]
theorem dv_inj {a b : Bs} (h : dv a = dv b) : a = b := by
  unfold dv at h
  injection h with h1
  exact dgl_inj (by simpa using congrArg Array.toList h1)
theorem kDg_inj {a b : Bs} (ha : a.length = 32) (hb : b.length = 32) (h : kDg a = kDg b) : a = b :=
  dv_inj (keyedD.inj (kDg_of ha) (by rw [h]; exact kDg_of hb))
/-- How a string reads. -/
def strR (v : Value) : Option (DataW Unit × List MemPlace) :=
  match v with
  | .string s => some (.lit (.string s.data.toList), [])
  | _ => none
theorem strR_mk (s : Bs) : strR (.string (bst s)) = some (.lit (.string s), []) := by
  show some (DataW.lit (Lit.string (bst s).data.toList), []) = _
  rw [bst_list]
theorem strR_inv {v : Value} {y : DataW Unit × List MemPlace} (h : strR v = some y) : ∃ s, v = .string (bst s) ∧ y.1 = .lit (.string s) := by
  unfold strR at h
  split at h
  · rename_i s
    cases h
    exact ⟨s.data.toList, by rw [← bst_of], rfl⟩
  · cases h
def optD : Option Bs → DataW Unit
  | some s => .lit (.string s)
  | none => .nil
/-- What 'v, ok := m[d]' yields. -/
def optV : Option Bs → Value
  | some s => .tuple #[.string (bst s), .bool true]
  | none => .tuple #[.string (bst []), .bool false]
/-- Block g is a map of at most n strings, and tells f. -/
def MapD (w : World) (g n : Nat) (f : Bs → Option Bs) : Prop :=
  ∃ D : DataW Unit, w.ownsMap Try.prog 34 strR g n D ∧ ∀ d, d.length = 32 → D.atKey (kDg d) .nil = optD (f d)
theorem MapD.new (w : World) {g : Nat} (hg : g = w.heap.size) : MapD (w.alloc (.map #[] 0)) g 0 (fun _ => none) := by
  subst hg; exact ⟨_, World.ownsMap_made _ _ _ _, fun s _ => by rfl⟩
theorem MapD.ext {w w' : World} {g n : Nat} {f : Bs → Option Bs} (h : MapD w g n f) (e : Ext w w') : MapD w' g n f := by
  obtain ⟨D, ⟨es, clock, hb, r⟩, h2⟩ := h
  exact ⟨D, ⟨es, clock, e.block hb, r⟩, h2⟩
theorem MapD.look {w : World} {g n : Nat} {f : Bs → Option Bs} (h : MapD w g n f) {d : Bs} (hd : d.length = 32) : (Instr.lookup 72 (.map (some g)) (dv d) true).run Try.prog w = .ok (optV (f d)) w := by
  obtain ⟨D, ⟨es, clock, hb, F, -, rfl⟩, hf⟩ := h
  have hz : (zeroValue 9).run Try.prog w = .ok (.string ⟨#[]⟩) w := Try.zeroValue9 w
  have hf := hf d hd
  rcases Maps.fit_look true keyedD underMD hz hb F (kDg_of hd) with ⟨hrun, -, hat⟩ | ⟨e0, y, -, -, hrun, hR, hat, -⟩
  · rw [hat] at hf
    cases hfd : f d with
    | none => rw [hrun]; unfold optV; rw [bst_nil]; rfl
    | some s => rw [hfd] at hf; cases hf
  · rw [hat] at hf
    obtain ⟨s, hv, hy⟩ := strR_inv hR
    rw [hy] at hf
    cases hfd : f d with
    | none => rw [hfd] at hf; cases hf
    | some s' =>
      rw [hfd] at hf
      cases hf
      rw [hrun, hv]; rfl
set_option maxRecDepth 100000 in
theorem wpList_mapD_put (w : World) {ops : Array Oper} {rest : List Oper} {o : Oper} {a : Act} {Q : Exit → Act → World → Prop}
    (hg : o.guard = none) (m x v : Operand) (hop : o.op = Op.mapUpdate 72 m x v) (b n : Nat) (f : Bs → Option Bs)
    (hm : a.eval m = .map (some b)) (hown : MapD w b n f) (hn : n < maxLen) (d s : Bs) (hx : a.eval x = dv d) (hv : a.eval v = .string (bst s)) (hd : d.length = 32)
    (hK : ∀ w', MapD w' b (n + 1) (fun t => if t = d then some s else f t) → w.grownBy w' (some b) → wpList Try.prog ops Q rest (a.put o.dst undef) w') :
    wpList Try.prog ops Q (o :: rest) a w := by
  obtain ⟨D, hD, hf⟩ := hown
  refine wpList_mapUpdate_own w hg m x v 72 hop 34 9 keyedD underMD _ b n D hm hD hn _ _ _ hx hv (kDg_of hd) _ [] (strR_mk s) (fun w' h1 h2 => hK w' ⟨_, h1, fun t ht => ?_⟩ h2)
  dsimp only
  by_cases h : t = d
  · subst h; rw [if_pos rfl]; exact atKey_put_same (k := kDg t) hD.isMap (keyedD.key (kDg_of ht)) _ _
  · rw [if_neg h, atKey_put_other (fun e => h (kDg_inj ht hd e))]; exact hf t ht
end Go.Proofs.Ytmmcjcaccicheaa
