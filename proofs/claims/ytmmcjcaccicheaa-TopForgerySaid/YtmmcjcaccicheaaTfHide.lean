/- Whole arrays by value: the operations on them under names of their own, so that a walk takes each as one step. No condition. -/
import Derived.Test.YtmmcjcaccicheaaTfArr
namespace Go.Proofs.Ytmmcjcaccicheaa
open Go.RowKit
def AlT (t : TypeId) : Sem Value := Instr.alloc t true (.tuple #[])
def LdT (t : TypeId) (p : Value) : Sem Value := Instr.loadAt t p
def StT (t : TypeId) (p v : Value) : Sem Unit := Instr.storeAt t p v
def BxT (t : TypeId) (v : Value) : Sem Value := Instr.box t v
def BdT (t : TypeId) (parts : Array (Nat × Value)) : Sem Value := Instr.build t parts
theorem al_run {P : Program} {t : TypeId} {Z : Array Value} (hz : ∀ w, (zeroValue t).run P w = .ok (.agg Z) w) (w : World) : (AlT t).run P w = .ok (.pointer (some ⟨w.heap.size, 0, none⟩)) (w.alloc (.cells Z t)) := by
  unfold AlT Instr.alloc
  simp [Sem.run_bind, hz, newVar, Value.cells, Result.andThen, go_sem]
theorem bx_run {P : Program} (t : TypeId) (c : Array Value) (w : World) : (BxT t (.agg c)).run P w = .ok (.pointer (some ⟨w.heap.size, 0, none⟩)) (w.alloc (.cells c t)) := by
  unfold BxT Instr.box
  simp [Sem.run_bind, newVar, Value.cells, Result.andThen, go_sem]
theorem ld_run {P : Program} {W : World} {g : Nat} {t : TypeId} {l : List Value} {n : Nat} {e : TypeId} (h : Arr W g t l) (hu : P.underlying t = some (.array n e)) (hi : ∃ k, (P.info? t).map (·.size) = some k ∧ l.length = k) :
    (LdT t (.pointer (some ⟨g, 0, none⟩))).run P W = .ok (.agg l.toArray) W := by
  obtain ⟨k, hk, hl⟩ := hi
  unfold LdT Instr.loadAt
  simp only [Instr.sureAddr, Sem.run_bind, Sem.run_pure, Result.andThen]
  exact run_loadVar_row W g t t l.toArray (0, 0) _ h.heap hu rfl (by rw [hk]; simp [hl])
theorem st_run {P : Program} {W : World} {g : Nat} {t : TypeId} {l l' : List Value} (h : Arr W g t l) (hi : ∃ k, (P.info? t).map (·.size) = some k ∧ l'.length = k) (hl : l'.length = l.length) (h1 : ∀ v ∈ l', v.oneCell' = true) :
    (StT t (.pointer (some ⟨g, 0, none⟩)) (.agg l'.toArray)).run P W = .ok () (W.setRow g l'.toArray) := by
  obtain ⟨k, hk, hl2⟩ := hi
  unfold StT Instr.storeAt
  simp only [Instr.sureAddr, Sem.run_bind, Sem.run_pure, Result.andThen]
  exact run_storeVar_row W g t t l.toArray l'.toArray h.heap (by rw [hk]; simp [hl2]) (by simp [hl]) (by rw [List.all_toArray, List.all_eq_true]; exact h1)
theorem hW64_al : Instr.alloc 99 true (.tuple #[]) = AlT 99 := rfl
theorem hW64_ld (p : Value) : Instr.loadAt 99 p = LdT 99 p := rfl
theorem hW64_st (p v : Value) : Instr.storeAt 99 p v = StT 99 p v := rfl
theorem hW64_bx (v : Value) : Instr.box 99 v = BxT 99 v := rfl
theorem hW64_bd (ps : Array (Nat × Value)) : Instr.build 99 ps = BdT 99 ps := rfl
theorem iW64 : (Try.prog.info? 99).map (·.size) = some 64 := by kernel_rfl
def ZW64 : Array Value := Array.replicate 64 (.int .u32 0)
theorem zW64 (w : World) : (zeroValue 99).run Try.prog w = .ok (.agg ZW64) w := by
  rw [show ZW64 = #[.int .u32 0, .int .u32 0, .int .u32 0, .int .u32 0, .int .u32 0, .int .u32 0, .int .u32 0, .int .u32 0, .int .u32 0, .int .u32 0, .int .u32 0, .int .u32 0, .int .u32 0, .int .u32 0, .int .u32 0, .int .u32 0, .int .u32 0, .int .u32 0, .int .u32 0, .int .u32 0, .int .u32 0, .int .u32 0, .int .u32 0, .int .u32 0, .int .u32 0, .int .u32 0, .int .u32 0, .int .u32 0, .int .u32 0, .int .u32 0, .int .u32 0, .int .u32 0, .int .u32 0, .int .u32 0, .int .u32 0, .int .u32 0, .int .u32 0, .int .u32 0, .int .u32 0, .int .u32 0, .int .u32 0, .int .u32 0, .int .u32 0, .int .u32 0, .int .u32 0, .int .u32 0, .int .u32 0, .int .u32 0, .int .u32 0, .int .u32 0, .int .u32 0, .int .u32 0, .int .u32 0, .int .u32 0, .int .u32 0, .int .u32 0, .int .u32 0, .int .u32 0, .int .u32 0, .int .u32 0, .int .u32 0, .int .u32 0, .int .u32 0, .int .u32 0] from rfl]
  exact Try.zeroValue99 w
theorem uW64 : Try.prog.underlying 99 = some (.array 64 67) := by kernel_rfl
theorem alW64 (w : World) : (AlT 99).run Try.prog w = .ok (.pointer (some ⟨w.heap.size, 0, none⟩)) (w.alloc (.cells ZW64 99)) := al_run zW64 w
theorem bxW64 (c : Array Value) (w : World) : (BxT 99 (.agg c)).run Try.prog w = .ok (.pointer (some ⟨w.heap.size, 0, none⟩)) (w.alloc (.cells c 99)) := bx_run _ c w
theorem ldW64 {W : World} {g : Nat} {l : List Value} (h : Arr W g 99 l) (hl : l.length = 64) : (LdT 99 (.pointer (some ⟨g, 0, none⟩))).run Try.prog W = .ok (.agg l.toArray) W := ld_run h uW64 ⟨_, iW64, hl⟩
theorem stW64 {W : World} {g : Nat} {l l' : List Value} (h : Arr W g 99 l) (hl : l.length = 64) (hl' : l'.length = 64) (h1 : ∀ v ∈ l', v.oneCell' = true) : (StT 99 (.pointer (some ⟨g, 0, none⟩)) (.agg l'.toArray)).run Try.prog W = .ok () (W.setRow g l'.toArray) :=
  st_run h ⟨_, iW64, hl'⟩ (hl'.trans hl.symm) h1
theorem lvW64 {W : World} {g : Nat} {l : List Value} (h : Arr W g 99 l) (hl : l.length = 64) : (loadVar 99 ⟨g, 0, none⟩).run Try.prog W = .ok (.agg l.toArray) W :=
  run_loadVar_row W g _ _ l.toArray (0, 0) _ h.heap uW64 rfl (by rw [iW64]; simp [hl])
theorem hW8_al : Instr.alloc 68 true (.tuple #[]) = AlT 68 := rfl
theorem hW8_ld (p : Value) : Instr.loadAt 68 p = LdT 68 p := rfl
theorem hW8_st (p v : Value) : Instr.storeAt 68 p v = StT 68 p v := rfl
theorem hW8_bx (v : Value) : Instr.box 68 v = BxT 68 v := rfl
theorem hW8_bd (ps : Array (Nat × Value)) : Instr.build 68 ps = BdT 68 ps := rfl
theorem iW8 : (Try.prog.info? 68).map (·.size) = some 8 := by kernel_rfl
def ZW8 : Array Value := Array.replicate 8 (.int .u32 0)
theorem zW8 (w : World) : (zeroValue 68).run Try.prog w = .ok (.agg ZW8) w := by
  rw [show ZW8 = #[.int .u32 0, .int .u32 0, .int .u32 0, .int .u32 0, .int .u32 0, .int .u32 0, .int .u32 0, .int .u32 0] from rfl]
  exact Try.zeroValue68 w
theorem uW8 : Try.prog.underlying 68 = some (.array 8 67) := by kernel_rfl
theorem alW8 (w : World) : (AlT 68).run Try.prog w = .ok (.pointer (some ⟨w.heap.size, 0, none⟩)) (w.alloc (.cells ZW8 68)) := al_run zW8 w
theorem bxW8 (c : Array Value) (w : World) : (BxT 68 (.agg c)).run Try.prog w = .ok (.pointer (some ⟨w.heap.size, 0, none⟩)) (w.alloc (.cells c 68)) := bx_run _ c w
theorem ldW8 {W : World} {g : Nat} {l : List Value} (h : Arr W g 68 l) (hl : l.length = 8) : (LdT 68 (.pointer (some ⟨g, 0, none⟩))).run Try.prog W = .ok (.agg l.toArray) W := ld_run h uW8 ⟨_, iW8, hl⟩
theorem stW8 {W : World} {g : Nat} {l l' : List Value} (h : Arr W g 68 l) (hl : l.length = 8) (hl' : l'.length = 8) (h1 : ∀ v ∈ l', v.oneCell' = true) : (StT 68 (.pointer (some ⟨g, 0, none⟩)) (.agg l'.toArray)).run Try.prog W = .ok () (W.setRow g l'.toArray) :=
  st_run h ⟨_, iW8, hl'⟩ (hl'.trans hl.symm) h1
theorem lvW8 {W : World} {g : Nat} {l : List Value} (h : Arr W g 68 l) (hl : l.length = 8) : (loadVar 68 ⟨g, 0, none⟩).run Try.prog W = .ok (.agg l.toArray) W :=
  run_loadVar_row W g _ _ l.toArray (0, 0) _ h.heap uW8 rfl (by rw [iW8]; simp [hl])
theorem hDg_al : Instr.alloc 34 true (.tuple #[]) = AlT 34 := rfl
theorem hDg_ld (p : Value) : Instr.loadAt 34 p = LdT 34 p := rfl
theorem hDg_st (p v : Value) : Instr.storeAt 34 p v = StT 34 p v := rfl
theorem hDg_bx (v : Value) : Instr.box 34 v = BxT 34 v := rfl
theorem hDg_bd (ps : Array (Nat × Value)) : Instr.build 34 ps = BdT 34 ps := rfl
theorem iDg : (Try.prog.info? 34).map (·.size) = some 32 := by kernel_rfl
def ZDg : Array Value := Array.replicate 32 (.int .u8 0)
theorem zDg (w : World) : (zeroValue 34).run Try.prog w = .ok (.agg ZDg) w := by
  rw [show ZDg = #[.int .u8 0, .int .u8 0, .int .u8 0, .int .u8 0, .int .u8 0, .int .u8 0, .int .u8 0, .int .u8 0, .int .u8 0, .int .u8 0, .int .u8 0, .int .u8 0, .int .u8 0, .int .u8 0, .int .u8 0, .int .u8 0, .int .u8 0, .int .u8 0, .int .u8 0, .int .u8 0, .int .u8 0, .int .u8 0, .int .u8 0, .int .u8 0, .int .u8 0, .int .u8 0, .int .u8 0, .int .u8 0, .int .u8 0, .int .u8 0, .int .u8 0, .int .u8 0] from rfl]
  exact Try.zeroValue34 w
theorem uDg : Try.prog.underlying 34 = some (.array 32 5) := by kernel_rfl
theorem alDg (w : World) : (AlT 34).run Try.prog w = .ok (.pointer (some ⟨w.heap.size, 0, none⟩)) (w.alloc (.cells ZDg 34)) := al_run zDg w
theorem bxDg (c : Array Value) (w : World) : (BxT 34 (.agg c)).run Try.prog w = .ok (.pointer (some ⟨w.heap.size, 0, none⟩)) (w.alloc (.cells c 34)) := bx_run _ c w
theorem ldDg {W : World} {g : Nat} {l : List Value} (h : Arr W g 34 l) (hl : l.length = 32) : (LdT 34 (.pointer (some ⟨g, 0, none⟩))).run Try.prog W = .ok (.agg l.toArray) W := ld_run h uDg ⟨_, iDg, hl⟩
theorem stDg {W : World} {g : Nat} {l l' : List Value} (h : Arr W g 34 l) (hl : l.length = 32) (hl' : l'.length = 32) (h1 : ∀ v ∈ l', v.oneCell' = true) : (StT 34 (.pointer (some ⟨g, 0, none⟩)) (.agg l'.toArray)).run Try.prog W = .ok () (W.setRow g l'.toArray) :=
  st_run h ⟨_, iDg, hl'⟩ (hl'.trans hl.symm) h1
theorem lvDg {W : World} {g : Nat} {l : List Value} (h : Arr W g 34 l) (hl : l.length = 32) : (loadVar 34 ⟨g, 0, none⟩).run Try.prog W = .ok (.agg l.toArray) W :=
  run_loadVar_row W g _ _ l.toArray (0, 0) _ h.heap uDg rfl (by rw [iDg]; simp [hl])
theorem hB128_al : Instr.alloc 56 true (.tuple #[]) = AlT 56 := rfl
theorem hB128_ld (p : Value) : Instr.loadAt 56 p = LdT 56 p := rfl
theorem hB128_st (p v : Value) : Instr.storeAt 56 p v = StT 56 p v := rfl
theorem hB128_bx (v : Value) : Instr.box 56 v = BxT 56 v := rfl
theorem hB128_bd (ps : Array (Nat × Value)) : Instr.build 56 ps = BdT 56 ps := rfl
theorem iB128 : (Try.prog.info? 56).map (·.size) = some 128 := by kernel_rfl
def ZB128 : Array Value := Array.replicate 128 (.int .i64 0)
theorem zB128 (w : World) : (zeroValue 56).run Try.prog w = .ok (.agg ZB128) w := by
  rw [show ZB128 = #[.int .i64 0, .int .i64 0, .int .i64 0, .int .i64 0, .int .i64 0, .int .i64 0, .int .i64 0, .int .i64 0, .int .i64 0, .int .i64 0, .int .i64 0, .int .i64 0, .int .i64 0, .int .i64 0, .int .i64 0, .int .i64 0, .int .i64 0, .int .i64 0, .int .i64 0, .int .i64 0, .int .i64 0, .int .i64 0, .int .i64 0, .int .i64 0, .int .i64 0, .int .i64 0, .int .i64 0, .int .i64 0, .int .i64 0, .int .i64 0, .int .i64 0, .int .i64 0, .int .i64 0, .int .i64 0, .int .i64 0, .int .i64 0, .int .i64 0, .int .i64 0, .int .i64 0, .int .i64 0, .int .i64 0, .int .i64 0, .int .i64 0, .int .i64 0, .int .i64 0, .int .i64 0, .int .i64 0, .int .i64 0, .int .i64 0, .int .i64 0, .int .i64 0, .int .i64 0, .int .i64 0, .int .i64 0, .int .i64 0, .int .i64 0, .int .i64 0, .int .i64 0, .int .i64 0, .int .i64 0, .int .i64 0, .int .i64 0, .int .i64 0, .int .i64 0, .int .i64 0, .int .i64 0, .int .i64 0, .int .i64 0, .int .i64 0, .int .i64 0, .int .i64 0, .int .i64 0, .int .i64 0, .int .i64 0, .int .i64 0, .int .i64 0, .int .i64 0, .int .i64 0, .int .i64 0, .int .i64 0, .int .i64 0, .int .i64 0, .int .i64 0, .int .i64 0, .int .i64 0, .int .i64 0, .int .i64 0, .int .i64 0, .int .i64 0, .int .i64 0, .int .i64 0, .int .i64 0, .int .i64 0, .int .i64 0, .int .i64 0, .int .i64 0, .int .i64 0, .int .i64 0, .int .i64 0, .int .i64 0, .int .i64 0, .int .i64 0, .int .i64 0, .int .i64 0, .int .i64 0, .int .i64 0, .int .i64 0, .int .i64 0, .int .i64 0, .int .i64 0, .int .i64 0, .int .i64 0, .int .i64 0, .int .i64 0, .int .i64 0, .int .i64 0, .int .i64 0, .int .i64 0, .int .i64 0, .int .i64 0, .int .i64 0, .int .i64 0, .int .i64 0, .int .i64 0, .int .i64 0, .int .i64 0, .int .i64 0, .int .i64 0] from rfl]
  exact Try.zeroValue56 w
theorem uB128 : Try.prog.underlying 56 = some (.array 128 3) := by kernel_rfl
theorem alB128 (w : World) : (AlT 56).run Try.prog w = .ok (.pointer (some ⟨w.heap.size, 0, none⟩)) (w.alloc (.cells ZB128 56)) := al_run zB128 w
theorem bxB128 (c : Array Value) (w : World) : (BxT 56 (.agg c)).run Try.prog w = .ok (.pointer (some ⟨w.heap.size, 0, none⟩)) (w.alloc (.cells c 56)) := bx_run _ c w
theorem ldB128 {W : World} {g : Nat} {l : List Value} (h : Arr W g 56 l) (hl : l.length = 128) : (LdT 56 (.pointer (some ⟨g, 0, none⟩))).run Try.prog W = .ok (.agg l.toArray) W := ld_run h uB128 ⟨_, iB128, hl⟩
theorem stB128 {W : World} {g : Nat} {l l' : List Value} (h : Arr W g 56 l) (hl : l.length = 128) (hl' : l'.length = 128) (h1 : ∀ v ∈ l', v.oneCell' = true) : (StT 56 (.pointer (some ⟨g, 0, none⟩)) (.agg l'.toArray)).run Try.prog W = .ok () (W.setRow g l'.toArray) :=
  st_run h ⟨_, iB128, hl'⟩ (hl'.trans hl.symm) h1
theorem lvB128 {W : World} {g : Nat} {l : List Value} (h : Arr W g 56 l) (hl : l.length = 128) : (loadVar 56 ⟨g, 0, none⟩).run Try.prog W = .ok (.agg l.toArray) W :=
  run_loadVar_row W g _ _ l.toArray (0, 0) _ h.heap uB128 rfl (by rw [iB128]; simp [hl])
theorem hD4_al : Instr.alloc 66 true (.tuple #[]) = AlT 66 := rfl
theorem hD4_ld (p : Value) : Instr.loadAt 66 p = LdT 66 p := rfl
theorem hD4_st (p v : Value) : Instr.storeAt 66 p v = StT 66 p v := rfl
theorem hD4_bx (v : Value) : Instr.box 66 v = BxT 66 v := rfl
theorem hD4_bd (ps : Array (Nat × Value)) : Instr.build 66 ps = BdT 66 ps := rfl
theorem iD4 : (Try.prog.info? 66).map (·.size) = some 128 := by kernel_rfl
def ZD4 : Array Value := Array.replicate 128 (.int .u8 0)
theorem zD4 (w : World) : (zeroValue 66).run Try.prog w = .ok (.agg ZD4) w := by
  rw [show ZD4 = #[.int .u8 0, .int .u8 0, .int .u8 0, .int .u8 0, .int .u8 0, .int .u8 0, .int .u8 0, .int .u8 0, .int .u8 0, .int .u8 0, .int .u8 0, .int .u8 0, .int .u8 0, .int .u8 0, .int .u8 0, .int .u8 0, .int .u8 0, .int .u8 0, .int .u8 0, .int .u8 0, .int .u8 0, .int .u8 0, .int .u8 0, .int .u8 0, .int .u8 0, .int .u8 0, .int .u8 0, .int .u8 0, .int .u8 0, .int .u8 0, .int .u8 0, .int .u8 0, .int .u8 0, .int .u8 0, .int .u8 0, .int .u8 0, .int .u8 0, .int .u8 0, .int .u8 0, .int .u8 0, .int .u8 0, .int .u8 0, .int .u8 0, .int .u8 0, .int .u8 0, .int .u8 0, .int .u8 0, .int .u8 0, .int .u8 0, .int .u8 0, .int .u8 0, .int .u8 0, .int .u8 0, .int .u8 0, .int .u8 0, .int .u8 0, .int .u8 0, .int .u8 0, .int .u8 0, .int .u8 0, .int .u8 0, .int .u8 0, .int .u8 0, .int .u8 0, .int .u8 0, .int .u8 0, .int .u8 0, .int .u8 0, .int .u8 0, .int .u8 0, .int .u8 0, .int .u8 0, .int .u8 0, .int .u8 0, .int .u8 0, .int .u8 0, .int .u8 0, .int .u8 0, .int .u8 0, .int .u8 0, .int .u8 0, .int .u8 0, .int .u8 0, .int .u8 0, .int .u8 0, .int .u8 0, .int .u8 0, .int .u8 0, .int .u8 0, .int .u8 0, .int .u8 0, .int .u8 0, .int .u8 0, .int .u8 0, .int .u8 0, .int .u8 0, .int .u8 0, .int .u8 0, .int .u8 0, .int .u8 0, .int .u8 0, .int .u8 0, .int .u8 0, .int .u8 0, .int .u8 0, .int .u8 0, .int .u8 0, .int .u8 0, .int .u8 0, .int .u8 0, .int .u8 0, .int .u8 0, .int .u8 0, .int .u8 0, .int .u8 0, .int .u8 0, .int .u8 0, .int .u8 0, .int .u8 0, .int .u8 0, .int .u8 0, .int .u8 0, .int .u8 0, .int .u8 0, .int .u8 0, .int .u8 0, .int .u8 0, .int .u8 0] from rfl]
  exact Try.zeroValue66 w
theorem uD4 : Try.prog.underlying 66 = some (.array 4 34) := by kernel_rfl
theorem alD4 (w : World) : (AlT 66).run Try.prog w = .ok (.pointer (some ⟨w.heap.size, 0, none⟩)) (w.alloc (.cells ZD4 66)) := al_run zD4 w
theorem bxD4 (c : Array Value) (w : World) : (BxT 66 (.agg c)).run Try.prog w = .ok (.pointer (some ⟨w.heap.size, 0, none⟩)) (w.alloc (.cells c 66)) := bx_run _ c w
theorem ldD4 {W : World} {g : Nat} {l : List Value} (h : Arr W g 66 l) (hl : l.length = 128) : (LdT 66 (.pointer (some ⟨g, 0, none⟩))).run Try.prog W = .ok (.agg l.toArray) W := ld_run h uD4 ⟨_, iD4, hl⟩
theorem stD4 {W : World} {g : Nat} {l l' : List Value} (h : Arr W g 66 l) (hl : l.length = 128) (hl' : l'.length = 128) (h1 : ∀ v ∈ l', v.oneCell' = true) : (StT 66 (.pointer (some ⟨g, 0, none⟩)) (.agg l'.toArray)).run Try.prog W = .ok () (W.setRow g l'.toArray) :=
  st_run h ⟨_, iD4, hl'⟩ (hl'.trans hl.symm) h1
theorem lvD4 {W : World} {g : Nat} {l : List Value} (h : Arr W g 66 l) (hl : l.length = 128) : (loadVar 66 ⟨g, 0, none⟩).run Try.prog W = .ok (.agg l.toArray) W :=
  run_loadVar_row W g _ _ l.toArray (0, 0) _ h.heap uD4 rfl (by rw [iD4]; simp [hl])
theorem hD2_al : Instr.alloc 96 true (.tuple #[]) = AlT 96 := rfl
theorem hD2_ld (p : Value) : Instr.loadAt 96 p = LdT 96 p := rfl
theorem hD2_st (p v : Value) : Instr.storeAt 96 p v = StT 96 p v := rfl
theorem hD2_bx (v : Value) : Instr.box 96 v = BxT 96 v := rfl
theorem hD2_bd (ps : Array (Nat × Value)) : Instr.build 96 ps = BdT 96 ps := rfl
theorem iD2 : (Try.prog.info? 96).map (·.size) = some 64 := by kernel_rfl
def ZD2 : Array Value := Array.replicate 64 (.int .u8 0)
theorem zD2 (w : World) : (zeroValue 96).run Try.prog w = .ok (.agg ZD2) w := by
  rw [show ZD2 = #[.int .u8 0, .int .u8 0, .int .u8 0, .int .u8 0, .int .u8 0, .int .u8 0, .int .u8 0, .int .u8 0, .int .u8 0, .int .u8 0, .int .u8 0, .int .u8 0, .int .u8 0, .int .u8 0, .int .u8 0, .int .u8 0, .int .u8 0, .int .u8 0, .int .u8 0, .int .u8 0, .int .u8 0, .int .u8 0, .int .u8 0, .int .u8 0, .int .u8 0, .int .u8 0, .int .u8 0, .int .u8 0, .int .u8 0, .int .u8 0, .int .u8 0, .int .u8 0, .int .u8 0, .int .u8 0, .int .u8 0, .int .u8 0, .int .u8 0, .int .u8 0, .int .u8 0, .int .u8 0, .int .u8 0, .int .u8 0, .int .u8 0, .int .u8 0, .int .u8 0, .int .u8 0, .int .u8 0, .int .u8 0, .int .u8 0, .int .u8 0, .int .u8 0, .int .u8 0, .int .u8 0, .int .u8 0, .int .u8 0, .int .u8 0, .int .u8 0, .int .u8 0, .int .u8 0, .int .u8 0, .int .u8 0, .int .u8 0, .int .u8 0, .int .u8 0] from rfl]
  exact Try.zeroValue96 w
theorem uD2 : Try.prog.underlying 96 = some (.array 2 34) := by kernel_rfl
theorem alD2 (w : World) : (AlT 96).run Try.prog w = .ok (.pointer (some ⟨w.heap.size, 0, none⟩)) (w.alloc (.cells ZD2 96)) := al_run zD2 w
theorem bxD2 (c : Array Value) (w : World) : (BxT 96 (.agg c)).run Try.prog w = .ok (.pointer (some ⟨w.heap.size, 0, none⟩)) (w.alloc (.cells c 96)) := bx_run _ c w
theorem ldD2 {W : World} {g : Nat} {l : List Value} (h : Arr W g 96 l) (hl : l.length = 64) : (LdT 96 (.pointer (some ⟨g, 0, none⟩))).run Try.prog W = .ok (.agg l.toArray) W := ld_run h uD2 ⟨_, iD2, hl⟩
theorem stD2 {W : World} {g : Nat} {l l' : List Value} (h : Arr W g 96 l) (hl : l.length = 64) (hl' : l'.length = 64) (h1 : ∀ v ∈ l', v.oneCell' = true) : (StT 96 (.pointer (some ⟨g, 0, none⟩)) (.agg l'.toArray)).run Try.prog W = .ok () (W.setRow g l'.toArray) :=
  st_run h ⟨_, iD2, hl'⟩ (hl'.trans hl.symm) h1
theorem lvD2 {W : World} {g : Nat} {l : List Value} (h : Arr W g 96 l) (hl : l.length = 64) : (loadVar 96 ⟨g, 0, none⟩).run Try.prog W = .ok (.agg l.toArray) W :=
  run_loadVar_row W g _ _ l.toArray (0, 0) _ h.heap uD2 rfl (by rw [iD2]; simp [hl])
def V8.arr (v : V8) : List Value := v.list.map wv
theorem V8.arr_len (v : V8) : v.arr.length = 8 := rfl
theorem V8.arr_one (v : V8) : ∀ x ∈ v.arr, x.oneCell' = true := by
  intro x hx; unfold V8.arr at hx; obtain ⟨y, -, rfl⟩ := List.mem_map.1 hx; rfl
theorem bdW8 (a b c d e f g h : W32) (w : World) : (BdT 68 #[(0, .int .u32 (wn a)), (1, .int .u32 (wn b)), (2, .int .u32 (wn c)), (3, .int .u32 (wn d)), (4, .int .u32 (wn e)), (5, .int .u32 (wn f)), (6, .int .u32 (wn g)), (7, .int .u32 (wn h))]).run Try.prog w = .ok (.agg (V8.arr ⟨a, b, c, d, e, f, g, h⟩).toArray) w := by
  unfold BdT
  exact run_build w _ _ _ (by kernel_rfl)
theorem bdInit (w : World) : (BdT 68 #[(0, .int .u32 1779033703), (1, .int .u32 3144134277), (2, .int .u32 1013904242), (3, .int .u32 2773480762), (4, .int .u32 1359893119), (5, .int .u32 2600822924), (6, .int .u32 528734635), (7, .int .u32 1541459225)]).run Try.prog w = .ok (.agg initV.arr.toArray) w := by
  unfold BdT
  exact run_build w _ _ _ (by kernel_rfl)
theorem bdDg (w : World) : (BdT 34 #[]).run Try.prog w = .ok (.agg ZDg) w := by
  unfold BdT
  exact run_build w _ _ _ (by kernel_rfl)
theorem bdW64 (w : World) : (BdT 99 #[]).run Try.prog w = .ok (.agg ZW64) w := by
  unfold BdT
  exact run_build w _ _ _ (by kernel_rfl)
theorem zw64 : ZW64.toList = partW [] := rfl
def zeroV8 : V8 := ⟨0, 0, 0, 0, 0, 0, 0, 0⟩
theorem zdg : ZDg.toList = (List.replicate 32 0 : Bs).map (fun x => .int .u8 x.toNat) := rfl
set_option maxRecDepth 100000 in
theorem zd4 : ZD4.toList = (List.replicate 4 (List.replicate 32 (0 : UInt8))).flatMap (fun l => l.map fun x => .int .u8 x.toNat) := rfl
set_option maxRecDepth 100000 in
theorem zd2 : ZD2.toList = (List.replicate 2 (List.replicate 32 (0 : UInt8))).flatMap (fun l => l.map fun x => .int .u8 x.toNat) := rfl
theorem zw8 : ZW8.toList = zeroV8.arr := rfl
attribute [irreducible] AlT LdT StT BxT BdT ZW64 ZW8 ZDg ZB128 ZD4 ZD2
attribute [simp] bdW64 bdW8 bdInit bdDg alW64 bxW64 alW8 bxW8 alDg bxDg alB128 bxB128 alD4 bxD4 alD2 bxD2
attribute [simp ↓] hW64_al hW64_ld hW64_st hW64_bx hW64_bd hW8_al hW8_ld hW8_st hW8_bx hW8_bd hDg_al hDg_ld hDg_st hDg_bx hDg_bd hB128_al hB128_ld hB128_st hB128_bx hB128_bd hD4_al hD4_ld hD4_st hD4_bx hD4_bd hD2_al hD2_ld hD2_st hD2_bx hD2_bd
end Go.Proofs.Ytmmcjcaccicheaa
