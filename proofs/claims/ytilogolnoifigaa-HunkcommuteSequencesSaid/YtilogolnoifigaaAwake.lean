/- The example of the chapter: awake returns true. -/
import Derived.Test.YtilogolnoifigaaGreat
namespace Go.Proofs.Ytilogolnoifigaa
open Go.RowKit

abbrev sB : ByteArray := ⟨#[98]⟩
abbrev sX : ByteArray := ⟨#[120]⟩
abbrev sY : ByteArray := ⟨#[121]⟩
abbrev sE : ByteArray := ⟨#[101]⟩
abbrev sC : ByteArray := ⟨#[99]⟩

/-- What is known of the example's memory: g0 to g3. -/
def AwB (g : Nat) (a : Hk) (w0 w : World) : Prop :=
  Ext w0 w ∧ Blk w g (.cells #[.string sB] 9) ∧ Blk w (g + 1) (.cells #[.string sX, .string sY] 9) ∧ Blk w (g + 2) a.obj ∧ Blk w (g + 3) (.cells #[.string sE] 9)
theorem AwB.ext {g : Nat} {a : Hk} {w0 w w' : World} (h : AwB g a w0 w) (e : Ext w w') : AwB g a w0 w' := ⟨h.1.trans e, h.2.1.ext e, h.2.2.1.ext e, h.2.2.2.1.ext e, h.2.2.2.2.ext e⟩
theorem AwB.start (w : World) (a : Hk) : AwB w.heap.size a w ((((w.alloc (.cells #[.string sB] 9)).alloc (.cells #[.string sX, .string sY] 9)).alloc a.obj).alloc (.cells #[.string sE] 9)) :=
  ⟨((((Ext.refl w).alloc _).alloc _).alloc _).alloc _, (((Blk.new w _ rfl).alloc _).alloc _).alloc _, ((Blk.new (w.alloc _) _ (by simp)).alloc _).alloc _, (Blk.new ((w.alloc _).alloc _) _ (by simp)).alloc _, Blk.new (((w.alloc _).alloc _).alloc _) _ (by simp)⟩

abbrev awA (g : Nat) : Hk := ⟨1, some ⟨g, 0, none⟩, 1, 1, some ⟨g + 1, 0, none⟩, 2, 2⟩
abbrev awE (g : Nat) (n : Int) : Hk := ⟨n, some ⟨g, 0, none⟩, 1, 1, none, 0, 0⟩
theorem awA_small (g : Nat) : (awA g).small := by constructor <;> simp [Reach]
theorem awE_small (g : Nat) (n : Int) : (awE g n).small := by constructor <;> simp [Reach]

theorem sameHunk_is {a b : Hk} {x y : AH} {r : Bool} {w : World} (h : x.same y = r) (ha : RH w a x) (hb : RH w b y) :
    Calls Try.prog 13 #[a.val, b.val] w fun e w' => e = .returned (.bool r) ∧ Ext w w' := by
  subst h; exact sameHunk_any a b x y w ha hb
theorem rh_awE {w : World} {g : Nat} {n : Int} (h : Blk w g (.cells #[.string sE] 9)) : RH w (awE g n) ⟨n, [sE], []⟩ :=
  ⟨awE_small g n, rfl, Strs.of_blk (ss := [sE]) h rfl (fun s hs => by rw [show s = sE from by simpa using hs]; decide), Strs.nil _ _⟩
theorem rh_awA {w : World} {g : Nat} (h : Blk w g (.cells #[.string sB] 9)) (h' : Blk w (g + 1) (.cells #[.string sX, .string sY] 9)) : RH w (awA g) ⟨1, [sB], [sX, sY]⟩ :=
  ⟨awA_small g, rfl, Strs.of_blk (ss := [sB]) h rfl (fun s hs => by rw [show s = sB from by simpa using hs]; decide), Strs.of_blk (ss := [sX, sY]) h' rfl (by intro s hs; simp only [List.mem_cons, List.not_mem_nil, or_false] at hs; rcases hs with rfl | rfl <;> decide)⟩

set_option maxHeartbeats 1000000 in
theorem awake_any (w : World) :
    Calls Try.prog 11 #[] w fun e w' => e = .returned (.bool true) ∧ Ext w w' := by
  go_enter Try.func11, Try.ntmps11
  go_wp2_with fail
  refine (commute_some (a := awA w.heap.size) (b := awE (w.heap.size + 3) 5) (x := awE (w.heap.size + 3) 4) (y := awA w.heap.size) (by simp [commuteV, Hk.ok]) _ (awA_small _) (awE_small _ _)).mono ?_
  rintro e w1 ⟨rfl, hE⟩
  have HV := Lib.hid ((AwB.start w (awA w.heap.size)).ext hE); clear hE
  obtain ⟨c0, c1, c2⟩ := HV.out.2.2.2.1.two3
  go_wp2_with fail
  refine (commute_none (a := awA w.heap.size) (b := ⟨3, some ⟨w1.heap.size + 2, 0, none⟩, 1, 1, none, 0, 0⟩) (by simp [commuteV, Hk.ok]) _ (awA_small _) (awE_small _ _)).mono ?_
  rintro e w2 ⟨rfl, hE⟩
  have HV2 := Lib.hid ((HV.out.ext ((((Ext.refl w1).alloc _).alloc _).alloc _)).ext hE)
  have HB2 := Lib.hid ((((Blk.new w1 (awE (w.heap.size + 3) 4).obj rfl).alloc (awA w.heap.size).obj).alloc _).ext hE)
  have HB3 := Lib.hid (((Blk.new (w1.alloc (awE (w.heap.size + 3) 4).obj) (awA w.heap.size).obj (g := w1.heap.size + 1) (by simp)).alloc _).ext hE)
  clear hE c0 c1 c2
  obtain ⟨c0, c1, c2⟩ := HB2.out.two3
  go_wp2_with fail
  clear c0 c1 c2
  have HV3 := Lib.hid (HV2.out.ext ((((Ext.refl w2).alloc Hk.zero.obj).alloc Hk.zero.obj).alloc (.cells #[.string sE] 9)))
  have HN := Lib.hid (Blk.new ((w2.alloc Hk.zero.obj).alloc Hk.zero.obj) (.cells #[.string sE] 9) (g := w2.heap.size + 2) (by simp))
  refine (sameHunk_is (a := awE (w.heap.size + 3) 4) (b := awE (w2.heap.size + 2) 4) (x := ⟨4, [sE], []⟩) (y := ⟨4, [sE], []⟩) (r := true) (AH.same_refl _) (rh_awE HV3.out.2.2.2.2) (rh_awE HN.out)).mono ?_
  rintro e w3 ⟨rfl, hE⟩
  have HV4 := Lib.hid (HV3.out.ext hE)
  obtain ⟨c0, c1, c2⟩ := HV4.out.2.2.2.1.cells3
  obtain ⟨d0, d1, d2⟩ := (HB3.out.ext (((((Ext.refl w2).alloc Hk.zero.obj).alloc Hk.zero.obj).alloc (.cells #[.string sE] 9)).trans hE)).cells3
  clear hE
  go_wp2_with fail
  refine (sameHunk_is (a := awA w.heap.size) (b := awA w.heap.size) (x := ⟨1, [sB], [sX, sY]⟩) (y := ⟨1, [sB], [sX, sY]⟩) (r := true) (AH.same_refl _) (rh_awA HV4.out.2.1 HV4.out.2.2.1) (rh_awA HV4.out.2.1 HV4.out.2.2.1)).mono ?_
  rintro e w4 ⟨rfl, hE⟩
  have HE := Lib.hid (HV4.out.1.trans hE); clear hE
  go_wp2_with fail
  go_ret
  exact ⟨rfl, HE.out⟩
end Go.Proofs.Ytilogolnoifigaa
