/-
  The readers' methods: the walks.
-/
import Derived.Test.YtamiebojjinhcaaGreatDoorRc
import Derived.Test.YtamiebojjinhcaaGreatDoorRs
import Derived.Test.YtamiebojjinhcaaGreatDoorViTake
import Derived.Deep.RegionHeld3
import Derived.Deep.RegionWith
import Derived.Deep.DrawnRows
set_option linter.unusedVariables false
namespace Go.Proofs.YtamiebojjinhcaaGreatDoor
open Go.RowKit

/-- block b is a reader of this text at this place, with this error -/
def Rdr (w : World) (b : Nat) (t : TypeId) (l : List UInt8) (st : Rd.St) : Prop := w.heap[b]? = some (.cells #[.string (str l), .int .i64 st.1, .int .i64 st.2] t (0, 0))
theorem Rdr.cells {w : World} {b : Nat} {t : TypeId} {l : List UInt8} {st : Rd.St} (h : Rdr w b t l st) : w.cell? ⟨b, 0, none⟩ = some (.string (str l)) ∧ w.cell? ⟨b, 1, none⟩ = some (.int .i64 st.1) ∧ w.cell? ⟨b, 2, none⟩ = some (.int .i64 st.2) := by
  refine ⟨?_, ?_, ?_⟩ <;> (unfold World.cell?; rw [h]; rfl)
theorem Rdr.frozen {w : World} {b : Nat} {t : TypeId} {l : List UInt8} {st : Rd.St} (h : Rdr w b t l st) (j : Nat) : w.frozen? ⟨b, j, none⟩ = false := by
  unfold World.frozen?; rw [h]; simp
theorem Rdr.lt {w : World} {b : Nat} {t : TypeId} {l : List UInt8} {st : Rd.St} (h : Rdr w b t l st) : b < w.heap.size := (Array.getElem?_eq_some_iff.1 h).1
theorem Rdr.keeps {w w' : World} {b : Nat} {t : TypeId} {l : List UInt8} {st : Rd.St} (h : Rdr w b t l st) (k : Keeps w w') : Rdr w' b t l st := (k.block h.lt).trans h
theorem Rdr.new (w : World) (t : TypeId) (l : List UInt8) (st : Rd.St) : Rdr (w.alloc (.cells #[.string (str l), .int .i64 st.1, .int .i64 st.2] t)) w.heap.size t l st := heap_alloc_new w _
theorem Rdr.set1 {w : World} {b : Nat} {t : TypeId} {l : List UInt8} {st : Rd.St} (h : Rdr w b t l st) (x : Int) : Rdr (w.setCell ⟨b, 1, none⟩ (.int .i64 x)) b t l (x, st.2) := by
  unfold Rdr at *
  simp [World.setCell, Array.getElem?_modify, h]
theorem Rdr.set2 {w : World} {b : Nat} {t : TypeId} {l : List UInt8} {st : Rd.St} (h : Rdr w b t l st) (x : Int) : Rdr (w.setCell ⟨b, 2, none⟩ (.int .i64 x)) b t l (st.1, x) := by
  unfold Rdr at *
  simp [World.setCell, Array.getElem?_modify, h]
set_option maxRecDepth 4000 in
set_option maxHeartbeats 1600000 in
theorem rd_number (b : Nat) (l : List UInt8) (hl : l.length ≤ 2 ^ 62) (st : Rd.St) (hst : Rd.Fine l st) (w : World) (hr : Rdr w b 277 l st) :
    Calls Tryz.prog 145 #[.pointer (some ⟨b, 0, none⟩)] w fun e w' => e = .returned (.int .i64 (Rd.num l st).1) ∧ Rdr w' b 277 l (Rd.num l st).2 ∧ Only b w w' := by
  obtain ⟨c0, c1, c2⟩ := hr.cells
  have f1 := hr.frozen 1
  have f2 := hr.frozen 2
  by_cases hs : st.2 = 0
  · obtain ⟨at_, e⟩ := st
    simp only at hs c1 c2
    subst hs
    have hg := get_any (str l) (by rw [str_size]; exact hl) at_ hst.1 hst.2.1
    rw [str_list] at hg
    have HE := Lib.hid (show Rd.num l (at_, 0) = ((Vi.get l at_).1, ((Vi.get l at_).2.1, (Vi.get l at_).2.2)) by unfold Rd.num; rw [if_pos rfl])
    obtain ⟨⟨x, y, z⟩, hx⟩ : ∃ g, Vi.get l at_ = g := ⟨_, rfl⟩
    rw [hx] at hg HE
    have HG := Lib.hid hg
    clear hg hx hst
    go_enter Tryz.func145, Tryz.ntmps145
    go_wp2_with fail
    go_region_with (go_at_call 67; refine (HG.out _).mono ?_; rintro e w' ⟨rfl, rfl⟩; simp only [ret3])
    all_goals
      go_wp2_with fail
      go_ret
      exact ⟨by rw [HE.out]; rfl, by rw [HE.out]; exact ((hr.set1 y).set2 z).keeps (Keeps.refl _).drew, (((Only.refl b w).set 1 _).set 2 _).trans (Only.of_keeps (Keeps.refl _).drew)⟩
  · have HE := Lib.hid (Rd.num_skip l hs)
    have hd : (st.2 == 0) = false := by simpa using hs
    clear hs
    go_enter Tryz.func145, Tryz.ntmps145
    go_wp2_with fail
    go_ret
    exact ⟨by rw [HE.out]; rfl, by rw [HE.out]; exact hr, Only.refl _ _⟩

set_option maxRecDepth 4000 in
set_option maxHeartbeats 1600000 in
theorem rd_text (b : Nat) (l : List UInt8) (hl : l.length ≤ 2 ^ 62) (st : Rd.St) (hst : Rd.Fine l st) (w : World) (hr : Rdr w b 277 l st) :
    Calls Tryz.prog 146 #[.pointer (some ⟨b, 0, none⟩)] w fun e w' => e = .returned (.string (str (Rd.txt 1000 l st).1)) ∧ Rdr w' b 277 l (Rd.txt 1000 l st).2 ∧ Only b w w' := by
  obtain ⟨c0, c1, c2⟩ := hr.cells
  have f1 := hr.frozen 1
  have f2 := hr.frozen 2
  by_cases hs : st.2 = 0
  · obtain ⟨at_, e⟩ := st
    simp only at hs c1 c2
    subst hs
    have hg := take (str l) (by rw [str_size]; exact hl) at_ hst.1 hst.2.1 1000
    rw [str_list] at hg
    have HE := Lib.hid (show Rd.txt 1000 l (at_, 0) = ((Vi.take l at_ 1000).1, ((Vi.take l at_ 1000).2.1, (Vi.take l at_ 1000).2.2)) by unfold Rd.txt; rw [if_pos rfl])
    obtain ⟨⟨x, y, z⟩, hx⟩ : ∃ g, Vi.take l at_ 1000 = g := ⟨_, rfl⟩
    rw [hx] at hg HE
    have HG := Lib.hid hg
    clear hg hx hst
    go_enter Tryz.func146, Tryz.ntmps146
    go_wp2_with fail
    go_region_with (go_at_call 70; refine (HG.out _).mono ?_; rintro e w' ⟨rfl, hk⟩; simp only [retT]; have hr2 := (hr.keeps (Keeps.refl _).drew).keeps hk; have ho2 := (Only.of_keeps (b := b) (Keeps.refl w).drew).trans (Only.of_keeps hk); have c12 := hr2.cells.2.1; have c22 := hr2.cells.2.2; have f12 := hr2.frozen 1; have f22 := hr2.frozen 2)
    all_goals
      go_wp2_with fail
      go_ret
      exact ⟨by rw [HE.out]; rfl, by rw [HE.out]; exact (hr2.set1 y).set2 z, (ho2.set 1 _).set 2 _⟩
  · have HE := Lib.hid (Rd.txt_skip 1000 l hs)
    have hd : (st.2 == 0) = false := by simpa using hs
    clear hs
    go_enter Tryz.func146, Tryz.ntmps146
    go_wp2_with fail
    go_ret
    exact ⟨by rw [HE.out]; rfl, by rw [HE.out]; exact hr, Only.refl _ _⟩

set_option maxRecDepth 4000 in
theorem rd_want (b : Nat) (l : List UInt8) (st : Rd.St) (is : Bool) (w : World) (hr : Rdr w b 277 l st) :
    Calls Tryz.prog 147 #[.pointer (some ⟨b, 0, none⟩), .bool is] w fun e w' => e = .returned (.tuple #[]) ∧ Rdr w' b 277 l (Rd.want is st) ∧ Only b w w' := by
  obtain ⟨c0, c1, c2⟩ := hr.cells
  have f2 := hr.frozen 2
  obtain ⟨at_, e⟩ := st
  simp only at c2
  by_cases hs : e = 0
  · subst hs
    cases is
    · go_enter Tryz.func147, Tryz.ntmps147
      go_wp2_with fail
      go_end0
      exact ⟨rfl, hr.set2 3, (Only.refl b w).set 2 _⟩
    · go_enter Tryz.func147, Tryz.ntmps147
      go_wp2_with fail
      go_end0
      exact ⟨rfl, by rw [Rd.want_true]; exact hr, Only.refl _ _⟩
  · have hd : (e == 0) = false := by simpa using hs
    have HE := Lib.hid (Rd.want_skip is (st := (at_, e)) hs)
    clear hs
    go_enter Tryz.func147, Tryz.ntmps147
    go_wp2_with fail
    go_end0
    exact ⟨rfl, by rw [HE.out]; exact hr, Only.refl _ _⟩
end Go.Proofs.YtamiebojjinhcaaGreatDoor
