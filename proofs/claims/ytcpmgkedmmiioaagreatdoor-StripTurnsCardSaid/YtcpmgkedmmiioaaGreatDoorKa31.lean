/- stripTurns_card, part 31: what the row's proof needs: words of the print, contracts of functions, the plain law. -/
import Derived.Test.YtcpmgkedmmiioaaGreatDoorKa29
section
set_option linter.unusedVariables false
namespace Go.Proofs.YtcpmgkedmmiioaaGreatDoor.T
open Go.RowKit Go.Proofs.YtcpmgkedmmiioaaGreatDoor.P Go.Proofs.YtcpmgkedmmiioaaGreatDoorW.PrintWords Go.Proofs.YtcpmgkedmmiioaaGreatDoorW.PrintLast
open H (txt Up isStrip beginsf wordl stripl Near IsCode labelf symf bad31 encf mods isMod accu symb chunk)
/-- the module that Change lays -/
def nb (l : List UInt8) (i : Nat) (how : Int) : UInt8 := if how = 1 then 63 else if l.getD i 0 = 48 then 49 else 48
theorem put_list (l : List UInt8) (i : Nat) (b : UInt8) (hi : i < l.length) : H.putb (txt l) i b = txt (l.set i b) := by
  unfold H.putb
  apply ByteArray.ext
  rw [← Array.toList_inj]
  simp only [ByteArray.data_append, Array.toList_append, ByteArray.data_extract, Array.toList_extract, List.extract_eq_take_drop, H.txt_list, H.txt_size]
  rw [List.set_eq_take_append_cons_drop, if_pos hi]
  simp only [Nat.sub_zero, List.drop_zero, List.append_assoc, List.singleton_append]
  congr 2
  exact (List.take_of_length_le (by rw [List.length_drop]; exact Nat.le_refl _))
theorem change_f {l : List UInt8} (hl : l.length ≤ 1000) {i : Nat} (hi : i < l.length) (how : Int) : awardingbodymake_Change.f (txt l) (i : Int) how = some (txt (l.set i (nb l i how))) := by
  unfold awardingbodymake_Change.f
  rw [H.txt_size, if_pos (by omega)]
  unfold H.changef
  rw [H.txt_size, if_pos (by omega), Int.toNat_natCast, put_list _ _ _ hi]
  congr 2
end Go.Proofs.YtcpmgkedmmiioaaGreatDoor.T
end
