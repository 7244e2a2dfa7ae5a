/- Disks that are in order stay so when texts are put. -/
import Derived.Test.YtmogkiacakkmbaaTwinS
namespace Go.Proofs.Ytmogkiacakkmbaa
theorem zwrite_ok {m : DM} (h : m.Ok) (f n : Nat) (a : Int) (s : ByteArray) : (zwrite m f n a s).Ok := by
  unfold zwrite
  split
  · exact h
  · split
    · exact h.write _ _
    · exact h
theorem putJ_ok {m : DM} (h : m.Ok) (f n : Nat) (a : Int) (l : List ByteArray) : ∀ j, (putJ m f n a l j).1.Ok
  | 0 => h
  | j + 1 => by
    have := putJ_ok h f n a l j
    unfold putJ
    split
    · exact this
    · exact zwrite_ok this _ _ _ _
theorem fillJ_ok {m : DM} (h : m.Ok) (f n : Nat) (s : ByteArray) : ∀ j, (fillJ m f n s j).1.Ok
  | 0 => h
  | j + 1 => by
    have := fillJ_ok h f n s j
    unfold fillJ
    split
    · exact this
    · split
      · exact this
      · split
        · exact this
        · exact zwrite_ok this _ _ _ _
theorem putR_ok {m : DM} (h : m.Ok) (f n : Nat) (a num : Int) (s : ByteArray) : (putR m f n a num s).1.Ok := by
  unfold putR
  split
  · exact h
  · split
    · exact h
    · exact putJ_ok h _ _ _ _ _
end Go.Proofs.Ytmogkiacakkmbaa
