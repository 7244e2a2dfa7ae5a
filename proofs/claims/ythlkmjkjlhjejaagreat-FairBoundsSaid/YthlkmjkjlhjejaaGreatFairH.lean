/- FairBounds, walked, as the lift asks for it. -/
import Derived.Test.YthlkmjkjlhjejaaGreatFairG
namespace Go.Proofs.YthlkmjkjlhjejaaGreat
open Go.RowKit

theorem fairBounds_any (k : Int) (vs : Value) (xs : List Int) (kd i n : Int) (g : Bool) (a1 : Option Addr) (n1 c1 : Nat) (d : Value) (str : ByteArray) (w : World) (hv : Ints w vs xs) (_ : xs.length ≤ maxLen) :
    Calls Tryz.prog 3 #[.int .i64 k, vs, .agg (cmdC kd i n g (.slice a1 n1 c1) d str).toArray] w fun e w' => e = .returned (.bool true) ∧ Only [] w w' :=
  fb_any k xs vs kd i n g a1 n1 c1 d str w hv

end Go.Proofs.YthlkmjkjlhjejaaGreat
