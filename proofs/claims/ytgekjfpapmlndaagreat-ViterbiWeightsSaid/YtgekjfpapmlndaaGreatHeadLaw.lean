/- The head of a dump that was cut: what the builder asks of it, once for all. -/
import Derived.Test.YtgekjfpapmlndaaGreatRows
import Derived.WalkKit
import Derived.JoinedOf
namespace Go.Proofs.YtgekjfpapmlndaaGreat
open Go Go.Proofs

theorem strip_cut (R : List (List Char)) : stripLifts liftWords ("cut".toList :: R) = ([], "cut".toList :: R) := by
  simp [stripLifts, liftWords]
theorem headLifts_cut {P : Program} {R : List (List Char)} (h : behindMainWord (wordsSigns P.initOrder.toList) = "cut".toList :: R) : P.headLifts = [] := by
  unfold Program.headLifts
  rw [h]
  simp only [strip_cut]
  rfl
theorem mayEnter_cut {P : Program} {R : List (List Char)} (h : behindMainWord (wordsSigns P.initOrder.toList) = "cut".toList :: R) (h1 : P.laysLater = false) (h2 : P.bearsReflect = false) (h3 : P.doorFits [] = true) : P.mayEnter = true := by
  unfold Program.mayEnter
  rw [h]
  simp only [strip_cut, h1, h2, h3]
  rfl
theorem liftsFinal_cut {P : Program} {R : List (List Char)} (h : behindMainWord (wordsSigns P.initOrder.toList) = "cut".toList :: R) : P.liftsFinal = false := by
  unfold Program.liftsFinal
  rw [headLifts_cut h, h]
  rfl
theorem make_cut {P : Program} {R : List (List Char)} (h : behindMainWord (wordsSigns P.initOrder.toList) = "cut".toList :: R) : P.make = some .cut := by
  unfold Program.make
  rw [h]
  rfl
end Go.Proofs.YtgekjfpapmlndaaGreat
