/-
  The layings of slices.Sort stand in the shelf of this seat.
-/
import Derived.Test.YtpicbimhgicnmaaGreatDoorShelf
import Derived.Shelf.Sort.Plain
