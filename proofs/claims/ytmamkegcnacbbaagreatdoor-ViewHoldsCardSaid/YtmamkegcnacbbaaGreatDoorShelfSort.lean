/-
  The layings of slices.Sort stand in the shelf of this seat.
-/
import Derived.Test.YtmamkegcnacbbaaGreatDoorShelf
import Derived.Shelf.Sort.Plain
