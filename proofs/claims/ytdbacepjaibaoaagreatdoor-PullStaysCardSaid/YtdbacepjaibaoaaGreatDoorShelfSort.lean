/-
  The shelf's contracts of slices.Sort, as the shelf lays them here.
-/
import Derived.Test.YtdbacepjaibaoaaGreatDoorShelf
import Derived.Shelf.SortM.Plain
