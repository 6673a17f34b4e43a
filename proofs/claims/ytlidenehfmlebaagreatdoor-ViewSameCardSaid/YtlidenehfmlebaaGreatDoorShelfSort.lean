/-
  slices.Sort by contract.
-/
import Derived.Test.YtlidenehfmlebaaGreatDoorShelf
import Derived.Shelf.SortM.Plain
