/- The two shelves. -/
import Derived.Test.YtkplkienbgoofaaGreatDoorShelf
import Derived.Shelf.SortM.Plain
