/- The two shelves. -/
import Derived.Test.YtkplkienbgoofaaDoorShelf
import Derived.Shelf.SortM.Plain
