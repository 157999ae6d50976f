/- The shelf. -/
import Derived.Shelf.Strings.SlTrimAscii
import Derived.Test.YteokbmngebckjaaShelf
