/-
  Of all roots that are made the pages are a tree in the form of the document, and just these are told, and each is in use. No condition. (part 49)
-/
import Derived.Test.YtfhbmblbidcmmaaGreatSk41
import Derived.Test.YtfhbmblbidcmmaaGreatSk21
set_option linter.unusedSimpArgs false
set_option linter.unusedVariables false

