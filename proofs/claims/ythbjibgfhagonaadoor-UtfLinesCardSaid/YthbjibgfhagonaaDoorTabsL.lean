/- The walk of UtfLines, beside the condition's words. -/
import Derived.Test.YthbjibgfhagonaaDoorTabs
import Derived.Test.YthbjibgfhagonaaDoorLawL
