/- The walk of UtfSigns, beside the condition's words. -/
import Derived.Test.YthbjibgfhagonaaDoorTabs
import Derived.Test.YthbjibgfhagonaaDoorLawS
