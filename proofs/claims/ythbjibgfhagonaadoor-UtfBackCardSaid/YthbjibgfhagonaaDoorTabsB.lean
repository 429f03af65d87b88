/- The walk of UtfBack, beside the condition's words. -/
import Derived.Test.YthbjibgfhagonaaDoorTabs
import Derived.Test.YthbjibgfhagonaaDoorLawB
