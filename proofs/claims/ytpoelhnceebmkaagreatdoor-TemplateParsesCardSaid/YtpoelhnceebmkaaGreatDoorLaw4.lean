/- What the card of TemplateParses leans on. No conditions. -/
import Derived.Test.YtpoelhnceebmkaaGreatDoorLaw2
import Derived.Test.YtpoelhnceebmkaaGreatDoorE19
